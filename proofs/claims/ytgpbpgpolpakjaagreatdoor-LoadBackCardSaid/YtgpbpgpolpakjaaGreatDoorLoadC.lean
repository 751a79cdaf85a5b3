/- Walks: the bytes of a file's set. -/
import Derived.Test.YtgpbpgpolpakjaaGreatDoorLoadB
import Derived.Test.YtgpbpgpolpakjaaGreatDoorSemiW
set_option linter.unusedVariables false
set_option linter.unusedSimpArgs false
set_option maxRecDepth 100000
namespace Go.Proofs.YtgpbpgpolpakjaaGreatDoor
open Go.RowKit Go.Shelf L

theorem L.idxOf_le (s : ByteArray) (r : RecN) (h : (sub_ (nb s) r.a r.b).length ≤ 4096) : (idxOf s r).size ≤ 140000 := by
  unfold idxOf
  split
  · exact idxS_few h
  · show 0 ≤ _; omega
theorem L.entsL_le (m : Nat) : ∀ es : List EntI, (∀ x ∈ es, x.s.size ≤ m) → (entsL es).length ≤ es.length * (33 + m)
  | [], _ => by simp [entsL]
  | x :: es, h => by
    have ih := entsL_le m es (fun y hy => h y (List.mem_cons_of_mem _ hy))
    have hx := h x List.mem_cons_self
    rw [entsL_cons, List.length_append, entL_length, List.length_cons, Nat.succ_mul]
    omega
theorem L.tblS_head (s : ByteArray) (deep : Nat) (hs : s.size ≤ 4096) : (headL (tblS s deep)).length ≤ 1000000000 := by
  have hf := recs_few (nb s) deep
  rw [nb_length] at hf
  have hl : (tblS s deep).es.length = (recs (nb s) deep).length := by unfold tblS; rw [List.length_map]
  have h1 := entsL_le 140000 (tblS s deep).es (fun x hx => by
    obtain ⟨r, hr, rfl⟩ := List.mem_map.1 (show x ∈ (recs (nb s) deep).map (recE s) from hx)
    exact idxOf_le s r (by have := (rec_ok hr hs).2.2.2.2.2.2; omega))
  rw [headL_length]
  have h2 : (tblS s deep).es.length * (33 + 140000) ≤ 4096 * (33 + 140000) := Nat.mul_le_mul_right _ (by omega)
  omega
/-- The bytes of a file's table. -/
def L.tabS (s : ByteArray) (deep : Nat) : ByteArray := ⟨(tabL (tblS s deep)).toArray⟩

set_option maxHeartbeats 4000000 in
theorem setBytes_any (g : Nat) (s : ByteArray) (deep : Nat) (w : World) (h : SetAt w g s deep) (hT : Tab w) (hs : s.size ≤ 4096) (h1 : 1 ≤ deep) (h2 : deep ≤ 4096) :
    Calls Tryz.prog 21 #[.pointer (some ⟨g, 0, none⟩)] w fun e w' => e = .returned (.string (tabS s deep)) ∧ Below w.heap.size w w' := by
  obtain ⟨i0, hi, iz0, iz1, iz2⟩ := info_parts Tryz.infoEnt
  have HWR := hid (fun A c W hl => idxWrite_any (tblS s deep) A c W hl (tblS_form s deep hs h1 h2) (tblS_head s deep hs))
  have HTS := hid (show tabS s deep = ⟨(tabL (tblS s deep)).toArray⟩ from rfl)
  obtain ⟨Al, cl, Ai, ci, ps, g1, g2, g3, g4, g5⟩ := h
  have hfew := recs_few (nb s) deep
  rw [nb_length] at hfew
  have HOK := hid (fun r (hr : r ∈ recs (nb s) deep) => rec_ok hr hs)
  have HES := hid (show (tblS s deep).es = (recs (nb s) deep).map (recE s) from rfl)
  have HDS := hid (show (tblS s deep).deep = (deep : Nat) ∧ (tblS s deep).size = (s.size : Nat) from ⟨rfl, rfl⟩)
  have HEN := hid (fun a b v p W => loadEntry_any a b v p W)
  have HNB := hid (fun a b => nb_ext s a b)
  have k0 := g1.cell 0
  have k1 := g1.cell 1
  have hss : (s.size : Int) ≤ 4096 := by omega
  have hgl := g1.lt
  have y0 : ∀ o : Obj, (w.alloc o).cell? ⟨g, 0, none⟩ = some (.string s) := fun o => (g1.alloc o).cell 0
  have y1 : ∀ o : Obj, (w.alloc o).cell? ⟨g, 1, none⟩ = some (.int .i64 (deep : Nat)) := fun o => (g1.alloc o).cell 1
  generalize recs (nb s) deep = X at *
  have G1 := hid g1
  go_enter Tryz.func21, Tryz.ntmps21
  go_wp2_with fail
  go_region
  have hX0 : BlkIs (w.alloc (.cells #[.int .i64 (deep : Nat), .int .i64 (s.size : Nat), .slice none 0 0] 107)).drew w.heap.size 107 #[.int .i64 (deep : Nat), .int .i64 (s.size : Nat), .slice none 0 0] := BlkIs.new w _ _
  have hB0 : Below w.heap.size w (w.alloc (.cells #[.int .i64 (deep : Nat), .int .i64 (s.size : Nat), .slice none 0 0] 107)).drew := ((Below.refl _ _).alloc (Nat.le_refl _) _).drew
  have hz0 : (w.alloc (.cells #[.int .i64 (deep : Nat), .int .i64 (s.size : Nat), .slice none 0 0] 107)).drew.heap.size = w.heap.size + 1 := by simp
  have k2 := (G1.out.below hB0).cell 2
  have k3 := (G1.out.below hB0).cell 3
  clear y0 y1 k0 k1
  generalize (w.alloc (.cells #[.int .i64 (deep : Nat), .int .i64 (s.size : Nat), .slice none 0 0] 107)).drew = W0 at *
  go_wp2_with fail
  go_loopw [24] (fun iv wr => ∃ (k : Nat) (A : Option Addr) (c : Nat), k ≤ X.length ∧ iv = .int .i64 (k : Nat) ∧ BlkIs wr w.heap.size 107 #[.int .i64 (deep : Nat), .int .i64 (s.size : Nat), .slice A k c] ∧ wr.ownsRow (w.heap.size + 1) 113 5 (.slice A k c) k (entC ((X.take k).map (recE s))) ∧ Below w.heap.size w wr) (fun iv _ => X.length - (intOf iv).toNat)
  case atStart => exact ⟨0, none, 0, by omega, rfl, hX0, World.ownsRow_nil _ _ _ _, hB0⟩
  case round =>
    obtain ⟨k, A, c, hk, rfl, hXT, hown, hB⟩ := hrel
    clear hX0 hB0 hz0 k2 k3
    have hz := hB.size
    have hTl := hXT.lt
    have hG := G1.out.below hB
    have k2 := hG.cell 2
    have k3 := hG.cell 3
    have t0 := hXT.cell 0
    have t1 := hXT.cell 1
    have t2 := hXT.cell 2
    have hlt5 := fun j hj => hown.lt j hj
    rcases Nat.lt_or_ge k X.length with hlt | hge
    · have hki : (k : Int) < (X.length : Int) := by omega
      have hk0 : (0 : Int) ≤ (k : Int) := by omega
      have hkW := wrap_oneS k (by omega)
      obtain ⟨gl, ol, rfl, q0, q1, q2, q3⟩ := rec_cells (g2.below hB) hlt
      have hr := HOK.out X[k] (List.getElem_mem hlt)
      have hXk : X[k]? = some X[k] := List.getElem?_eq_getElem hlt
      have hok := g5 k X[k] (by omega) hXk
      have HT := hid (show entC ((X.take (k + 1)).map (recE s)) = entC ((X.take k).map (recE s)) ++ entV (recE s X[k]) by rw [List.take_succ_eq_append_getElem hlt, List.map_append, List.map_cons, List.map_nil, entC_snoc])
      generalize X[k] = r at *
      clear hXk
      obtain ⟨ra, rb, rv, rp⟩ := r
      dsimp only at q0 q1 q2 q3 hr hok
      obtain ⟨m1, m2, m3, m4, m5, m6, m7⟩ := hr
      have hRa := BlkIs.new wr 96 #[.int .i64 (ra : Nat), .int .i64 (rb : Nat), .int .i64 (rv : Nat), .int .i64 (rp : Nat)]
      have hBa : Below wr.heap.size wr (wr.alloc (.cells #[.int .i64 (ra : Nat), .int .i64 (rb : Nat), .int .i64 (rv : Nat), .int .i64 (rp : Nat)] 96)) := (Below.refl _ _).alloc (Nat.le_refl _) _
      have e0 := hRa.cell 0
      have e1 := hRa.cell 1
      have e2 := hRa.cell 2
      have e3 := hRa.cell 3
      go_wp2_with fail
      refine (HEN.out _ _ _ _ _).mono ?_
      rintro e w3 ⟨rfl, hB3⟩
      have hB03 := hBa.trans (hB3.mono hBa.size)
      clear hRa hBa e0 e1 e2 e3 hB3 q0 q1 q2 q3
      have hEX := BlkIs.new w3 113 #[.int .i64 (ra : Nat), .int .i64 (rb : Nat), .int .i64 (rv : Nat), .int .i64 (rp : Nat), .string ⟨#[]⟩]
      have hB04 := hB03.alloc hB03.size (.cells #[.int .i64 (ra : Nat), .int .i64 (rb : Nat), .int .i64 (rv : Nat), .int .i64 (rp : Nat), .string ⟨#[]⟩] 113)
      have hz4 : (w3.alloc (.cells #[.int .i64 (ra : Nat), .int .i64 (rb : Nat), .int .i64 (rv : Nat), .int .i64 (rp : Nat), .string ⟨#[]⟩] 113)).heap.size = w3.heap.size + 1 := by simp
      have hz3 := hB03.size
      have hG4 := hG.below hB04
      have hX4 := hXT.below hB04
      have x3 := hG4.cell 3
      have u2 := hX4.cell 2
      by_cases hv : rv = 1
      · obtain ⟨gi, hq, hxi⟩ := hok.1 hv
        have HV := hid hv
        clear hv hok
        obtain ⟨gp, op, rfl, hgp, kp⟩ := ptr_cell ((g3.below hB).below hB04) hq
        have hBB : Below w.heap.size w (w3.alloc (.cells #[.int .i64 (ra : Nat), .int .i64 (rb : Nat), .int .i64 (rv : Nat), .int .i64 (rp : Nat), .string ⟨#[]⟩] 113)) := hB.trans (hB04.mono hz)
        have hx4 := hxi.below (hBB)
        have hT4 := hT.below hBB
        have hw1 : (nb (s.extract ra rb)).length ≤ 4096 := by rw [HNB.out]; unfold sub_ at m7; omega
        have HBY := hid (fun W hW hTW => semiBytes_any gi (s.extract ra rb) W hW hTW (by omega) (by rw [places_length]; have := mks_length (nb (s.extract ra rb)); omega))
        have HIX := hid (show entV (recE s ⟨ra, rb, rv, rp⟩) = [.int .i64 (ra : Nat), .int .i64 (rb : Nat), .int .i64 (rv : Nat), .int .i64 (rp : Nat), .string (idxS (nb (s.extract ra rb)))] from by
          show [Value.int .i64 (ra : Nat), .int .i64 (rb : Nat), .int .i64 (rv : Nat), .int .i64 (rp : Nat), .string (idxOf s ⟨ra, rb, rv, rp⟩)] = _
          have : idxOf s ⟨ra, rb, rv, rp⟩ = idxS (nb (s.extract ra rb)) := by
            unfold idxOf
            rw [if_pos HV.out, HNB.out]; rfl
          rw [this])
        rw [HIX.out] at HT
        generalize idxS (nb (s.extract ra rb)) = I at *
        clear hw1 HIX
        go_wp2_with fail
        generalize (w3.alloc (.cells #[.int .i64 (ra : Nat), .int .i64 (rb : Nat), .int .i64 (rv : Nat), .int .i64 (rp : Nat), .string ⟨#[]⟩] 113)) = w4 at *
        refine (HBY.out w4 hx4 hT4).mono ?_
        rintro e w5 ⟨rfl, hB5⟩
        obtain ⟨E, hE⟩ : ∃ E, E = w3.heap.size := ⟨_, rfl⟩
        rw [← hE] at hEX hz4 hz3 ⊢
        clear hE
        have hEl := hEX.lt
        have hE5 := hEX.below hB5
        have hB05 := hB04.trans (hB5.mono hB04.size)
        have hBW := hBB.trans (hB5.mono hBB.size)
        have hX5 := hX4.below hB5
        have a0 := hE5.cell 0
        have a1 := hE5.cell 1
        have a2 := hE5.cell 2
        have a3 := hE5.cell 3
        have a4 := hE5.cell 4
        have af := hE5.frozen 4
        have neET : w.heap.size ≠ E := by omega
        have hX6 := hX5.far (p := ⟨E, 4, none⟩) neET (.string I)
        have u2 := hX6.cell 2
        have hz5 := hBW.size
        have hs6 : (w5.setCell ⟨E, 4, none⟩ (.string I)).heap.size = w5.heap.size := by simp
        have hl5 := hX5.lt
        have hown5 : w5.ownsRow (w.heap.size + 1) 113 5 (.slice A k c) k (entC ((X.take k).map (recE s))) := own_only (S := fun _ => False) hown (Only.of_below hB05) (fun _ _ h => h)
        have hown6 : (w5.setCell ⟨E, 4, none⟩ (.string I)).ownsRow (w.heap.size + 1) 113 5 (.slice A k c) k (entC ((X.take k).map (recE s))) := own_only (S := fun b => b = E) hown5 ((Only.refl (fun b => b = E) w5).setCell (p := ⟨E, 4, none⟩) (.inl rfl) (.string I)) (fun j hj e => by have := (hlt5 j hj).2; omega)
        clear hown5 HBY hxi hX4 hEX hE5 hx4 hT4 hBB hB04
        go_wp2_with (at_builtin
                     go_must (refine wpList_append_own_at _ rfl (.tmp 49) (.tmp 51) 105 rfl (w.heap.size + 1) 113 i0 _ 5 48 Tryz.underlying105 hi iz0 iz1 iz2 rfl (by decide) (.slice A k c) k _ rfl (hown6.alloc _) ⟨w5.heap.size, 0, none⟩ 1 1 [.int .i64 (ra : Nat), .int .i64 (rb : Nat), .int .i64 (rv : Nat), .int .i64 (rp : Nat), .string I] rfl rfl (cell_five_at _ _ _ _ _ _ _ _ (by simp)) ?hone ?h63 ?hby ?hbs ?_)
                     go_must (case hone => simp [Value.oneCell'])
                     go_must (case h63 => simp only [maxLen]; omega)
                     go_must (case hby => omega)
                     go_must (case hbs => simp; omega)
                     intro v7 w7 hown7 hgr7 _ hat7
                     obtain ⟨A7, c7, rfl⟩ := own_slice hown7
                     have hX7 : BlkIs w7 w.heap.size 107 #[.int .i64 (deep : Nat), .int .i64 (s.size : Nat), .slice A k c] := (hX6.alloc _).kept (hgr7.block w.heap.size (by simp; omega) (fun e => by have := (hlt5 _ e.symm).1; omega))
                     have t7 := hX7.cell 2
                     have f7 := hX7.frozen 2)
        have hB7 : Below w.heap.size w w7 := ((hBW.setCell (p := ⟨E, 4, none⟩) (by simp; omega) (.string I)).alloc (by simp; omega) (.cells #[.int .i64 (ra : Nat), .int .i64 (rb : Nat), .int .i64 (rv : Nat), .int .i64 (rp : Nat), .string I] 113)).grown hgr7 (by simp; omega) (fun j hj => by have := (hlt5 j hj).1; omega)
        have hnb7 : (Value.slice A7 (k + 1) c7).ownBlock ≠ some w.heap.size := fun e => by have := (hown7.lt _ e).1; omega
        have hown8 := own_only hown7 ((Only.refl (fun b => b = w.heap.size) w7).setCell (p := ⟨w.heap.size, 2, none⟩) (.inl rfl) (.slice A7 (k + 1) c7)) (fun j hj e => hnb7 (by rw [hj, e]))
        go_wp2_with fail
        go_roundw
        case rel => exact ⟨k + 1, A7, c7, by omega, by go_num, hX7.put 2 _, by rw [HT.out]; exact hown8, hB7.setCell (p := ⟨w.heap.size, 2, none⟩) (Nat.le_refl _) _⟩
        case measure => simp [intOf]; omega
      · have hq := hok.2 hv
        have HV := hid hv
        clear hv hok
        obtain ⟨gp, op, rfl, hgp, kp⟩ := ptr_cell ((g3.below hB).below hB04) hq
        have hBB : Below w.heap.size w (w3.alloc (.cells #[.int .i64 (ra : Nat), .int .i64 (rb : Nat), .int .i64 (rv : Nat), .int .i64 (rp : Nat), .string ⟨#[]⟩] 113)) := hB.trans (hB04.mono hz)
        have HIX := hid (show entV (recE s ⟨ra, rb, rv, rp⟩) = [.int .i64 (ra : Nat), .int .i64 (rb : Nat), .int .i64 (rv : Nat), .int .i64 (rp : Nat), .string ⟨#[]⟩] from by
          show [Value.int .i64 (ra : Nat), .int .i64 (rb : Nat), .int .i64 (rv : Nat), .int .i64 (rp : Nat), .string (idxOf s ⟨ra, rb, rv, rp⟩)] = _
          have : idxOf s ⟨ra, rb, rv, rp⟩ = ⟨#[]⟩ := by
            unfold idxOf
            rw [if_neg HV.out]
          rw [this])
        rw [HIX.out] at HT
        have hl4 := hX4.lt
        have hown4 : (w3.alloc (.cells #[.int .i64 (ra : Nat), .int .i64 (rb : Nat), .int .i64 (rv : Nat), .int .i64 (rp : Nat), .string ⟨#[]⟩] 113)).ownsRow (w.heap.size + 1) 113 5 (.slice A k c) k (entC ((X.take k).map (recE s))) := own_only (S := fun _ => False) hown (Only.of_below hB04) (fun _ _ h => h)
        have hX6 := hX4
        rw [hz4] at hl4
        clear HIX hEX HV
        go_wp2_with (at_builtin
                     go_must (refine wpList_append_own_at _ rfl (.tmp 49) (.tmp 51) 105 rfl (w.heap.size + 1) 113 i0 _ 5 48 Tryz.underlying105 hi iz0 iz1 iz2 rfl (by decide) (.slice A k c) k _ rfl (hown4.alloc _) ⟨w3.heap.size + 1, 0, none⟩ 1 1 [.int .i64 (ra : Nat), .int .i64 (rb : Nat), .int .i64 (rv : Nat), .int .i64 (rp : Nat), .string ⟨#[]⟩] rfl rfl (cell_five_at _ _ _ _ _ _ _ _ (by simp)) ?hone ?h63 ?hby ?hbs ?_)
                     go_must (case hone => simp [Value.oneCell'])
                     go_must (case h63 => simp only [maxLen]; omega)
                     go_must (case hby => omega)
                     go_must (case hbs => simp; omega)
                     intro v7 w7 hown7 hgr7 _ hat7
                     obtain ⟨A7, c7, rfl⟩ := own_slice hown7
                     have hX7 : BlkIs w7 w.heap.size 107 #[.int .i64 (deep : Nat), .int .i64 (s.size : Nat), .slice A k c] := (hX6.alloc _).kept (hgr7.block w.heap.size (by simp; omega) (fun e => by have := (hlt5 _ e.symm).1; omega))
                     have t7 := hX7.cell 2
                     have f7 := hX7.frozen 2)
        have hB7 : Below w.heap.size w w7 := (hBB.alloc (by simp; omega) (.cells #[.int .i64 (ra : Nat), .int .i64 (rb : Nat), .int .i64 (rv : Nat), .int .i64 (rp : Nat), .string ⟨#[]⟩] 113)).grown hgr7 (by simp; omega) (fun j hj => by have := (hlt5 j hj).1; omega)
        have hnb7 : (Value.slice A7 (k + 1) c7).ownBlock ≠ some w.heap.size := fun e => by have := (hown7.lt _ e).1; omega
        have hown8 := own_only hown7 ((Only.refl (fun b => b = w.heap.size) w7).setCell (p := ⟨w.heap.size, 2, none⟩) (.inl rfl) (.slice A7 (k + 1) c7)) (fun j hj e => hnb7 (by rw [hj, e]))
        go_wp2_with fail
        go_roundw
        case rel => exact ⟨k + 1, A7, c7, by omega, by go_num, hX7.put 2 _, by rw [HT.out]; exact hown8, hB7.setCell (p := ⟨w.heap.size, 2, none⟩) (Nat.le_refl _) _⟩
        case measure => simp [intOf]; omega
    · obtain rfl : k = X.length := by omega
      rw [List.take_length, ← HES.out] at hown
      have hl9 := own_lst2 hown (by omega)
      have HW9 := hid (show Calls Tryz.prog 71 #[.agg #[.int .i64 (deep : Nat), .int .i64 (s.size : Nat), .slice A X.length c]] wr fun e w' => e = .returned (.tuple #[.string (tabS s deep), .int .i64 0]) ∧ Below wr.heap.size wr w' from by
        have := HWR.out A c wr hl9
        rw [HDS.out.1, HDS.out.2, ← HTS.out, show (tblS s deep).es.length = X.length from by rw [HES.out, List.length_map]] at this
        exact this)
      clear HWR HES HDS HOK HTS
      go_wp2_with fail
      refine (HW9.out).mono ?_
      rintro e w5 ⟨rfl, hB5⟩
      go_wp2_with fail
      go_ret
      exact ⟨rfl, hB.trans (hB5.mono hz)⟩
end Go.Proofs.YtgpbpgpolpakjaaGreatDoor
