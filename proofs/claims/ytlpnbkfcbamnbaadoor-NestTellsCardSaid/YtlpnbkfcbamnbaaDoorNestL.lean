/- Walks: the reference of chapter 08: Nodes. -/
import Derived.Test.YtlpnbkfcbamnbaaDoorNestK
set_option linter.unusedVariables false
set_option linter.unusedSimpArgs false
set_option maxRecDepth 100000
namespace Go.Proofs.YtlpnbkfcbamnbaaDoor
open Go.RowKit L

/-- The list of a row's nodes. -/
structure LOk (bs : List Bool) (L : List Nd) : Prop where
  len : L.length = cP (bitAt bs) bs.length
  nd : ∀ v, v < bs.length → bitAt bs v = true → L[cP (bitAt bs) v]? = some (ndOf (bitAt bs) bs.length v)
theorem Tryd.infoNd : (Tryd.prog.info? 65).map (fun i => (i.zero, i.size, i.bytes)) = some (some (.agg #[.int .i64 0, .int .i64 0, .int .i64 0, .int .i64 0]), 4, 32) := by kernel_rfl
theorem own_cut8 {w : World} {base : Nat} {e : TypeId} {A : Option Addr} {n c k : Nat} {xs : List Value} (h : w.ownsRow base e 1 (.slice A n c) n xs) (hk : k ≤ n) : w.ownsRow base e 1 (.slice A k c) k (xs.take k) := by
  have hl := h.1
  refine ⟨by rw [List.length_take]; omega, ?_⟩
  rcases h.2 with ⟨h1, h2⟩ | ⟨g, cap, cur, h1, h2, h3, h4, h5, h6, h7⟩
  · left
    simp only [Value.slice.injEq] at h1
    obtain ⟨rfl, rfl, rfl⟩ := h1
    exact ⟨by rw [show k = 0 from by omega], by omega⟩
  · right
    simp only [Value.slice.injEq, true_and] at h1
    obtain ⟨rfl, rfl⟩ := h1
    refine ⟨g, c, cur, rfl, h2, h3, by omega, h5, h6, ?_⟩
    rw [← h7, List.take_take, Nat.min_eq_left (by omega), Nat.mul_one]
theorem own_ne8 {w : World} {base base' : Nat} {e e' : TypeId} {size size' n n' : Nat} {v v' : Value} {xs xs' : List Value} (h : w.ownsRow base e size v n xs) (h' : w.ownsRow base' e' size' v' n' xs') (hne : e ≠ e') : v.ownBlock = none ∨ v.ownBlock ≠ v'.ownBlock := by
  rcases h.2 with ⟨rfl, _⟩ | ⟨g, cap, cur, rfl, _, h3, _⟩
  · left; rfl
  · right
    rcases h'.2 with ⟨rfl, _⟩ | ⟨g', cap', cur', rfl, _, h3', _⟩
    · simp [Value.ownBlock]
    · intro he
      simp only [Value.ownBlock, Option.some.injEq] at he
      subst he
      rw [h3] at h3'
      simp only [Option.some.injEq, Obj.cells.injEq] at h3'
      exact hne h3'.2.1

theorem cell_four8 (w : World) (x y z u : Value) (e : TypeId) (k : Nat) (hk : k = w.heap.size) : ∀ j v, [x, y, z, u][j]? = some v → (w.alloc (.cells #[x, y, z, u] e)).cell? ((⟨k, 0, none⟩ : Addr).add j) = some v := by
  subst hk
  intro j v hv
  rw [add_zero_, (BlkIs.new w e #[x, y, z, u]).cell j]
  simpa using hv
theorem own_some8 {w : World} {base : Nat} {e : TypeId} {size n c : Nat} {A : Option Addr} {xs : List Value} (h : w.ownsRow base e size (.slice A n c) n xs) (hn : 0 < n) : ∃ g, A = some ⟨g, 0, none⟩ ∧ n ≤ c := by
  rcases h.2 with ⟨_, h2⟩ | ⟨g, cap, cur, h1, _, _, h4, _⟩
  · omega
  · simp only [Value.slice.injEq] at h1
    exact ⟨g, h1.1, by rw [h1.2.2]; exact h4⟩
set_option maxHeartbeats 4000000 in
theorem refNodes_any (A : Option Addr) (c : Nat) (bs : List Bool) (w : World) (hl : Lst w A (bools bs)) (hb : bal (bitAt bs) bs.length = true) (hsm : bs.length ≤ 4000) :
    Calls Tryd.prog 50 #[.slice A bs.length c] w fun e w' => ∃ A1 c1 L, e = .returned (.slice A1 L.length c1) ∧ NdAt w' A1 L ∧ LOk bs L ∧ Below w.heap.size w w' := by
  obtain ⟨i0, hi0, iz0, iz1, iz2⟩ := info_parts Tryd.infoInt
  obtain ⟨i1, hi1, jz0, jz1, jz2⟩ := info_parts Tryd.infoNd
  have B := Bal.of hb
  clear hb
  have HB := hid B
  clear B
  go_enter Tryd.func50, Tryd.ntmps50
  go_wp2_with fail
  go_loopw [3, 4, 5] (fun ov pv kv wr => ∃ (i : Nat) (L : List Nd) (S : List Int) (Ao : Option Addr) (co : Nat) (Ap : Option Addr) (cp : Nat), i ≤ bs.length ∧ kv = .int .i64 (i : Nat) ∧ ov = .slice Ao L.length co ∧ pv = .slice Ap S.length cp ∧ wr.ownsRow w.heap.size 65 4 (.slice Ao L.length co) L.length (ndC L) ∧ wr.ownsRow w.heap.size 3 1 (.slice Ap S.length cp) S.length (cells8 S) ∧ Hid (NInv (bitAt bs) bs.length i L S) ∧ Below w.heap.size w wr) (fun _ _ kv _ => bs.length - (intOf kv).toNat)
  case atStart => exact ⟨0, [], [], none, 0, none, 0, Nat.zero_le _, rfl, rfl, rfl, World.ownsRow_nil _ _ _ _, World.ownsRow_nil _ _ _ _, hid (NInv.start _ _), Below.refl _ _⟩
  case round =>
    obtain ⟨i, L, S, Ao, co, Ap, cp, hi, rfl, rfl, rfl, hO, hP, hN, hB⟩ := hrel
    have hsz := hB.size
    have hl4 := hl.below hB
    have hLb : L.length ≤ 4000 := by rw [hN.out.len]; have := cP_le (bitAt bs) i; omega
    have hSb : S.length ≤ 4000 := by have := hN.out.slen; have := e0_le (bitAt bs) i; omega
    rcases Nat.lt_or_ge i bs.length with hlt | hge
    · have hkI : (i : Int) < (bs.length : Int) := by omega
      have hk0 : (0 : Int) ≤ (i : Int) := by omega
      obtain ⟨ad, rfl, hc⟩ := hl4 i (.bool (bitAt bs i)) (bools_get bs hlt)
      cases hf : bitAt bs i with
      | false =>
        rw [hf] at hc
        obtain ⟨hSp, q, q1, q2, q3, q4, q5, hN2⟩ := hN.out.close HB.out hlt hf
        obtain ⟨t, ht⟩ : ∃ t, t = S.length - 1 := ⟨_, rfl⟩
        rw [← ht] at q3 hN2
        have htl : t < S.length := by omega
        have htI : (S.length : Int) - 1 = (t : Int) := by omega
        have htI2 : (t : Int) < (S.length : Int) := by omega
        have ht0 : (0 : Int) ≤ (t : Int) := by omega
        obtain ⟨gp, rfl, hcp⟩ := own_some8 hP hSp
        have htc : t ≤ cp := by omega
        have htcI : (t : Int) ≤ (cp : Int) := by omega
        obtain ⟨go, rfl, _⟩ := own_some8 hO (by omega)
        have hne : go ≠ gp := by
          rcases own_ne8 hO hP (by decide) with h | h
          · cases h
          · intro e; apply h; rw [e]; rfl
        obtain ⟨R, hR⟩ : ∃ R, R = cP (bitAt bs) q := ⟨_, rfl⟩
        rw [← hR] at q3 q4 q5 hN2
        have hRI : (R : Int) < (L.length : Int) := by omega
        have hR0 : (0 : Int) ≤ (R : Int) := by omega
        have cS : wr.cell? ⟨gp, t, none⟩ = some (.int .i64 (R : Nat)) := by
          rw [hP.cellAt t (by omega)]; unfold cells8; rw [List.getElem?_map, q3]; rfl
        have fO := hO.frozenAt (R * 4 + 1)
        have lO : go < wr.heap.size := (hO.lt go rfl).2
        have cO : wr.cell? ⟨go, R * 4 + 1, none⟩ = some (.int .i64 (ndAt (bitAt bs) bs.length i q).en) := by
          rw [hO.cellAt (R * 4 + 1) (by omega)]; exact ndC_get L R _ q5 1 (by omega)
        have hst := hO.stored (R * 4 + 1) (.int .i64 (i : Nat))
        rw [ndC_set L R _ _ q5] at hst
        have hP2 := own_cut8 (hP.kept hst.2 (Or.inr (by simp [Value.ownBlock]; exact fun e => hne e.symm))) (show t ≤ S.length by omega)
        have hB2 : Below w.heap.size w (wr.setCell ⟨go, R * 4 + 1, none⟩ (.int .i64 (i : Nat))) := hB.setCell (hO.lt go rfl).1 _
        generalize (ndAt (bitAt bs) bs.length i q).en = en0 at *
        have HN2 := hid hN2
        have HST := hid hst.1
        have HP2 := hid hP2
        have HB2 := hid hB2
        clear hst hP2 hB2 hN2 q3 q5 ht hR q1 q2 hf hO hP hN
        go_wp2_with fail
        refine ⟨⟨i + 1, _, S.take t, some ⟨go, 0, none⟩, co, some ⟨gp, 0, none⟩, cp, by omega, by go_num, ?_, ?_, ?_, ?_, HN2, HB2.out⟩, by simp [intOf]; omega⟩
        · rw [List.length_set]
        · rw [List.length_take, Nat.min_eq_left (by omega)]
        · rw [List.length_set]; exact HST.out
        · rw [List.length_take, Nat.min_eq_left (by omega)]
          have := HP2.out
          unfold cells8 at this ⊢
          rw [List.map_take]; exact this
      | true =>
        rw [hf] at hc
        obtain ⟨hS0, hSp, hN2⟩ := hN.out.opens HB.out hlt hf
        have hRl := hN.out.len
        have hSl := hN.out.slen
        have HRL := hid hRl
        have HSL := hid hSl
        have HN2 := hid hN2
        rcases Nat.eq_zero_or_pos S.length with h0 | h0
        · have hpa := hS0 h0
          rw [hpa] at HN2
          obtain ⟨pa, hpe⟩ : ∃ pa : Int, pa = -1 := ⟨_, rfl⟩
          have h0I : ¬ ((0 : Int) < (S.length : Int)) := by omega
          have HO := hid hO
          have HP := hid hP
          have HX := hid (show BlkIs (wr.alloc (.cells #[.int .i64 (i : Nat), .int .i64 0, .int .i64 (-1), .int .i64 (S.length : Nat)] 65)) wr.heap.size 65 #[.int .i64 (i : Nat), .int .i64 0, .int .i64 pa, .int .i64 (S.length : Nat)] by rw [hpe]; exact BlkIs.new _ _ _)
          have HP1 := hid (hP.alloc (.cells #[.int .i64 (i : Nat), .int .i64 0, .int .i64 (-1), .int .i64 (S.length : Nat)] 65))
          have HO1 := hid (hO.alloc (.cells #[.int .i64 (i : Nat), .int .i64 0, .int .i64 (-1), .int .i64 (S.length : Nat)] 65))
          have HB1 := hid (hB.alloc hsz (.cells #[.int .i64 (i : Nat), .int .i64 0, .int .i64 (-1), .int .i64 (S.length : Nat)] 65))
          have HNE := hid (own_ne8 hO hP (by decide))
          rw [← hpe] at HN2
          have HPE := hid hpe
          have H0 := hid h0
          clear hpa hN2 hS0 hSp hf hN hSl hRl hO hP hpe h0
          go_wp2_with (first
                      | (at_builtin
                         refine wpList_append_more _ rfl (.tmp 47) (.tmp 50) _ rfl w.heap.size 3 i0 _ 8 Tryd.underlying22 hi0 iz0 iz1 iz2 rfl (.slice Ap S.length cp) S.length (cells8 S) rfl ?hown (some ⟨wr.heap.size + 1, 0, none⟩) 1 1 [.int .i64 (L.length : Nat)] rfl ?hls rfl ?h1 ?h63 ?hby ?hbs _ rfl ?_
                         go_must (case hown => exact HP1.out.alloc _)
                         go_must (case hls => exact lst_one _ _ _ _ (by simp))
                         go_must (case h1 => simp [Value.oneCell'])
                         go_must (case h63 => simp only [maxLen]; omega)
                         go_must (case hby => omega)
                         go_must (case hbs => simp; omega)
                         intro A2 c2 w2 hown2 hgr2 hat2
                         have hX2 : BlkIs w2 wr.heap.size 65 #[.int .i64 (i : Nat), .int .i64 0, .int .i64 pa, .int .i64 (S.length : Nat)] := (HX.out.alloc _).kept (hgr2.block _ (by simp; omega) (fun h => by have := (HP.out.lt _ h.symm).2; omega))
                         have x0 := hX2.cell 0
                         have x1 := hX2.cell 1
                         have x2 := hX2.cell 2
                         have x3 := hX2.cell 3
                         have hO2 : w2.ownsRow w.heap.size 65 4 (.slice Ao L.length co) L.length (ndC L) := (HO1.out.alloc _).kept hgr2 HNE.out
                         have hB2 : Below w.heap.size w w2 := (HB1.out.alloc (by simp; omega) _).grown hgr2 (by simp; omega) (fun j hj => (HP.out.lt j hj).1)
                         have hz2 := hB2.size)
                      | (at_builtin
                         refine wpList_append_own_at _ rfl (.tmp 52) (.tmp 54) 60 rfl w.heap.size 65 i1 _ 4 32 Tryd.underlying60 hi1 jz0 jz1 jz2 rfl (by decide) (.slice Ao L.length co) L.length _ rfl (hO2.alloc _) ⟨w2.heap.size, 0, none⟩ 1 1 [.int .i64 (i : Nat), .int .i64 0, .int .i64 pa, .int .i64 (S.length : Nat)] rfl rfl (cell_four8 _ _ _ _ _ _ _ rfl) ?hone ?h63 ?hby ?hbs ?_
                         go_must (case hone => simp [Value.oneCell'])
                         go_must (case h63 => simp only [maxLen]; omega)
                         go_must (case hby => omega)
                         go_must (case hbs => simp; omega)
                         intro v4 w4 hown4 hgr4 _ hat4))
          obtain ⟨A4, c4, rfl⟩ := own_slice hown4
          have hB4 : Below w.heap.size w w4 := (hB2.alloc hz2 _).grown hgr4 (by simp; omega) (fun j hj => (hO2.lt j hj).1)
          have hown2b := hown2.kept (World.grownBy_alloc w2 (.cells #[.int .i64 (i : Nat), .int .i64 0, .int .i64 pa, .int .i64 (S.length : Nat)] 65) none) (by cases hv : (Value.slice A2 (S.length + 1) c2).ownBlock <;> simp)
          have hown5 := hown2b.kept hgr4 (by
            rcases own_ne8 hown2b (hO2.alloc _) (by decide) with h | h
            · exact Or.inl h
            · exact Or.inr h)
          refine ⟨⟨i + 1, _, _, A4, c4, A2, c2, by omega, by go_num, ?_, ?_, ?_, ?_, HN2, hB4⟩, by simp [intOf]; omega⟩
          · rw [List.length_append]; rfl
          · rw [List.length_append]; rfl
          · have h := hown4
            rw [HSL.out] at h
            rw [List.length_append, ndC_snoc]; exact h
          · rw [List.length_append, cells8_snoc, ← HRL.out]; exact hown5
        · have hpa := hSp h0
          obtain ⟨pa, hpe⟩ : ∃ pa : Int, pa = paN (bitAt bs) i := ⟨_, rfl⟩
          rw [← hpe] at HN2 hpa
          have h0I : (0 : Int) < (S.length : Int) := by omega
          obtain ⟨t, ht⟩ : ∃ t, t = S.length - 1 := ⟨_, rfl⟩
          rw [← ht] at hpa
          have htl : t < S.length := by omega
          have htI : (S.length : Int) - 1 = (t : Int) := by omega
          have htI2 : (t : Int) < (S.length : Int) := by omega
          have ht0 : (0 : Int) ≤ (t : Int) := by omega
          obtain ⟨gp, hgp, _⟩ := own_some8 hP h0
          have cS : (wr.alloc (.cells #[.int .i64 (i : Nat), .int .i64 0, .int .i64 (-1), .int .i64 (S.length : Nat)] 65)).cell? ⟨gp, t, none⟩ = some (.int .i64 pa) := by
            have h1 := hP.alloc (.cells #[.int .i64 (i : Nat), .int .i64 0, .int .i64 (-1), .int .i64 (S.length : Nat)] 65)
            rw [hgp] at h1
            rw [h1.cellAt t (by omega)]; unfold cells8; rw [List.getElem?_map, hpa]; rfl
          have HO := hid hO
          have HP := hid hP
          have bX := BlkIs.new wr 65 #[.int .i64 (i : Nat), .int .i64 0, .int .i64 (-1), .int .i64 (S.length : Nat)]
          have fX := bX.frozen 2
          have cX := bX.cell 2
          have HX := hid (BlkIs.new wr 65 #[.int .i64 (i : Nat), .int .i64 0, .int .i64 pa, .int .i64 (S.length : Nat)])
          have HP1 := hid (hP.alloc (.cells #[.int .i64 (i : Nat), .int .i64 0, .int .i64 pa, .int .i64 (S.length : Nat)] 65))
          have HO1 := hid (hO.alloc (.cells #[.int .i64 (i : Nat), .int .i64 0, .int .i64 pa, .int .i64 (S.length : Nat)] 65))
          have HB1 := hid (hB.alloc hsz (.cells #[.int .i64 (i : Nat), .int .i64 0, .int .i64 pa, .int .i64 (S.length : Nat)] 65))
          have HNE := hid (own_ne8 hO hP (by decide))
          have HPE := hid hpe
          subst hgp
          clear hpa hN2 hS0 hSp hf hN hSl hRl hO hP hpe bX ht
          go_wp2_with (first
                      | (at_builtin
                         refine wpList_append_more _ rfl (.tmp 47) (.tmp 50) _ rfl w.heap.size 3 i0 _ 8 Tryd.underlying22 hi0 iz0 iz1 iz2 rfl (.slice (some ⟨gp, 0, none⟩) S.length cp) S.length (cells8 S) rfl ?hown (some ⟨wr.heap.size + 1, 0, none⟩) 1 1 [.int .i64 (L.length : Nat)] rfl ?hls rfl ?h1 ?h63 ?hby ?hbs _ rfl ?_
                         go_must (case hown => exact HP1.out.alloc _)
                         go_must (case hls => exact lst_one _ _ _ _ (by simp))
                         go_must (case h1 => simp [Value.oneCell'])
                         go_must (case h63 => simp only [maxLen]; omega)
                         go_must (case hby => omega)
                         go_must (case hbs => simp; omega)
                         intro A2 c2 w2 hown2 hgr2 hat2
                         have hX2 : BlkIs w2 wr.heap.size 65 #[.int .i64 (i : Nat), .int .i64 0, .int .i64 pa, .int .i64 (S.length : Nat)] := (HX.out.alloc _).kept (hgr2.block _ (by simp; omega) (fun h => by have := (HP.out.lt _ h.symm).2; omega))
                         have x0 := hX2.cell 0
                         have x1 := hX2.cell 1
                         have x2 := hX2.cell 2
                         have x3 := hX2.cell 3
                         have hO2 : w2.ownsRow w.heap.size 65 4 (.slice Ao L.length co) L.length (ndC L) := (HO1.out.alloc _).kept hgr2 HNE.out
                         have hB2 : Below w.heap.size w w2 := (HB1.out.alloc (by simp; omega) _).grown hgr2 (by simp; omega) (fun j hj => (HP.out.lt j hj).1)
                         have hz2 := hB2.size)
                      | (at_builtin
                         refine wpList_append_own_at _ rfl (.tmp 52) (.tmp 54) 60 rfl w.heap.size 65 i1 _ 4 32 Tryd.underlying60 hi1 jz0 jz1 jz2 rfl (by decide) (.slice Ao L.length co) L.length _ rfl (hO2.alloc _) ⟨w2.heap.size, 0, none⟩ 1 1 [.int .i64 (i : Nat), .int .i64 0, .int .i64 pa, .int .i64 (S.length : Nat)] rfl rfl (cell_four8 _ _ _ _ _ _ _ rfl) ?hone ?h63 ?hby ?hbs ?_
                         go_must (case hone => simp [Value.oneCell'])
                         go_must (case h63 => simp only [maxLen]; omega)
                         go_must (case hby => omega)
                         go_must (case hbs => simp; omega)
                         intro v4 w4 hown4 hgr4 _ hat4))
          obtain ⟨A4, c4, rfl⟩ := own_slice hown4
          have hB4 : Below w.heap.size w w4 := (hB2.alloc hz2 _).grown hgr4 (by simp; omega) (fun j hj => (hO2.lt j hj).1)
          have hown2b := hown2.kept (World.grownBy_alloc w2 (.cells #[.int .i64 (i : Nat), .int .i64 0, .int .i64 pa, .int .i64 (S.length : Nat)] 65) none) (by cases hv : (Value.slice A2 (S.length + 1) c2).ownBlock <;> simp)
          have hown5 := hown2b.kept hgr4 (by
            rcases own_ne8 hown2b (hO2.alloc _) (by decide) with h | h
            · exact Or.inl h
            · exact Or.inr h)
          refine ⟨⟨i + 1, _, _, A4, c4, A2, c2, by omega, by go_num, ?_, ?_, ?_, ?_, HN2, hB4⟩, by simp [intOf]; omega⟩
          · rw [List.length_append]; rfl
          · rw [List.length_append]; rfl
          · have h := hown4
            rw [HSL.out] at h
            rw [List.length_append, ndC_snoc]; exact h
          · rw [List.length_append, cells8_snoc, ← HRL.out]; exact hown5
    · obtain rfl : i = bs.length := by omega
      have hkI : ¬ ((bs.length : Int) < (bs.length : Int)) := by omega
      go_wp2_with fail
      go_ret
      exact ⟨Ao, co, L, rfl, Lst.of_own hO (by omega), ⟨hN.out.len, fun v hv hf => hN.out.done HB.out hv hf⟩, hB⟩
end Go.Proofs.YtlpnbkfcbamnbaaDoor
