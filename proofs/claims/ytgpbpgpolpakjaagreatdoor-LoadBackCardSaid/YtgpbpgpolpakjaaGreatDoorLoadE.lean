/- Walks: a file's set is loaded from bytes. -/
import Derived.Test.YtgpbpgpolpakjaaGreatDoorLoadC
import Derived.Test.YtgpbpgpolpakjaaGreatDoorLoadD
set_option linter.unusedVariables false
set_option linter.unusedSimpArgs false
set_option maxRecDepth 100000
namespace Go.Proofs.YtgpbpgpolpakjaaGreatDoor
open Go.RowKit Go.Shelf L

/-- What Load leaves. -/
def Load26 (s b : ByteArray) (w : World) (e : Ending) (w' : World) : Prop :=
  Below w.heap.size w w' ∧ ((∃ g deep, e = .returned (.tuple #[.pointer (some ⟨g, 0, none⟩), .int .i64 0]) ∧ 1 ≤ deep ∧ deep ≤ 4096 ∧ SetAt w' g s deep ∧ IsTab b.data.toList (tblS s deep)) ∨
    (e = .returned (.tuple #[.pointer none, .int .i64 (rdErr b.data.toList : Nat)]) ∧ ∀ t, ¬ IsTab b.data.toList t) ∨
    (e = .returned (.tuple #[.pointer none, .int .i64 12]) ∧ ∃ t, IsTab b.data.toList t ∧ t ≠ tblS s t.deep.toNat))
theorem L.tbl_eq {t : TabN} {s : ByteArray} {d : Nat} (h1 : t.deep = (d : Nat)) (h2 : t.size = (s.size : Nat)) (h3 : t.es.length = (recs (nb s) d).length) (h4 : ∀ (j : Nat) (h : j < t.es.length) (h' : j < (recs (nb s) d).length), t.es[j] = recE s (recs (nb s) d)[j]) : t = tblS s d := by
  cases t with
  | mk a b es =>
    dsimp only at *
    unfold tblS
    rw [h1, h2]
    congr 1
    apply List.ext_getElem
    · rw [List.length_map]; exact h3
    · intro i hi hi'
      rw [List.getElem_map]
      exact h4 i hi (by rw [List.length_map] at hi'; exact hi')
theorem rdErr_pos (l : List UInt8) : rdErr l ≠ 0 := by
  unfold rdErr
  split
  · omega
  · split <;> omega

set_option maxHeartbeats 8000000 in
theorem load26_any (s b : ByteArray) (w : World) (hs : s.size ≤ 4096) (hb : b.size ≤ 1000000) (hT : Tab w) (hbs : ∀ t, IsTab b.data.toList t → ∀ x ∈ t.es, x.s.size ≤ 1450) :
    Calls Tryz.prog 20 #[.string s, .string b] w (Load26 s b w) := by
  obtain ⟨i0, hi, iz0, iz1, iz2⟩ := info_parts Tryz.infoPtr
  have hsp := spans_length (nb s)
  rw [nb_length] at hsp
  have LI := hid (fun W => (lines_all s W (by omega)).mono (R' := fun e w' => ∃ A c, e = .returned (.tuple #[.slice A (spans (nb s)).length c, .int .i64 0]) ∧ Below W.heap.size W w') (fun e w' ⟨h3, h4⟩ => by
    rcases h3 with ⟨_, A, c, h5, h6⟩ | ⟨h5, _⟩
    · exact ⟨A, c, h5, h4⟩
    · omega))
  have RD := hid (fun W => idxRead_any b W hb)
  have HF := hid (show ∀ w' (k : Nat), Below w.heap.size w w' → (∀ t, ¬ IsTab b.data.toList t) → k = rdErr b.data.toList → Load26 s b w (.returned (.tuple #[.pointer none, .int .i64 (k : Nat)])) w' from fun w' k h1 h2 h3 => ⟨h1, .inr (.inl ⟨by rw [h3], h2⟩)⟩)
  have HS := hid (show ∀ w' t, Below w.heap.size w w' → IsTab b.data.toList t → t ≠ tblS s t.deep.toNat → Load26 s b w (.returned (.tuple #[.pointer none, .int .i64 12])) w' from fun w' t h1 h2 h3 => ⟨h1, .inr (.inr ⟨rfl, t, h2, h3⟩)⟩)
  have HY := hid (show ∀ w' g deep, Below w.heap.size w w' → 1 ≤ deep → deep ≤ 4096 → SetAt w' g s deep → IsTab b.data.toList (tblS s deep) → Load26 s b w (.returned (.tuple #[.pointer (some ⟨g, 0, none⟩), .int .i64 0])) w' from fun w' g deep h1 h2 h3 h4 h5 => ⟨h1, .inl ⟨g, deep, rfl, h2, h3, h4, h5⟩⟩)
  have HBS := hid hbs
  clear hbs
  unfold RdPost at RD
  have HRP := hid (rdErr_pos b.data.toList)
  generalize rdErr b.data.toList = rk at *
  go_enter Tryz.func20, Tryz.ntmps20
  go_wp2_with fail
  refine (LI.out _).mono ?_
  rintro e w1 ⟨A1, c1, rfl, hB1⟩
  go_wp2_with fail
  refine (RD.out _).mono ?_
  rintro e w2 ⟨hB2, ⟨t, At, ct, rfl, hlt, hta⟩ | ⟨rfl, hno⟩⟩
  case inr =>
    have hB12 := hB1.trans (hB2.mono hB1.size)
    have hk0 := HRP.out
    have hkb : ((rk : Int) == 0) = false := by rw [beq_eq_false_iff_ne]; omega
    have hkc : ((rk : Int) != 0) = true := by rw [bne_iff_ne]; omega
    clear hk0 HRP
    go_wp2_with fail
    go_ret2
    exact HF.out _ rk (hB12.alloc hB12.size _) hno rfl
  have hB12 := hB1.trans (hB2.mono hB1.size)
  have HTA := hid hta
  have hf := hta.1
  obtain ⟨f1, f2, f3, f4, f5, f6⟩ := hf
  have HXS := hid (HBS.out t hta)
  clear hta RD LI HBS HF HRP
  obtain ⟨dI, zI, es⟩ := t
  dsimp only at *
  obtain ⟨d, rfl⟩ : ∃ d : Nat, dI = (d : Int) := ⟨dI.toNat, by omega⟩
  obtain ⟨z, rfl⟩ : ∃ z : Nat, zI = (z : Int) := ⟨zI.toNat, by omega⟩
  have hd1 : 1 ≤ d := by omega
  have hd2 : d ≤ 4096 := by omega
  have HGE := hid f6
  have hfew := recs_few (nb s) d
  rw [nb_length] at hfew
  have HR := hid (fun W => records_all s d W (by omega) hd1 hd2 (by omega))
  have HLK := hid (fun r x W hr hx hxs hTW => look26_any s d r x W hr hs hd2 hx hxs hTW)
  have HTE := hid (fun h2 h3 h4 => tbl_eq (t := ⟨(d : Nat), (z : Nat), es⟩) (s := s) (d := d) rfl h2 h3 h4)
  have HNT := hid (show ∀ (t2 : TabN), t2 = ⟨(d : Nat), (z : Nat), es⟩ → t2 = tblS s d → z = s.size ∧ es = (recs (nb s) d).map (recE s) from fun t2 e1 e2 => by
    rw [e1] at e2
    unfold tblS at e2
    injection e2 with _ e3 e4
    exact ⟨by omega, e4⟩)
  have HST := hid (show ∀ w' g Al cl Ai ci ps, BlkIs w' g 92 #[.string s, .int .i64 (d : Nat), .slice Al (recs (nb s) d).length cl, .slice Ai (recs (nb s) d).length ci] → Lst w' Al (recC (recs (nb s) d)) → Lst w' Ai (ps.map Value.pointer) → ps.length = (recs (nb s) d).length → PtrOk w' s (recs (nb s) d) ps → SetAt w' g s d from fun w' g Al cl Ai ci ps a1 a2 a3 a4 a5 => ⟨Al, cl, Ai, ci, ps, a1, a2, a3, a4, a5⟩)
  clear f1 f2 f3 f6
  generalize recs (nb s) d = X at *
  have hXT := BlkIs.new w2 107 #[.int .i64 (d : Nat), .int .i64 (z : Nat), .slice At es.length ct]
  have hB13 := hB12.alloc hB12.size (.cells #[.int .i64 (d : Nat), .int .i64 (z : Nat), .slice At es.length ct] 107)
  have hB23 : Below w2.heap.size w2 (w2.alloc (.cells #[.int .i64 (d : Nat), .int .i64 (z : Nat), .slice At es.length ct] 107)) := (Below.refl _ _).alloc (Nat.le_refl _) _
  have hl3 := hlt.below hB23
  have t0 := hXT.cell 0
  clear hlt hB12 hB1 hB2
  go_wp2_with fail
  obtain ⟨T, hTe⟩ : ∃ T, T = w2.heap.size := ⟨_, rfl⟩
  rw [← hTe] at hXT t0 ⊢
  clear hTe hB23
  generalize (w2.alloc (.cells #[.int .i64 (d : Nat), .int .i64 (z : Nat), .slice At es.length ct] 107)) = w3 at *
  refine (HR.out _).mono ?_
  rintro e w4 ⟨Al, cl, rfl, hown4, hB4⟩
  have hX4 := hXT.below hB4
  have hl4 := hl3.below hB4
  have hL4 := own_lst2 hown4 (by omega)
  have hB04 := hB13.trans (hB4.mono hB13.size)
  have t1 := hX4.cell 1
  have t2 := hX4.cell 2
  have t0 := hX4.cell 0
  clear hXT hl3 hB13 hB4 hown4 HR
  by_cases hz : z = s.size
  case neg =>
    have hzb : ((z : Int) != (s.size : Int)) = true := by rw [bne_iff_ne]; omega
    have hzc : ¬ ((z : Int) = (s.size : Int)) := by omega
    go_wp2_with fail
    go_ret2
    exact HS.out _ _ hB04 HTA.out (fun e => hz (HNT.out _ rfl (by simpa using e)).1)
  subst hz
  by_cases hn : es.length = X.length
  case neg =>
    have hzb : ((es.length : Int) != (X.length : Int)) = true := by rw [bne_iff_ne]; omega
    have hzc : ¬ ((es.length : Int) = (X.length : Int)) := by omega
    have hzd : ¬ (es.length = X.length) := hn
    go_wp2_with fail
    go_ret2
    exact HS.out _ _ hB04 HTA.out (fun e => hn (by have := (HNT.out _ rfl (by simpa using e)).2; rw [this, List.length_map]))
  have HNN := hid hn
  have hnb : ((es.length : Int) != (X.length : Int)) = false := by rw [hn]; simp
  have hnc : ((es.length : Int) == (X.length : Int)) = true := by rw [hn]; simp
  have hnd : (es.length == X.length) = true := by rw [hn]; simp
  have hne : decide (es.length = X.length) = true := decide_eq_true hn
  have hnf : decide ((es.length : Int) = (X.length : Int)) = true := decide_eq_true (by omega)
  clear hn
  have hXS := BlkIs.new w4 92 #[.string s, .int .i64 (d : Nat), .slice Al X.length cl, .slice none 0 0]
  have hB4S : Below w4.heap.size w4 (w4.alloc (.cells #[.string s, .int .i64 (d : Nat), .slice Al X.length cl, .slice none 0 0] 92)) := (Below.refl _ _).alloc (Nat.le_refl _) _
  have hz4 := hB04.size
  go_wp2_with fail
  generalize w4.alloc (.cells #[.string s, .int .i64 (d : Nat), .slice Al X.length cl, .slice none 0 0] 92) = W5 at *
  obtain ⟨G, hG⟩ : ∃ G, G = w4.heap.size := ⟨_, rfl⟩
  rw [← hG] at hXS hB4S hz4 ⊢
  have hTG : T < G := by have := hX4.lt; omega
  have HKT := hid (show ∀ wr, Below G w4 wr → BlkIs wr T 107 #[.int .i64 (d : Nat), .int .i64 (s.size : Nat), .slice At es.length ct] from fun wr h => hX4.below (by rw [← hG]; exact h))
  have HKE := hid (show ∀ wr, Below G w4 wr → Lst wr At (entC es) from fun wr h => hl4.below (by rw [← hG]; exact h))
  have HKR := hid (show ∀ wr, Below G w4 wr → Lst wr Al (recC X) from fun wr h => hL4.below (by rw [← hG]; exact h))
  have HBW := hid (show ∀ wr, Below G w4 wr → Below w.heap.size w wr from fun wr h => hB04.trans (h.mono hz4))
  have hGe : G ≤ w4.heap.size := by omega
  clear hG hX4 hl4 hL4 hB04 t0 t1 t2
  go_loopw [64] (fun iv wr => ∃ (ps : List (Option Addr)) (v : Value), ps.length ≤ X.length ∧ iv = .int .i64 (ps.length : Nat) ∧ BlkIs wr G 92 #[.string s, .int .i64 (d : Nat), .slice Al X.length cl, v] ∧ PRow wr (G + 1) v ps ∧ Below G w4 wr ∧ PtrOk wr s X ps ∧ Hid (∀ (j : Nat) (h : j < es.length) (h' : j < X.length), j < ps.length → es[j] = recE s X[j])) (fun iv _ => X.length - (intOf iv).toNat)
  case atStart => exact ⟨[], _, by simp, rfl, hXS, .inl ⟨rfl, rfl⟩, hB4S, (fun j r hj => by simp at hj), hid (fun j h h' hj => by simp at hj)⟩
  case round =>
    obtain ⟨ps, v, hk, rfl, hX, hP, hB, hOk, hEQ⟩ := hrel
    clear hXS hB4S
    have hz : G ≤ wr.heap.size := by have := hB.size; omega
    have hXl := hX.lt
    have hXT := HKT.out _ hB
    rcases Nat.lt_or_ge ps.length X.length with hlt | hge
    · have hki : (ps.length : Int) < (X.length : Int) := by omega
      have hke : (ps.length : Int) < (es.length : Int) := by have := HNN.out; omega
      have hk0 : (0 : Int) ≤ (ps.length : Int) := by omega
      have hkW := wrap_oneS ps.length (by omega)
      have hle : ps.length < es.length := by have := HNN.out; omega
      have hXk : X[ps.length]? = some X[ps.length] := List.getElem?_eq_getElem hlt
      have hge6 := HGE.out ps.length hle
      have hxs6 := HXS.out es[ps.length] (List.getElem_mem hle)
      have hmem := List.getElem_mem hlt
      have HEN := hid (fun (he : es[ps.length] = recE s X[ps.length]) => (show ∀ (j : Nat) (h : j < es.length) (h' : j < X.length), j < ps.length + 1 → es[j] = recE s X[j] from fun j h h' hj => by
        rcases Nat.lt_or_ge j ps.length with h1 | h1
        · exact hEQ.out j h h' h1
        · obtain rfl : j = ps.length := by omega
          exact he))
      have HEX := hid (fun (hne : es[ps.length] ≠ recE s X[ps.length]) => (show (⟨(d : Nat), (s.size : Nat), es⟩ : TabN) ≠ tblS s d from fun e => hne (by
        have := (HNT.out _ rfl e).2
        have h2 : es = X.map (recE s) := this
        have h3 := List.getElem_of_eq h2 hle
        rw [h3, List.getElem_map])))
      have HLP := hid (fun W hTW => HLK.out X[ps.length] es[ps.length] W hmem hge6.2.2.2.2.2.2.2.2.2 hxs6 hTW)
      unfold LookPost at HLP
      obtain ⟨gl, ol, rfl, q0, q1, q2, q3⟩ := rec_cells (HKR.out _ hB) hlt
      have hRb : Below G w4 (wr.alloc (.cells #[.int .i64 (X[ps.length].a : Nat), .int .i64 (X[ps.length].b : Nat), .int .i64 (X[ps.length].v : Nat), .int .i64 (X[ps.length].p : Nat)] 96)) := hB.alloc hz _
      have hBa : Below wr.heap.size wr (wr.alloc (.cells #[.int .i64 (X[ps.length].a : Nat), .int .i64 (X[ps.length].b : Nat), .int .i64 (X[ps.length].v : Nat), .int .i64 (X[ps.length].p : Nat)] 96)) := (Below.refl _ _).alloc (Nat.le_refl _) _
      have hRa := BlkIs.new wr 96 #[.int .i64 (X[ps.length].a : Nat), .int .i64 (X[ps.length].b : Nat), .int .i64 (X[ps.length].v : Nat), .int .i64 (X[ps.length].p : Nat)]
      obtain ⟨ge_, oe, hAe, hgl, k0, k1, k2, k3, k4⟩ := ent_cells (HKE.out _ hRb) hle
      subst hAe
      have hXT := HKT.out _ hRb
      have u2 := hXT.cell 2
      have e0 := hRa.cell 0
      have e1 := hRa.cell 1
      have e2 := hRa.cell 2
      have e3 := hRa.cell 3
      clear hge6 hxs6 hmem HGE HXS HNT
      generalize es[ps.length] = x at *
      generalize X[ps.length] = r at *
      obtain ⟨ra, rb, rv, rp⟩ := r
      obtain ⟨xa, xb, xv, xp, xs⟩ := x
      dsimp only at *
      go_wp2_with fail
      generalize (wr.alloc (.cells #[.int .i64 (ra : Nat), .int .i64 (rb : Nat), .int .i64 (rv : Nat), .int .i64 (rp : Nat)] 96)) = w6 at *
      have hT6 := hT.below (HBW.out _ hRb)
      go_region_law (first
        | (refine step_call (o := ⟨some 77, _, _, _, _, _⟩) rfl 69 #[.string s, .agg #[.int .i64 (ra : Nat), .int .i64 (rb : Nat), .int .i64 (rv : Nat), .int .i64 (rp : Nat)], .agg #[.int .i64 xa, .int .i64 xb, .int .i64 xv, .int .i64 xp, .string xs]] (by go_simp) ?_; refine (HLP.out w6.drew (by exact hT6)).mono ?_; rintro e w7 ⟨hB7, hres⟩;
           have hB67 : Below w6.heap.size w6 w7 := (Below.refl w6.heap.size w6).drew.trans hB7;
           have HRES : ∃ q okb, e = .returned (.tuple #[.pointer q, .bool okb]) ∧ ((okb = true ∧ (⟨xa, xb, xv, xp, xs⟩ : EntI) = recE s ⟨ra, rb, rv, rp⟩ ∧ (rv = 1 → ∃ gi, q = some ⟨gi, 0, none⟩ ∧ IdxAt w7 gi (s.extract ra rb)) ∧ (rv ≠ 1 → q = none)) ∨ (okb = false ∧ (⟨xa, xb, xv, xp, xs⟩ : EntI) ≠ recE s ⟨ra, rb, rv, rp⟩)) := (by
             rcases hres with ⟨q, rfl, c1, c2, c3⟩ | ⟨rfl, c1⟩
             · exact ⟨q, true, rfl, .inl ⟨rfl, c1, c2, c3⟩⟩
             · exact ⟨none, false, rfl, .inr ⟨rfl, c1⟩⟩);
           obtain ⟨q, okb, rfl, hk7⟩ := HRES;
           refine ⟨_, rfl, ?_⟩))
      all_goals
        have hB5 : Below wr.heap.size wr w7 := hBa.trans (hB67.mono hBa.size)
        have hB05 := hB.trans (hB5.mono hz)
        have hz5 : G ≤ w7.heap.size := by have := hB05.size; omega
        rcases hk7 with ⟨rfl, hxe, hq1, hq0⟩ | ⟨rfl, hxne⟩
        · have HQ := hid (And.intro hq1 hq0)
          have HE2 := hid (HEN.out hxe)
          have hX5 : BlkIs w7 G 92 #[.string s, .int .i64 (d : Nat), .slice (some ⟨gl, ol, none⟩) X.length cl, v] := hX.below hB5
          have hP5 := hP.below hB5
          have x3 := hX5.cell 3
          obtain ⟨Av, cv, rfl⟩ := hP5.slice
          have hbs := hP5.lt
          clear hxe hq1 hq0 HEX HLP hEQ
          go_wp2_with (at_builtin
                       go_must (refine wpList_append_ptr rfl (.tmp 86) (.tmp 88) 90 rfl (G + 1) i0 Tryz.underlying90 hi iz0 iz1 iz2 (.slice Av ps.length cv) ps rfl (hP5.below ((Below.refl _ _).alloc (Nat.le_refl _) _)) ⟨w7.heap.size, 0, none⟩ rfl q ?hc ?hlen ?hbb ?_)
                       go_must (case hc => exact (BlkIs.new w7 23 #[.pointer q]).cell 0)
                       go_must (case hlen => omega)
                       go_must (case hbb => simp; omega)
                       intro v8 w8 hP8 hK8 hB8 hO8
                       obtain ⟨Av8, cv8, rfl⟩ := hP8.slice
                       have hX8 : BlkIs w8 G 92 #[.string s, .int .i64 (d : Nat), .slice (some ⟨gl, ol, none⟩) X.length cl, .slice Av ps.length cv] := (hX5.alloc _).kept (hO8 G (by simp; omega) (fun e => by have := (hbs G e).1; omega))
                       have x3 := hX8.cell 3
                       have f3 := hX8.frozen 3)
          have hKA : KeepI w7 w8 := (KeepI.below ((Below.refl _ _).alloc (Nat.le_refl _) (.cells #[.pointer q] 23))).trans hK8
          have hKS := KeepI.set hX8 (.inl rfl) x3 (fun k n e => by cases e) (.slice Av8 (ps.length + 1) cv8)
          have hBS : Below G w4 (w8.setCell ⟨G, 3, none⟩ (.slice Av8 (ps.length + 1) cv8)) := ((hB05.alloc hz5 _).trans (hB8.mono (by omega))).setCell (p := ⟨G, 3, none⟩) (Nat.le_refl _) _
          have hP9 : PRow w8 (G + 1) (.slice Av8 (ps.length + 1) cv8) (ps ++ [q]) := by simpa using hP8
          have hPS := hP9.far (p := ⟨G, 3, none⟩) (by simp) (.slice Av8 (ps.length + 1) cv8)
          have hOkS := (hOk.keepI (((KeepI.below hB5).trans hKA).trans hKS)).snoc (q := q) (by
            intro r hr
            rw [hXk] at hr
            obtain rfl := Option.some.inj hr
            refine ⟨fun h1 => ?_, fun h1 => HQ.out.2 h1⟩
            obtain ⟨gi, h2, h3⟩ := HQ.out.1 h1
            exact ⟨gi, h2, (h3.keepI hKA).keepI hKS⟩)
          go_wp2_with fail
          go_roundw
          case rel => exact ⟨ps ++ [q], _, by rw [List.length_append]; exact hlt, by rw [List.length_append]; go_num, hX8.put 3 _, hPS, hBS, hOkS, hid (by rw [List.length_append]; exact HE2.out)⟩
          case measure => simp [intOf]; omega
        · have HNX := hid (HEX.out hxne)
          clear HEX HLP hEQ hxne
          go_wp2_with fail
          go_ret2
          exact HS.out _ _ (HBW.out _ hB05) HTA.out (by simpa using HNX.out)
    · have hpl : ps.length = X.length := by omega
      have hXN : ¬ ((ps.length : Int) < (X.length : Int)) := by omega
      have HHX := hid (hpl)
      have HTT := hid (HTE.out (by first | rfl | trivial) HNN.out (fun j h h' => hEQ.out j h h' (by omega)))
      clear hpl
      obtain ⟨Ai, ci, rfl⟩ := hP.slice
      go_wp2_with fail
      go_ret2
      have hX' := hX
      rw [HHX.out] at hX'
      exact HY.out _ G d (HBW.out _ hB) hd1 hd2 (HST.out _ G Al cl Ai ci ps hX' (HKR.out _ hB) hP.lst.1 HHX.out hOk) (by rw [← HTT.out]; exact HTA.out)
end Go.Proofs.YtgpbpgpolpakjaaGreatDoor
