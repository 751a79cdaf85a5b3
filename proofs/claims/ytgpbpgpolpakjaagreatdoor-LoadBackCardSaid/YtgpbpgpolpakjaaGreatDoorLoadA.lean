/- Walks: a file's set is built; what it tells. -/
import Derived.Test.YtgpbpgpolpakjaaGreatDoorPtrA
import Derived.Test.YtgpbpgpolpakjaaGreatDoorTabB
import Derived.Test.YtgpbpgpolpakjaaGreatDoorSplitP
import Derived.Test.YtgpbpgpolpakjaaGreatDoorRefT
import Derived.Test.YtgpbpgpolpakjaaGreatDoorLawSemiP
set_option linter.unusedVariables false
set_option linter.unusedSimpArgs false
set_option maxRecDepth 100000
namespace Go.Proofs.YtgpbpgpolpakjaaGreatDoor
open Go.RowKit Go.Shelf L

theorem Tryz.infoPtr : (Tryz.prog.info? 23).map (fun i => (i.zero, i.size, i.bytes)) = some (some (.pointer none), 1, 8) := by kernel_rfl

/-- The indexes of the first records. -/
def PtrOk (w : World) (s : ByteArray) (rs : List RecN) (ps : List (Option Addr)) : Prop :=
  ∀ (j : Nat) (r : RecN), j < ps.length → rs[j]? = some r → (r.v = 1 → ∃ gi, ps[j]? = some (some ⟨gi, 0, none⟩) ∧ IdxAt w gi (s.extract r.a r.b)) ∧ (r.v ≠ 1 → ps[j]? = some none)
theorem PtrOk.keepI {w w' : World} {s : ByteArray} {rs : List RecN} {ps : List (Option Addr)} (h : PtrOk w s rs ps) (hk : KeepI w w') : PtrOk w' s rs ps := fun j r hj hr =>
  ⟨fun hv => by obtain ⟨gi, h1, h2⟩ := (h j r hj hr).1 hv; exact ⟨gi, h1, h2.keepI hk⟩, (h j r hj hr).2⟩
theorem PtrOk.snoc {w : World} {s : ByteArray} {rs : List RecN} {ps : List (Option Addr)} {q : Option Addr} (h : PtrOk w s rs ps) (hq : ∀ r, rs[ps.length]? = some r → (r.v = 1 → ∃ gi, q = some ⟨gi, 0, none⟩ ∧ IdxAt w gi (s.extract r.a r.b)) ∧ (r.v ≠ 1 → q = none)) : PtrOk w s rs (ps ++ [q]) := fun j r hj hr => by
  rw [List.length_append] at hj
  rcases Nat.lt_or_ge j ps.length with h1 | h1
  · rw [List.getElem?_append_left h1]; exact h j r h1 hr
  · obtain rfl : j = ps.length := by simp at hj; omega
    rw [List.getElem?_append_right (Nat.le_refl _)]
    have := hq r hr
    refine ⟨fun hv => ?_, fun hv => by rw [this.2 hv]; simp⟩
    obtain ⟨gi, h1, h2⟩ := this.1 hv
    exact ⟨gi, by rw [h1]; simp, h2⟩
/-- A file's set in memory. -/
def SetAt (w : World) (g : Nat) (s : ByteArray) (deep : Nat) : Prop :=
  ∃ Al cl Ai ci ps, BlkIs w g 92 #[.string s, .int .i64 (deep : Nat), .slice Al (recs (nb s) deep).length cl, .slice Ai (recs (nb s) deep).length ci] ∧ Lst w Al (recC (recs (nb s) deep)) ∧ Lst w Ai (ps.map Value.pointer) ∧ ps.length = (recs (nb s) deep).length ∧ PtrOk w s (recs (nb s) deep) ps
theorem SetAt.below {w w' : World} {g : Nat} {s : ByteArray} {deep : Nat} (h : SetAt w g s deep) (hb : Below w.heap.size w w') : SetAt w' g s deep := by
  obtain ⟨Al, cl, Ai, ci, ps, h1, h2, h3, h4, h5⟩ := h
  exact ⟨Al, cl, Ai, ci, ps, h1.below hb, h2.below hb, h3.below hb, h4, h5.keepI (KeepI.below hb)⟩

set_option maxHeartbeats 1000000 in
theorem build_arg (s : ByteArray) (deep : Int) (w : World) (h : deep < 1 ∨ 4096 < deep) :
    Calls Tryz.prog 18 #[.string s, .int .i64 deep] w fun e w' => e = .returned (.tuple #[.pointer none, .int .i64 1]) ∧ Below w.heap.size w w' := by
  have HR := hid (fun W => records_arg s deep W h)
  clear h
  go_enter Tryz.func18, Tryz.ntmps18
  go_wp2_with fail
  refine (HR.out _).mono ?_
  rintro e w1 ⟨rfl, rfl⟩
  go_wp2_with fail
  go_ret2
  exact ⟨rfl, Below.refl _ _⟩

/-- What Build leaves. -/
def BuildPost (s : ByteArray) (deep : Nat) (w : World) (e : Ending) (w' : World) : Prop :=
  ∃ g, e = .returned (.tuple #[.pointer (some ⟨g, 0, none⟩), .int .i64 0]) ∧ SetAt w' g s deep ∧ Below w.heap.size w w'
set_option maxHeartbeats 4000000 in
theorem build_ok (s : ByteArray) (deep : Nat) (w : World) (hs : s.size ≤ 4096) (h1 : 1 ≤ deep) (h2 : deep ≤ 4096) :
    Calls Tryz.prog 18 #[.string s, .int .i64 (deep : Nat)] w (BuildPost s deep w) := by
  obtain ⟨i0, hi, iz0, iz1, iz2⟩ := info_parts Tryz.infoPtr
  have hfew := recs_few (nb s) deep
  rw [nb_length] at hfew
  have HR := hid (fun W => records_all s deep W (by omega) h1 h2 (by rw [← recs_length _ deep]; omega))
  have HOK := hid (fun r (hr : r ∈ recs (nb s) deep) => rec_ok hr hs)
  have HPO := hid (show ∀ w' g Al cl Ai ci ps, BlkIs w' g 92 #[.string s, .int .i64 (deep : Nat), .slice Al (recs (nb s) deep).length cl, .slice Ai (recs (nb s) deep).length ci] → Lst w' Al (recC (recs (nb s) deep)) → Lst w' Ai (ps.map Value.pointer) → ps.length = (recs (nb s) deep).length → PtrOk w' s (recs (nb s) deep) ps → Below w.heap.size w w' → BuildPost s deep w (.returned (.tuple #[.pointer (some ⟨g, 0, none⟩), .int .i64 0])) w' from fun w' g Al cl Ai ci ps a1 a2 a3 a4 a5 a6 => ⟨g, rfl, ⟨Al, cl, Ai, ci, ps, a1, a2, a3, a4, a5⟩, a6⟩)
  have HTX := hid (fun a b v p W => text24_any s a b (.int .i64 v) (.int .i64 p) rfl rfl W (by omega))
  have HLO := hid (fun a (h : a ≤ s.size) => lo_nat s.size a h)
  have HHI := hid (fun a b (h : a ≤ b) (h2 : b ≤ s.size) => hi_nat s.size a b h h2)
  have HNB := hid (fun a b => nb_ext s a b)
  have hdw : (deep : Int) ≤ 4096 := by omega
  clear h1
  generalize recs (nb s) deep = X at *
  go_enter Tryz.func18, Tryz.ntmps18
  go_wp2_with fail
  refine (HR.out _).mono ?_
  rintro e w1 ⟨Al, cl, rfl, hown1, hB1⟩
  have hl1 := own_lst2 hown1 (by omega)
  have hX2 := BlkIs.new w1 92 #[.string s, .int .i64 (deep : Nat), .slice Al X.length cl, .slice none 0 0]
  have hB12 : Below w1.heap.size w1 (w1.alloc (.cells #[.string s, .int .i64 (deep : Nat), .slice Al X.length cl, .slice none 0 0] 92)) := (Below.refl _ _).alloc (Nat.le_refl _) _
  have hs2 : (w1.alloc (.cells #[.string s, .int .i64 (deep : Nat), .slice Al X.length cl, .slice none 0 0] 92)).heap.size = w1.heap.size + 1 := by simp
  clear hown1 HR
  go_wp2_with fail
  generalize w1.alloc (.cells #[.string s, .int .i64 (deep : Nat), .slice Al X.length cl, .slice none 0 0] 92) = W2 at *
  have hz1 := hB1.size
  obtain ⟨G, hG⟩ : ∃ G, G = w1.heap.size := ⟨_, rfl⟩
  rw [← hG] at hX2 hs2 hz1 hB12 ⊢
  have hlk := hid (show ∀ wr, Below G w1 wr → Lst wr Al (recC X) from fun wr hb => hl1.below (by rw [← hG]; exact hb))
  have hBw := hid (show ∀ wr, Below G w1 wr → Below w.heap.size w wr from fun wr hb => hB1.trans (hb.mono hz1))
  have hGe : G ≤ w1.heap.size := by omega
  clear hG hl1
  go_loopw [28] (fun iv wr => ∃ (k : Nat) (ps : List (Option Addr)) (v : Value), k ≤ X.length ∧ iv = .int .i64 (k : Nat) ∧ ps.length = k ∧ BlkIs wr G 92 #[.string s, .int .i64 (deep : Nat), .slice Al X.length cl, v] ∧ PRow wr (G + 1) v ps ∧ Below G w1 wr ∧ PtrOk wr s X ps) (fun iv _ => X.length - (intOf iv).toNat)
  case atStart => exact ⟨0, [], _, by omega, rfl, rfl, hX2, .inl ⟨rfl, rfl⟩, hB12, fun j r hj => by simp at hj⟩
  case round =>
    obtain ⟨k, ps, v, hk, rfl, rfl, hX, hP, hB, hOk⟩ := hrel
    clear hX2 hB12
    have hz : G ≤ wr.heap.size := by have := hB.size; omega
    have hXl := hX.lt
    rcases Nat.lt_or_ge ps.length X.length with hlt | hge
    · have hki : (ps.length : Int) < (X.length : Int) := by omega
      have hk0 : (0 : Int) ≤ (ps.length : Int) := by omega
      have hkW := wrap_oneS ps.length (by omega)
      obtain ⟨gl, ol, rfl, k0, k1, k2, k3⟩ := rec_cells (hlk.out _ hB) hlt
      have hr := HOK.out X[ps.length] (List.getElem_mem hlt)
      have hXk : X[ps.length]? = some X[ps.length] := List.getElem?_eq_getElem hlt
      generalize X[ps.length] = r at *
      obtain ⟨ra, rb, rv, rp⟩ := r
      dsimp only at k0 k1 k2 k3 hr
      obtain ⟨q1, q2, q3, q4, q5, q6, q7⟩ := hr
      have hlo := HLO.out ra (by omega)
      have hhi := HHI.out ra rb q1 q2
      have HT1 := hid (fun W => HTX.out (ra : Nat) (rb : Nat) (rv : Nat) (rp : Nat) W)
      rw [hlo, hhi] at HT1
      have hXa := hX.alloc (.cells #[.int .i64 (ra : Nat), .int .i64 (rb : Nat), .int .i64 (rv : Nat), .int .i64 (rp : Nat)] 96)
      have hRa := BlkIs.new wr 96 #[.int .i64 (ra : Nat), .int .i64 (rb : Nat), .int .i64 (rv : Nat), .int .i64 (rp : Nat)]
      have hBa : Below wr.heap.size wr (wr.alloc (.cells #[.int .i64 (ra : Nat), .int .i64 (rb : Nat), .int .i64 (rv : Nat), .int .i64 (rp : Nat)] 96)) := (Below.refl _ _).alloc (Nat.le_refl _) _
      have e0 := hRa.cell 0
      have e1 := hRa.cell 1
      have e2 := hRa.cell 2
      have e3 := hRa.cell 3
      clear hlo hhi HTX HLO HHI
      by_cases hv : rv = 1
      · subst hv
        have hlook := q6 rfl h2
        have HMK := hid (fun W => semiMake_ok (s.extract ra rb) W (by rw [HNB.out]; exact hlook) (by rw [HNB.out, places_length]; have := mks_length (sub_ (nb s) ra rb); unfold sub_ at *; omega))
        clear q6 hlook q7
        go_wp2_with fail
        refine (HT1.out _).mono ?_
        rintro e w3 ⟨rfl, hB3⟩
        go_wp2_with fail
        refine (HMK.out _).mono ?_
        rintro e w5 ⟨gi, rfl, hgi, hB4⟩
        have hB5 : Below wr.heap.size wr w5 := (hBa.trans (hB3.mono hBa.size)).trans (hB4.mono (hBa.trans (hB3.mono hBa.size)).size)
        clear hXa hRa hBa e0 e1 e2 e3 hB3 hB4
        have hz5 := hB5.size
        have hX5 : BlkIs w5 G 92 #[.string s, .int .i64 (deep : Nat), .slice (some ⟨gl, ol, none⟩) X.length cl, v] := hX.below hB5
        have hP5 := hP.below hB5
        have hB05 := hB.trans (hB5.mono hz)
        have x3 := hX5.cell 3
        obtain ⟨Av, cv, rfl⟩ := hP5.slice
        have hbs := hP5.lt
        go_wp2_with (at_builtin
                     go_must (refine wpList_append_ptr rfl (.tmp 46) (.tmp 48) 90 rfl (G + 1) i0 Tryz.underlying90 hi iz0 iz1 iz2 (.slice Av ps.length cv) ps rfl (hP5.below ((Below.refl _ _).alloc (Nat.le_refl _) _)) ⟨w5.heap.size, 0, none⟩ rfl (some ⟨gi, 0, none⟩) ?hc ?hlen ?hbb ?_)
                     go_must (case hc => exact (BlkIs.new w5 23 #[.pointer (some ⟨gi, 0, none⟩)]).cell 0)
                     go_must (case hlen => omega)
                     go_must (case hbb => simp; omega)
                     intro v6 w6 hP6 hK6 hB6 hO6
                     obtain ⟨Av6, cv6, rfl⟩ := hP6.slice
                     have hX6 : BlkIs w6 G 92 #[.string s, .int .i64 (deep : Nat), .slice (some ⟨gl, ol, none⟩) X.length cl, .slice Av ps.length cv] := (hX5.alloc _).kept (hO6 G (by simp; omega) (fun e => by have := (hbs G e).1; omega))
                     have x3 := hX6.cell 3
                     have f3 := hX6.frozen 3)
        have hKA : KeepI w5 w6 := (KeepI.below ((Below.refl _ _).alloc (Nat.le_refl _) (.cells #[.pointer (some ⟨gi, 0, none⟩)] 23))).trans hK6
        have hKS := KeepI.set hX6 (.inl rfl) x3 (fun k n e => by cases e) (.slice Av6 (ps.length + 1) cv6)
        have hBS : Below G w1 (w6.setCell ⟨G, 3, none⟩ (.slice Av6 (ps.length + 1) cv6)) := ((hB05.alloc (by omega) _).trans (hB6.mono (by omega))).setCell (p := ⟨G, 3, none⟩) (Nat.le_refl _) _
        have hP7 : PRow w6 (G + 1) (.slice Av6 (ps.length + 1) cv6) (ps ++ [(some ⟨gi, 0, none⟩)]) := by simpa using hP6
        have hPS := hP7.far (p := ⟨G, 3, none⟩) (by simp) (.slice Av6 (ps.length + 1) cv6)
        have hOkS := (hOk.keepI (((KeepI.below hB5).trans hKA).trans hKS)).snoc (q := (some ⟨gi, 0, none⟩)) (by
          intro r hr
          rw [hXk] at hr
          obtain rfl := Option.some.inj hr
          refine ⟨fun _ => ⟨gi, rfl, ?_⟩, fun hne => absurd rfl hne⟩
          exact (hgi.keepI hKA).keepI hKS)
        go_wp2_with fail
        go_roundw
        case rel => exact ⟨ps.length + 1, ps ++ [(some ⟨gi, 0, none⟩)], _, by omega, by go_num, by rw [List.length_append]; rfl, hX6.put 3 _, hPS, hBS, hOkS⟩
        case measure => simp [intOf]; omega
      · have hvI : ¬ ((rv : Nat) : Int) = 1 := by omega
        have hvb : (((rv : Nat) : Int) == 1) = false := by rw [beq_eq_false_iff_ne]; exact hvI
        have hB5 := hBa
        have hz5 := hB5.size
        have hX5 : BlkIs (wr.alloc (.cells #[.int .i64 (ra : Nat), .int .i64 (rb : Nat), .int .i64 (rv : Nat), .int .i64 (rp : Nat)] 96)) G 92 #[.string s, .int .i64 (deep : Nat), .slice (some ⟨gl, ol, none⟩) X.length cl, v] := hX.below hB5
        have hP5 := hP.below hB5
        have hB05 := hB.trans (hB5.mono hz)
        have x3 := hX5.cell 3
        obtain ⟨Av, cv, rfl⟩ := hP5.slice
        have hz5s : (wr.alloc (.cells #[.int .i64 (ra : Nat), .int .i64 (rb : Nat), .int .i64 (rv : Nat), .int .i64 (rp : Nat)] 96)).heap.size = wr.heap.size + 1 := by simp
        have hbs := hP5.lt
        go_wp2_with (at_builtin
                     go_must (refine wpList_append_ptr rfl (.tmp 46) (.tmp 48) 90 rfl (G + 1) i0 Tryz.underlying90 hi iz0 iz1 iz2 (.slice Av ps.length cv) ps rfl (hP5.below ((Below.refl _ _).alloc (Nat.le_refl _) _)) ⟨wr.heap.size + 1, 0, none⟩ rfl none ?hc ?hlen ?hbb ?_)
                     go_must (case hc => exact (show BlkIs _ (wr.heap.size + 1) _ _ from by have := BlkIs.new (wr.alloc (.cells #[.int .i64 (ra : Nat), .int .i64 (rb : Nat), .int .i64 (rv : Nat), .int .i64 (rp : Nat)] 96)) 23 #[.pointer none]; simpa using this).cell 0)
                     go_must (case hlen => omega)
                     go_must (case hbb => simp; omega)
                     intro v6 w6 hP6 hK6 hB6 hO6
                     obtain ⟨Av6, cv6, rfl⟩ := hP6.slice
                     have hX6 : BlkIs w6 G 92 #[.string s, .int .i64 (deep : Nat), .slice (some ⟨gl, ol, none⟩) X.length cl, .slice Av ps.length cv] := (hX5.alloc _).kept (hO6 G (by simp; omega) (fun e => by have := (hbs G e).1; omega))
                     have x3 := hX6.cell 3
                     have f3 := hX6.frozen 3)
        have hKA : KeepI (wr.alloc (.cells #[.int .i64 (ra : Nat), .int .i64 (rb : Nat), .int .i64 (rv : Nat), .int .i64 (rp : Nat)] 96)) w6 := (KeepI.below ((Below.refl _ _).alloc (Nat.le_refl _) (.cells #[.pointer none] 23))).trans hK6
        have hKS := KeepI.set hX6 (.inl rfl) x3 (fun k n e => by cases e) (.slice Av6 (ps.length + 1) cv6)
        have hBS : Below G w1 (w6.setCell ⟨G, 3, none⟩ (.slice Av6 (ps.length + 1) cv6)) := ((hB05.alloc (by omega) _).trans (hB6.mono (by omega))).setCell (p := ⟨G, 3, none⟩) (Nat.le_refl _) _
        have hP7 : PRow w6 (G + 1) (.slice Av6 (ps.length + 1) cv6) (ps ++ [none]) := by simpa using hP6
        have hPS := hP7.far (p := ⟨G, 3, none⟩) (by simp) (.slice Av6 (ps.length + 1) cv6)
        have hOkS := (hOk.keepI (((KeepI.below hB5).trans hKA).trans hKS)).snoc (q := none) (by
          intro r hr
          rw [hXk] at hr
          obtain rfl := Option.some.inj hr
          exact ⟨fun hv1 => absurd hv1 hv, fun _ => rfl⟩)
        go_wp2_with fail
        go_roundw
        case rel => exact ⟨ps.length + 1, ps ++ [none], _, by omega, by go_num, by rw [List.length_append]; rfl, hX6.put 3 _, hPS, hBS, hOkS⟩
        case measure => simp [intOf]; omega
    · have hpl : ps.length = X.length := by omega
      have hXN : ¬ ((ps.length : Int) < (X.length : Int)) := by omega
      have hHX := hid (hpl)
      clear hpl
      obtain ⟨Ai, ci, rfl⟩ := hP.slice
      go_wp2_with fail
      go_ret2
      exact HPO.out _ G Al cl Ai ci ps (by have hX' := hX; rw [hHX.out] at hX'; exact hX') (hlk.out _ hB) hP.lst.1 hHX.out hOk (hBw.out _ hB)
end Go.Proofs.YtgpbpgpolpakjaaGreatDoor
