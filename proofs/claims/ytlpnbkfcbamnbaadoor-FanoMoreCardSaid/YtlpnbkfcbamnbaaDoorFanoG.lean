/- Walks: numbers that rise: how many are less. -/
import Derived.Test.YtlpnbkfcbamnbaaDoorFanoE
import Derived.BigQuiet
set_option linter.unusedVariables false
set_option linter.unusedSimpArgs false
set_option maxRecDepth 100000
namespace Go.Proofs.YtlpnbkfcbamnbaaDoor
open Go.RowKit Go.Shelf L
attribute [local go_sem] Oper.semAt_some

theorem among_any (s : Nat) (p : Int) (w : World) : Calls Tryd.prog 65 #[.pointer (some ⟨s, 0, none⟩), .int .i64 p] w fun e w' => e = .returned (.func (.func 104) #[] #[.pointer (some ⟨w.heap.size, 0, none⟩), .pointer (some ⟨w.heap.size + 1, 0, none⟩)]) ∧ w' = (w.alloc (.cells #[.pointer (some ⟨s, 0, none⟩)] 25)).alloc (.cells #[.int .i64 p] 3) := by
  go_enter Tryd.func65, Tryd.ntmps65
  go_wp2_with fail
  go_ret
  first | exact ⟨rfl, rfl⟩ | (refine ⟨?_, rfl⟩; simp)

theorem among_stops (n : Nat) (hn : 2 ≤ n) (Bs Bp s : Nat) (l : List Nat) (B p : Nat) (w : World) (hs : SeqAt w s l B) (hT : Tab w) (hr : RightN l B) (hf : Few l B) (hp : p + 1 ≤ top l B)
    (hcs : w.cell? ⟨Bs, 0, none⟩ = some (.pointer (some ⟨s, 0, none⟩))) (hcp : w.cell? ⟨Bp, 0, none⟩ = some (.int .i64 (p : Nat))) (hBs : Bs < w.heap.size) (hBp : Bp < w.heap.size)
    (a b : Nat) (ha : a = cl l (p * 2 ^ wd l.length B)) (hb : b = cl l ((p + 1) * 2 ^ wd l.length B)) (hab : a ≤ b) :
    SeqStopsK Fence.wide n Tryd.prog 104 #[.pointer (some ⟨Bs, 0, none⟩), .pointer (some ⟨Bp, 0, none⟩)] amE (Below w.heap.size) (fun ys => ys = segs l a b) (fun pre => pre <+: segs l a b) (b - a) w := fun y J Jx W hW hJ _ hY h0 =>
  among1_in n hn y Bs Bp s l B p w hs hT hr hf hp hcs hcp hBs hBp a b ha hb hab J Jx W hW hJ hY h0

/-- How many are less than a number of whichever sign. -/
def L.clz (l : List Nat) (x : Int) : Nat := cl l x.toNat
theorem L.clz_low (l : List Nat) {x : Int} (h : x ≤ 0) : clz l x = 0 := by unfold clz; rw [show x.toNat = 0 from by omega, cl_zero]
theorem L.clz_high {l : List Nat} {B : Nat} {x : Int} (hl : ∀ y ∈ l, y < B) (h : (B : Int) ≤ x) : clz l x = l.length := by
  unfold clz cl
  rw [List.countP_eq_length]
  intro y hy
  have := hl y hy
  exact decide_eq_true (by omega)
theorem L.cl_mono (l : List Nat) {x y : Nat} (h : x ≤ y) : cl l x ≤ cl l y := by
  unfold cl
  exact List.countP_mono_left (fun z _ hz => by simp at *; omega)

set_option maxHeartbeats 1000000 in
theorem less_low (s : Nat) (x : Int) (w : World) (h : x ≤ 0) :
    Calls Tryd.prog 21 #[.pointer (some ⟨s, 0, none⟩), .int .i64 x] w fun e w' => e = .returned (.int .i64 0) ∧ Below w.heap.size w w' := by
  have g0 : decide (x ≤ 0) = true := decide_eq_true h
  go_enter Tryd.func21, Tryd.ntmps21
  go_wp2_with fail
  refine bodyPost_ret (v := .int .i64 0) (by simp [results, Tryd.results21, go_sem]) rfl ⟨rfl, ?_⟩
  first | exact (((Below.refl _ _).alloc (Nat.le_refl _) _).alloc (by simp) _) | exact (((Below.refl _ _).alloc (Nat.le_refl _) _).alloc (by simp) _).setCell (p := ⟨w.heap.size + 1, 0, none⟩) (by simp) _

set_option maxHeartbeats 1000000 in
theorem less_high (s : Nat) (l : List Nat) (B : Nat) (x : Int) (w : World) (hs : SeqAt w s l B) (h0 : 1 ≤ B) (h : (B : Int) ≤ x) :
    Calls Tryd.prog 21 #[.pointer (some ⟨s, 0, none⟩), .int .i64 x] w fun e w' => e = .returned (.int .i64 (l.length : Nat)) ∧ Below w.heap.size w w' := by
  obtain ⟨gl, Al, cl, gc, gd, gx, A, c, Ad, cd, A1, c1, l1, A0, c0, l0, hb, hl, hc⟩ := hs
  have hslt := hb.lt
  have hB0 : Below w.heap.size w ((w.alloc (.cells #[.int .i64 x] 3)).alloc (.cells #[.int .i64 0] 3)) := ((Below.refl _ _).alloc (Nat.le_refl _) _).alloc (by simp) _
  have k0 := (hB0.cell (p := ⟨s, 0, none⟩) hslt).trans (show w.cell? ⟨s, 0, none⟩ = some (.int .i64 (l.length : Nat)) from hb.cell 0)
  have k1 := (hB0.cell (p := ⟨s, 1, none⟩) hslt).trans (show w.cell? ⟨s, 1, none⟩ = some (.int .i64 (B : Nat)) from hb.cell 1)
  have g0 : decide (x ≤ 0) = false := decide_eq_false (by omega)
  have g1 : decide (x ≥ (B : Int)) = true := decide_eq_true (by omega)
  clear hb hl hc
  go_enter Tryd.func21, Tryd.ntmps21
  go_wp2_with fail
  go_quiet (fail)
  go_wp2_with fail
  refine bodyPost_ret (v := .int .i64 (l.length : Nat)) (by simp [results, Tryd.results21, go_sem]) rfl ⟨rfl, ?_⟩
  have hBn : Below w.heap.size w (((w.alloc (.cells #[.int .i64 x] 3)).alloc (.cells #[.int .i64 0] 3)).drewN nq) := ⟨hB0.os, hB0.tape, hB0.output, hB0.size, hB0.block⟩
  exact hBn.setCell (p := ⟨w.heap.size + 1, 0, none⟩) (by simp) _

theorem L.segs_mem (l : List Nat) {a b j : Nat} (h1 : a ≤ j) (h2 : j < b) (h3 : j < l.length) : (j, l[j]) ∈ segs l a b := by
  unfold segs
  refine List.mem_map.2 ⟨j - a, List.mem_range.2 (by omega), ?_⟩
  rw [show a + (j - a) = j from by omega, List.getD_eq_getElem?_getD, List.getElem?_eq_getElem h3]; rfl
theorem L.segs_get (l : List Nat) {a b k : Nat} (h : k < (segs l a b).length) : (segs l a b)[k] = (a + k, l.getD (a + k) 0) := by
  simp [segs]
/-- None of a part reaches it: all of the part are less. -/
theorem L.segs_none {l : List Nat} (hr : Ris l) {W X p : Nat} (hp : p = X / 2 ^ W) (h : ∀ x ∈ segs l (cl l (p * 2 ^ W)) (cl l ((p + 1) * 2 ^ W)), x.2 < X) : cl l X = cl l ((p + 1) * 2 ^ W) := by
  have h1 : p * 2 ^ W ≤ X := by rw [hp]; exact Nat.div_mul_le_self _ _
  have h2 : X < (p + 1) * 2 ^ W := (part_lt W X (p + 1)).1 (by omega)
  have hb := cl_le l ((p + 1) * 2 ^ W)
  refine cl_unique hr hb (fun j hj => ?_) (fun hi => ?_)
  · by_cases ha : j < cl l (p * 2 ^ W)
    · have := (cl_lt hr (x := p * 2 ^ W) (show j < l.length by omega)).2 ha
      omega
    · exact h _ (segs_mem l (by omega) hj (by omega))
  · have := (cl_lt hr (x := (p + 1) * 2 ^ W) hi)
    omega
/-- The first of a part that reaches it. -/
theorem L.segs_some {l : List Nat} (hr : Ris l) {W X p : Nat} (hp : p = X / 2 ^ W) {q : List (Nat × Nat)} {x : Nat × Nat} (hq : q ++ [x] <+: segs l (cl l (p * 2 ^ W)) (cl l ((p + 1) * 2 ^ W))) (h1 : X ≤ x.2) (h2 : ∀ y ∈ q, y.2 < X) : cl l X = x.1 := by
  obtain ⟨r, hr'⟩ := hq
  have hb := cl_le l ((p + 1) * 2 ^ W)
  have hlen : q.length < (segs l (cl l (p * 2 ^ W)) (cl l ((p + 1) * 2 ^ W))).length := by rw [← hr']; simp
  have hlen2 := hlen
  rw [segs_length] at hlen2
  have hx : x = (cl l (p * 2 ^ W) + q.length, l.getD (cl l (p * 2 ^ W) + q.length) 0) := by
    rw [← segs_get l hlen]; simp [← hr']
  have hp1 : p * 2 ^ W ≤ X := by rw [hp]; exact Nat.div_mul_le_self _ _
  rw [hx] at h1 ⊢
  refine cl_unique hr (by simp; omega) (fun j hj => ?_) (fun hi => ?_)
  · simp only at hj
    by_cases ha : j < cl l (p * 2 ^ W)
    · have := (cl_lt hr (x := p * 2 ^ W) (show j < l.length by omega)).2 ha
      omega
    · have hk : j - cl l (p * 2 ^ W) < q.length := by omega
      have h3 := h2 _ (List.getElem_mem hk)
      have e : q[j - cl l (p * 2 ^ W)] = (segs l (cl l (p * 2 ^ W)) (cl l ((p + 1) * 2 ^ W)))[j - cl l (p * 2 ^ W)]'(by omega) := by
        simp only [← hr']
        rw [List.getElem_append_left (by simp; omega), List.getElem_append_left hk]
      rw [e, segs_get] at h3
      simp only [List.getD_eq_getElem?_getD] at h3
      rw [show cl l (p * 2 ^ W) + (j - cl l (p * 2 ^ W)) = j from by omega, List.getElem?_eq_getElem (by omega)] at h3
      exact h3
  · simp only [List.getD_eq_getElem?_getD] at h1
    rw [List.getElem?_eq_getElem hi] at h1
    exact h1
def L.lastI (pre : List (Nat × Nat)) : Nat := (pre.getLast?.getD (0, 0)).1
theorem L.lastI_snoc (pre : List (Nat × Nat)) (x : Nat × Nat) : lastI (pre ++ [x]) = x.1 := by unfold lastI; simp

set_option maxHeartbeats 4000000 in
theorem less_mid (s : Nat) (l : List Nat) (B X : Nat) (w : World) (hs : SeqAt w s l B) (hT : Tab w) (hr : RightN l B) (hf : Few l B) (h0 : 0 < X) (hX : X < B) :
    Calls Tryd.prog 21 #[.pointer (some ⟨s, 0, none⟩), .int .i64 (X : Nat)] w fun e w' => e = .returned (.int .i64 (cl l X : Nat)) ∧ Below w.heap.size w w' := by
  have hB0 : Below w.heap.size w ((w.alloc (.cells #[.int .i64 (X : Nat)] 3)).alloc (.cells #[.int .i64 0] 3)) := ((Below.refl _ _).alloc (Nat.le_refl _) _).alloc (by simp) _
  have b0 := (Boxed.new w 3 (.int .i64 (X : Nat))).alloc (.cells #[.int .i64 0] 3)
  have b1 := Boxed.new (w.alloc (.cells #[.int .i64 (X : Nat)] 3)) 3 (.int .i64 0)
  simp only [World.size_alloc] at b1
  have hslt : s < w.heap.size := by
    obtain ⟨gl, Al, cl, gc, gd, gx, A, c, Ad, cd, A1, c1, l1, A0, c0, l0, hb, hl, hc⟩ := hs
    exact hb.lt
  obtain ⟨kk1, kk2⟩ : w.cell? ⟨s, 1, none⟩ = some (.int .i64 (B : Nat)) ∧ w.cell? ⟨s, 2, none⟩ = some (.int .i64 (wd l.length B : Nat)) := by
    obtain ⟨gl, Al, cl, gc, gd, gx, A, c, Ad, cd, A1, c1, l1, A0, c0, l0, hb, hl, hc⟩ := hs
    exact ⟨hb.cell 1, hb.cell 2⟩
  have k1 := (hB0.cell (p := ⟨s, 1, none⟩) hslt).trans kk1
  have k2 := (hB0.cell (p := ⟨s, 2, none⟩) hslt).trans kk2
  have hn := hf.1
  have htop : (B - 1) / 2 ^ wd l.length B ≤ 100000 := hf.2
  have ht : top l B = (B - 1) / 2 ^ wd l.length B + 1 := rfl
  have hwd := wd_le l.length B hr.1.2
  have hBb := hr.1.2
  obtain ⟨p, hp⟩ : ∃ p, p = X / 2 ^ wd l.length B := ⟨_, rfl⟩
  have hpI : (X : Int) / 2 ^ wd l.length B = (p : Int) := by rw [hp]; norm_cast
  have hpt : p ≤ (B - 1) / 2 ^ wd l.length B := by rw [hp]; exact Nat.div_le_div_right (by omega)
  have g0 : decide ((X : Int) ≤ 0) = false := decide_eq_false (by omega)
  have g1 : decide ((X : Int) ≥ (B : Int)) = false := decide_eq_false (by omega)
  have hpW := wrap_one p (by omega)
  obtain ⟨W, hWd⟩ : ∃ W, W = wd l.length B := ⟨_, rfl⟩
  rw [← hWd] at hpI k2
  clear kk1 kk2
  have HWd := hid hWd
  have hW40 : W ≤ 40 := by omega
  have hm64 : min W 64 = W := by omega
  have HP := hid hp
  clear hWd hp
  have hw0 : decide ((W : Int) < 0) = false := decide_eq_false (by omega)
  have hw2 : (0 : Int) ≤ (W : Int) := by omega
  have hw3 : ¬ ((W : Int) < 0) := by omega
  have hw4 : (W : Int).toNat = W := Int.toNat_natCast W
  have hpW2 : IntKind.i64.wrap ((X : Int) / 2 ^ W) = (p : Int) := by rw [hpI, IntKind.wrap_i64]; omega
  have g2 : decide (X = 0) = false := decide_eq_false (by omega)
  have g3 : decide (B ≤ X) = false := decide_eq_false (by omega)
  refine (callsIn_wide (n := 8)).1 ?_
  refine callsIn_of_wp_marks Tryd.func21 rfl trivial ?_ rfl
  simp only [Tryd.ntmps21, List.size_toArray, List.length_cons, List.length_nil, Nat.reduceAdd, Nat.reduceSub, Array.replicate_succ, Array.replicate_zero, List.push_toArray, List.append_toArray, List.nil_append, List.cons_append]
  gi_wp2
  gi_region
  gi_wp2
  gi_region
  gi_wp2
  refine ⟨trivial, ?_⟩
  try simp only [hpI]
  refine (callsIn_wide.2 (among_any s p _)).mono ?_
  rintro e w1 ⟨rfl, rfl⟩
  gi_wp2
  have hp := HP.out
  obtain ⟨a, ha⟩ : ∃ a, a = L.cl l (p * 2 ^ L.wd l.length B) := ⟨_, rfl⟩
  obtain ⟨b, hb⟩ : ∃ b, b = L.cl l ((p + 1) * 2 ^ L.wd l.length B) := ⟨_, rfl⟩
  have hab : a ≤ b := by rw [ha, hb]; exact L.cl_mono l (Nat.mul_le_mul_right _ (by omega))
  have HF := hid (show ∀ W', Below w.heap.size w W' → Calls Tryd.prog 66 #[.pointer (some ⟨s, 0, none⟩), .int .i64 ((p : Int) + 1)] W' fun e w' => e = .returned (.int .i64 (b : Nat)) ∧ Below W'.heap.size W' w' from fun W' hW' => by
    rw [hb]; exact sfirst_any s l B (p + 1) W' (hs.below hW') (hT.below hW') hr hf (by omega))
  have c0 := (b0.alloc (.cells #[.pointer (some ⟨s, 0, none⟩)] 25)).alloc (.cells #[.int .i64 (p : Nat)] 3)
  have c1 := (b1.alloc (.cells #[.pointer (some ⟨s, 0, none⟩)] 25)).alloc (.cells #[.int .i64 (p : Nat)] 3)
  have c2 := (Boxed.new ((w.alloc (.cells #[.int .i64 (X : Nat)] 3)).alloc (.cells #[.int .i64 0] 3)) 25 (.pointer (some ⟨s, 0, none⟩))).alloc (.cells #[.int .i64 (p : Nat)] 3)
  have c3 := Boxed.new (((w.alloc (.cells #[.int .i64 (X : Nat)] 3)).alloc (.cells #[.int .i64 0] 3)).alloc (.cells #[.pointer (some ⟨s, 0, none⟩)] 25)) 3 (.int .i64 (p : Nat))
  simp only [World.size_alloc] at c2 c3
  have hB1 := (hB0.alloc (by simp; omega) (.cells #[.pointer (some ⟨s, 0, none⟩)] 25)).alloc (by simp; omega) (.cells #[.int .i64 (p : Nat)] 3)
  have hsz : ((((w.alloc (.cells #[.int .i64 (X : Nat)] 3)).alloc (.cells #[.int .i64 0] 3)).alloc (.cells #[.pointer (some ⟨s, 0, none⟩)] 25)).alloc (.cells #[.int .i64 (p : Nat)] 3)).heap.size = w.heap.size + 4 := by simp
  obtain ⟨W0, hW0⟩ : ∃ W0, ((((w.alloc (.cells #[.int .i64 (X : Nat)] 3)).alloc (.cells #[.int .i64 0] 3)).alloc (.cells #[.pointer (some ⟨s, 0, none⟩)] 25)).alloc (.cells #[.int .i64 (p : Nat)] 3)).drew.drew = W0 := ⟨_, rfl⟩
  have d0 : Boxed W0 w.heap.size 3 (.int .i64 (X : Nat)) := by rw [← hW0]; exact c0
  have d1 : Boxed W0 (w.heap.size + 1) 3 (.int .i64 0) := by rw [← hW0]; exact c1
  have d2 : Boxed W0 (w.heap.size + 1 + 1) 25 (.pointer (some ⟨s, 0, none⟩)) := by rw [← hW0]; exact c2
  have d3 : Boxed W0 (w.heap.size + 1 + 1 + 1) 3 (.int .i64 (p : Nat)) := by rw [← hW0]; exact c3
  have hB2 : Below w.heap.size w W0 := by rw [← hW0]; exact ⟨hB1.os, hB1.tape, hB1.output, hB1.size, hB1.block⟩
  have hsz0 : W0.heap.size = w.heap.size + 4 := by rw [← hW0]; exact hsz
  rw [hW0]
  clear hW0 c0 c1 c2 c3 hB0 hB1 b0 b1 k1 k2 hsz
  refine wpIn_rangeFunc_ownF (n := 8) rfl (by omega) (gf := 104) (lb := #[.pointer (some ⟨w.heap.size + 1 + 1, 0, none⟩), .pointer (some ⟨w.heap.size + 1 + 1 + 1, 0, none⟩)]) rfl trivial (enters_of Tryd.func104 (by kernel_rfl) rfl)
    (among_stops (8 - 1) (by omega) (w.heap.size + 1 + 1) (w.heap.size + 1 + 1 + 1) s l B p W0 (hs.below hB2) (hT.below hB2) hr hf (by omega) d2.cell d3.cell (by omega) (by omega) a b ha hb hab) belowK_t (belowK_b (Nat.le_refl _)) (Below.refl _ _) (fun _ => rfl)
    (fun pre W => (Boxed W w.heap.size 3 (.int .i64 (X : Nat)) ∧ Boxed W (w.heap.size + 1) 3 (.int .i64 0)) ∧ Below w.heap.size w W ∧ ∀ x ∈ pre, x.2 < X)
    (fun c pre W => (Boxed W (w.heap.size + 1) 3 (.int .i64 (lastI pre : Nat)) ∧ c = .ret) ∧ Below w.heap.size w W ∧ ∃ q x, pre = q ++ [x] ∧ X ≤ x.2 ∧ ∀ y ∈ q, y.2 < X)
    (OwnFrom.and (OwnFrom.and (Own.from (boxed_own _ _ (fun _ => .int .i64 (X : Nat))) _) (Own.from (boxed_own _ _ (fun _ => .int .i64 0)) _)) (OwnFrom.and (ownFrom_below (Nat.le_refl _) (by omega)) (ownFrom_pure _ _)))
    (fun c => OwnFrom.and (OwnFrom.and (Own.from (boxed_own _ _ (fun pre => .int .i64 (lastI pre : Nat))) _) (ownFrom_pure _ _)) (OwnFrom.and (ownFrom_below (Nat.le_refl _) (by omega)) (ownFrom_pure _ _)))
    ⟨⟨d0, d1⟩, hB2, by simp⟩
    (fun x => { tmps := #[.pointer (some ⟨s, 0, none⟩), .int .i64 (X : Nat), undef, .pointer (some ⟨w.heap.size, 0, none⟩), .pointer (some ⟨w.heap.size + 1, 0, none⟩), .int .i64 (p : Nat), .int .i64 (x.1 : Nat), .int .i64 (x.2 : Nat), .bool false, .int .i64 (X : Nat), .bool false, .bool false, .int .i64 (X : Nat), .pointer (some ⟨s, 0, none⟩), .pointer (some ⟨s, 0, none⟩), .pointer (some ⟨s, 1, none⟩), .int .i64 (B : Nat), .bool false, undef, undef, undef, undef, .int .i64 (X : Nat), .pointer (some ⟨s, 0, none⟩), .pointer (some ⟨s, 0, none⟩), .pointer (some ⟨s, 2, none⟩), .int .i64 (W : Nat), .int .i64 (p : Nat), .pointer (some ⟨s, 0, none⟩), .int .i64 (p : Nat), .func (.func 104) #[] #[.pointer (some ⟨w.heap.size + 1 + 1, 0, none⟩), .pointer (some ⟨w.heap.size + 1 + 1 + 1, 0, none⟩)], .int .i64 (x.1 : Nat), .int .i64 (x.2 : Nat), undef, undef, undef, undef, undef, undef, undef, undef], defers := [] })
    ?assign ?body ?done ?stop
  case assign =>
    intro l x W K hK
    clear hp ha hb
    dsimp only [amE]
    gi_wp2
    exact hK
  case body =>
    rintro r pre x W ⟨⟨e0, e1⟩, hB, hpre⟩ hlt
    clear hp ha hb
    have k0 := e0.cell
    have k0' := e1.cell
    have k0f := e1.frozen
    by_cases hx : X ≤ x.2
    · have hxI : decide ((x.2 : Int) ≥ (X : Int)) = true := decide_eq_true (by omega)
      have HX := hid hx
      have HL := hid (L.lastI_snoc pre x)
      clear hx
      gi_wp2
      exact ⟨(KeepsOthers.setCell _ _ _), ⟨by rw [HL.out]; exact e1.set _, rfl⟩, hB.setCell (p := ⟨w.heap.size + 1, 0, none⟩) (by simp) _, pre, x, rfl, HX.out, hpre⟩
    · have hxI : decide ((x.2 : Int) ≥ (X : Int)) = false := decide_eq_false (by omega)
      have HX := hid hx
      clear hx
      gi_wp2
      exact ⟨KeepsOthers.refl _, Below.refl _ _, ⟨e0, e1⟩, hB, fun y hy => by
        rcases List.mem_append.1 hy with h | h
        · exact hpre y h
        · rw [List.mem_singleton] at h; have := HX.out; subst h; omega⟩
  case done =>
    rintro D ys W hD rfl ⟨⟨e0, e1⟩, hB, hall⟩ hK
    have k0' := e1.cell
    have k0f := e1.frozen
    have HC := hid (L.segs_none hr.2.1 hp (by rw [← ha, ← hb]; exact hall))
    rw [← hb] at HC
    have HD := hid hD
    have HH := hid hall
    clear hD hall hp ha hb
    gi_wp2
    refine ⟨trivial, ?_⟩
    refine (callsIn_wide.2 (HF.out _ hB)).mono ?_
    rintro e w2 ⟨rfl, hB3⟩
    have hK2 := (hB3.block D (Array.getElem?_eq_some_iff.1 hK).1).trans hK
    have e1' : Boxed w2 (w.heap.size + 1) 3 (.int .i64 0) := (hB3.block _ e1.lt).trans e1
    have hB4 := hB.trans (hB3.mono hB.size)
    have k1' := e1'.cell
    have k1f := e1'.frozen
    gi_wp2
    have hD := HD.out
    have e2 := e1'.set (.int .i64 (b : Nat))
    have hB5 := hB4.setCell (p := ⟨w.heap.size + 1, 0, none⟩) (by simp) (.int .i64 (b : Nat))
    have hK3 := (KeepsOthers.setCell w2 ⟨w.heap.size + 1, 0, none⟩ (.int .i64 (b : Nat))).same D _ hK2 rfl
    refine ⟨by simp, .inl ⟨_, _, rfl, run_takeDeferred hK3, ?_⟩⟩
    have f1 := cell_kept e2.cell (grownBy_putObj' _ D (.deferred none)) (fun r e => by cases e; exact ⟨_, hK3, rfl⟩)
    refine ⟨.int .i64 (b : Nat), ?_, by rw [HC.out], hB5.trans (belowK_b (w := w) (Nat.le_refl _) _ D _ _ (by omega) hK3 rfl rfl)⟩
    simp [results, Tryd.f21, go_sem, f1]
  case stop =>
    rintro D c pre W hD hpre ⟨⟨e1, rfl⟩, hB, q, x, rfl, h1, h2⟩ hK
    rw [L.lastI_snoc] at e1
    have hC := L.segs_some hr.2.1 hp (by rw [← ha, ← hb]; exact hpre) h1 h2
    clear hp ha hb
    gi_wp2
    refine ⟨by simp, .inl ⟨_, _, rfl, run_takeDeferred hK, ?_⟩⟩
    have f1 := cell_kept e1.cell (grownBy_putObj' _ D (.deferred none)) (fun r e => by cases e; exact ⟨_, hK, rfl⟩)
    refine ⟨.int .i64 (x.1 : Nat), ?_, by rw [hC], hB.trans (belowK_b (w := w) (Nat.le_refl _) _ D _ _ (by omega) hK rfl rfl)⟩
    simp [results, Tryd.f21, go_sem, f1]

theorem less_any (s : Nat) (l : List Nat) (B : Nat) (x : Int) (w : World) (hs : SeqAt w s l B) (hT : Tab w) (hr : RightN l B) (hf : Few l B) :
    Calls Tryd.prog 21 #[.pointer (some ⟨s, 0, none⟩), .int .i64 x] w fun e w' => e = .returned (.int .i64 (clz l x : Nat)) ∧ Below w.heap.size w w' := by
  by_cases h0 : x ≤ 0
  · rw [L.clz_low l h0]; exact less_low s x w h0
  · by_cases h1 : (B : Int) ≤ x
    · rw [L.clz_high hr.2.2 h1]; exact less_high s l B x w hs hr.1.1 h1
    · obtain ⟨X, rfl⟩ := Int.eq_ofNat_of_zero_le (show 0 ≤ x by omega)
      exact less_mid s l B X w hs hT hr hf (by omega) (by omega)

end Go.Proofs.YtlpnbkfcbamnbaaDoor
