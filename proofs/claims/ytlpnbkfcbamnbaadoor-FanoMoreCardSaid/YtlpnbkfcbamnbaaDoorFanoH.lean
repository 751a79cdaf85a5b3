/- Walks: numbers that rise: next, the one ahead, has; sizes. -/
import Derived.Test.YtlpnbkfcbamnbaaDoorFanoG
set_option linter.unusedVariables false
set_option linter.unusedSimpArgs false
set_option maxRecDepth 100000
namespace Go.Proofs.YtlpnbkfcbamnbaaDoor
open Go.RowKit Go.Shelf L

/-- The least that isn't less; the greatest that isn't greater. -/
def L.nxt (l : List Nat) (x : Int) : Option Nat := l[clz l x]?
def L.prv (l : List Nat) (x : Int) : Option Nat := if clz l (x + 1) = 0 then none else l[clz l (x + 1) - 1]?
def oN : Option Nat → Value
  | some v => .tuple #[.int .i64 (v : Nat), .bool true]
  | none => .tuple #[.int .i64 0, .bool false]
theorem L.clz_le (l : List Nat) (x : Int) : clz l x ≤ l.length := cl_le _ _

set_option maxHeartbeats 1000000 in
theorem next_any (s : Nat) (l : List Nat) (B : Nat) (x : Int) (w : World) (hs : SeqAt w s l B) (hT : Tab w) (hr : RightN l B) (hf : Few l B) :
    Calls Tryd.prog 23 #[.pointer (some ⟨s, 0, none⟩), .int .i64 x] w fun e w' => e = .returned (oN (nxt l x)) ∧ Below w.heap.size w w' := by
  have HL := hid (less_any s l B x w hs hT hr hf)
  have hj := L.clz_le l x
  have hn := hf.1
  have HG := hid (show ∀ i (hi : i < l.length) W', Below w.heap.size w W' → Calls Tryd.prog 64 #[.pointer (some ⟨s, 0, none⟩), .int .i64 (i : Nat)] W' fun e w' => e = .returned (.int .i64 (l[i] : Nat)) ∧ Below W'.heap.size W' w' from fun i hi W' hW' => sget_any s l B i W' (hs.below hW') (hT.below hW') hr hf hi)
  have HN := hid (show nxt l x = l[L.clz l x]? from rfl)
  obtain ⟨kk0, hslt⟩ : w.cell? ⟨s, 0, none⟩ = some (.int .i64 (l.length : Nat)) ∧ s < w.heap.size := by
    obtain ⟨gl, Al, cl, gc, gd, gx, A, c, Ad, cd, A1, c1, l1, A0, c0, l0, hb, hl, hc⟩ := hs
    exact ⟨hb.cell 0, hb.lt⟩
  clear hs hT hr hf
  generalize L.clz l x = j at *
  go_enter Tryd.func23, Tryd.ntmps23
  go_wp2_with fail
  refine (HL.out).mono ?_
  rintro e w1 ⟨rfl, hB1⟩
  have k0 := (hB1.cell (p := ⟨s, 0, none⟩) hslt).trans kk0
  have hs1 := hB1.size
  rcases Nat.lt_or_ge j l.length with h | h
  · have g0 : ((j : Int) == (l.length : Int)) = false := by rw [beq_eq_false_iff_ne]; omega
    have hne : ¬ j = l.length := by omega
    go_wp2_with fail
    refine (HG.out j h _ hB1).mono ?_
    rintro e w2 ⟨rfl, hB2⟩
    go_wp2_with fail
    go_ret2
    exact ⟨by rw [HN.out, List.getElem?_eq_getElem h]; rfl, hB1.trans (hB2.mono hs1)⟩
  · have g0 : ((j : Int) == (l.length : Int)) = true := by rw [beq_iff_eq]; omega
    have he : j = l.length := by omega
    have HE := hid he
    clear he h
    go_wp2_with fail
    go_ret2
    exact ⟨by rw [HN.out, HE.out, List.getElem?_eq_none (Nat.le_refl _)]; rfl, hB1⟩

set_option maxHeartbeats 1000000 in
theorem prev_any (s : Nat) (l : List Nat) (B : Nat) (x : Int) (w : World) (hs : SeqAt w s l B) (hT : Tab w) (hr : RightN l B) (hf : Few l B) :
    Calls Tryd.prog 24 #[.pointer (some ⟨s, 0, none⟩), .int .i64 x] w fun e w' => e = .returned (oN (prv l x)) ∧ Below w.heap.size w w' := by
  have HL := hid (less_any s l B (x + 1) w hs hT hr hf)
  have hj := L.clz_le l (x + 1)
  have hn := hf.1
  have hB2 := hr.1.2
  have HG := hid (show ∀ i (hi : i < l.length) W', Below w.heap.size w W' → Calls Tryd.prog 64 #[.pointer (some ⟨s, 0, none⟩), .int .i64 (i : Nat)] W' fun e w' => e = .returned (.int .i64 (l[i] : Nat)) ∧ Below W'.heap.size W' w' from fun i hi W' hW' => sget_any s l B i W' (hs.below hW') (hT.below hW') hr hf hi)
  have HP := hid (show prv l x = if L.clz l (x + 1) = 0 then none else l[L.clz l (x + 1) - 1]? from rfl)
  have hhi : (B : Int) ≤ x → L.clz l (x + 1) = l.length := fun h => L.clz_high hr.2.2 (by omega)
  have hlo : x < 0 → L.clz l (x + 1) = 0 := fun h => L.clz_low l (by omega)
  obtain ⟨k0, k1, hslt⟩ : w.cell? ⟨s, 0, none⟩ = some (.int .i64 (l.length : Nat)) ∧ w.cell? ⟨s, 1, none⟩ = some (.int .i64 (B : Nat)) ∧ s < w.heap.size := by
    obtain ⟨gl, Al, cl, gc, gd, gx, A, c, Ad, cd, A1, c1, l1, A0, c0, l0, hb, hl, hc⟩ := hs
    exact ⟨hb.cell 0, hb.cell 1, hb.lt⟩
  clear hs hT hr hf
  by_cases h0 : x < 0
  · have g0 : decide (x < 0) = true := decide_eq_true h0
    have HZ := hid (hlo h0)
    clear hlo hhi h0 hj
    go_enter Tryd.func24, Tryd.ntmps24
    go_wp2_with fail
    go_ret2
    exact ⟨by rw [HP.out, HZ.out]; rfl, Below.refl _ _⟩
  · have g0 : decide (x < 0) = false := decide_eq_false h0
    by_cases h1 : (B : Int) ≤ x
    · have g1 : decide (x < (B : Int)) = false := decide_eq_false (by omega)
      have HZ := hid (hhi h1)
      clear hlo hhi h0 hj
      by_cases hz : l.length = 0
      · have g2 : ((l.length : Int) == 0) = true := by rw [beq_iff_eq]; omega
        have HE := hid hz
        clear hz
        go_enter Tryd.func24, Tryd.ntmps24
        go_wp2_with fail
        go_ret2
        exact ⟨by rw [HP.out, HZ.out, HE.out]; rfl, Below.refl _ _⟩
      · have g2 : ((l.length : Int) == 0) = false := by rw [beq_eq_false_iff_ne]; omega
        have hlt : l.length - 1 < l.length := by omega
        have hc : (l.length : Int) - 1 = ((l.length - 1 : Nat) : Int) := by omega
        have HE := hid (show prv l x = some l[l.length - 1] by rw [HP.out, HZ.out, if_neg hz, List.getElem?_eq_getElem hlt])
        have HG2 := hid (show ∀ W', Below w.heap.size w W' → Calls Tryd.prog 64 #[.pointer (some ⟨s, 0, none⟩), .int .i64 ((l.length : Int) - 1)] W' fun e w' => e = .returned (.int .i64 (l[l.length - 1] : Nat)) ∧ Below W'.heap.size W' w' from fun W' hW' => by rw [hc]; exact HG.out _ hlt W' hW')
        generalize l[l.length - 1] = y at *
        have hlw : IntKind.i64.wrap ((l.length : Int) - 1) = (l.length : Int) - 1 := by rw [IntKind.wrap_i64]; omega
        clear hz hlt hc
        go_enter Tryd.func24, Tryd.ntmps24
        go_wp2_with fail
        refine (HG2.out _ (Below.refl _ _)).mono ?_
        rintro e w2 ⟨rfl, hB2⟩
        go_wp2_with fail
        go_ret2
        exact ⟨by rw [HE.out]; rfl, hB2⟩
    · have g1 : decide (x < (B : Int)) = true := decide_eq_true (by omega)
      have hxw : IntKind.i64.wrap (x + 1) = x + 1 := by rw [IntKind.wrap_i64]; omega
      clear hlo hhi
      generalize L.clz l (x + 1) = j at *
      by_cases hz : j = 0
      · have g2 : ((j : Int) == 0) = true := by rw [beq_iff_eq]; omega
        have HE := hid hz
        clear hz
        go_enter Tryd.func24, Tryd.ntmps24
        go_wp2_with fail
        refine (HL.out).mono ?_
        rintro e w1 ⟨rfl, hB1⟩
        go_wp2_with fail
        go_ret2
        exact ⟨by rw [HP.out, HE.out]; rfl, hB1⟩
      · have g2 : ((j : Int) == 0) = false := by rw [beq_eq_false_iff_ne]; omega
        have hlt : j - 1 < l.length := by omega
        have hc : (j : Int) - 1 = ((j - 1 : Nat) : Int) := by omega
        have HE := hid (show prv l x = some l[j - 1] by rw [HP.out, if_neg hz, List.getElem?_eq_getElem hlt])
        have HG2 := hid (show ∀ W', Below w.heap.size w W' → Calls Tryd.prog 64 #[.pointer (some ⟨s, 0, none⟩), .int .i64 ((j : Int) - 1)] W' fun e w' => e = .returned (.int .i64 (l[j - 1] : Nat)) ∧ Below W'.heap.size W' w' from fun W' hW' => by rw [hc]; exact HG.out _ hlt W' hW')
        generalize l[j - 1] = y at *
        have hlw : IntKind.i64.wrap ((j : Int) - 1) = (j : Int) - 1 := by rw [IntKind.wrap_i64]; omega
        clear hz hlt hc
        go_enter Tryd.func24, Tryd.ntmps24
        go_wp2_with fail
        refine (HL.out).mono ?_
        rintro e w1 ⟨rfl, hB1⟩
        have hs1 := hB1.size
        go_wp2_with fail
        refine (HG2.out _ hB1).mono ?_
        rintro e w2 ⟨rfl, hB2⟩
        go_wp2_with fail
        go_ret2
        exact ⟨by rw [HE.out]; rfl, hB1.trans (hB2.mono hs1)⟩

/-- Is a number there? -/
def L.hasN (l : List Nat) (x : Int) : Bool := match nxt l x with
  | some y => decide (x = (y : Int))
  | none => false
set_option maxHeartbeats 1000000 in
theorem has_any (s : Nat) (l : List Nat) (B : Nat) (x : Int) (w : World) (hs : SeqAt w s l B) (hT : Tab w) (hr : RightN l B) (hf : Few l B) :
    Calls Tryd.prog 22 #[.pointer (some ⟨s, 0, none⟩), .int .i64 x] w fun e w' => e = .returned (.bool (hasN l x)) ∧ Below w.heap.size w w' := by
  have HN := hid (next_any s l B x w hs hT hr hf)
  clear hs hT hr hf
  unfold hasN
  cases hnx : nxt l x with
  | none =>
    rw [hnx] at HN
    clear hnx
    unfold oN at HN
    dsimp only at HN
    go_enter Tryd.func22, Tryd.ntmps22
    go_wp2_with fail
    refine (HN.out).mono ?_
    rintro e w1 ⟨rfl, hB1⟩
    go_wp2_with fail
    go_ret
    exact ⟨rfl, hB1⟩
  | some y =>
    rw [hnx] at HN
    clear hnx
    unfold oN at HN
    dsimp only at HN
    have hd : (x == (y : Int)) = decide (x = (y : Int)) := by rw [Bool.eq_iff_iff]; simp
    go_enter Tryd.func22, Tryd.ntmps22
    go_wp2_with fail
    refine (HN.out).mono ?_
    rintro e w1 ⟨rfl, hB1⟩
    go_wp2_with fail
    go_ret
    exact ⟨by first | rfl | simp [hd], hB1⟩

set_option maxHeartbeats 1000000 in
theorem size_any (s : Nat) (l : List Nat) (B : Nat) (w : World) (hs : SeqAt w s l B) (hr : RightN l B) (hf : Few l B) :
    Calls Tryd.prog 40 #[.pointer (some ⟨s, 0, none⟩)] w fun e w' => e = .returned (.int .i64 (l.length * wd l.length B + (l.length + top l B) : Nat)) ∧ ∃ m, w' = w.drewN m := by
  obtain ⟨gl, Al, cL, gc, gd, gx, A, c, Ad, cd, A1, c1, l1, A0, c0, l0, hb, hl, hc⟩ := hs
  have k3 : w.cell? ⟨s, 3, none⟩ = some (.pointer (some ⟨gl, 0, none⟩)) := hb.cell 3
  have k5 : w.cell? ⟨s, 5, none⟩ = some (.int .i64 (l.length + top l B : Nat)) := hb.cell 5
  have hslt := hb.lt
  have hn := hf.1
  have hwd := wd_le l.length B hr.1.2
  have htop : (B - 1) / 2 ^ wd l.length B ≤ 100000 := hf.2
  have ht : top l B = (B - 1) / 2 ^ wd l.length B + 1 := rfl
  have hm : l.length * wd l.length B ≤ 10000 * 40 := Nat.mul_le_mul hn hwd
  have HL := hid (fun W hc => rlen_any gl ((lows (wd l.length B) l).length : Nat) W hc)
  have hcl := hl.cells.2
  rw [lows_length] at HL hcl
  have hbb : l.length + top l B ≤ 200000 := by omega
  clear hb hl hc hr hf ht htop
  generalize l.length * wd l.length B = a at *
  generalize l.length + top l B = b at *
  have hw : IntKind.i64.wrap ((a : Int) + (b : Int)) = (a : Int) + (b : Int) := by rw [IntKind.wrap_i64]; omega
  go_enter Tryd.func40, Tryd.ntmps40
  go_wp2_with fail
  go_quiet ((go_at_call 83; exact quiet_left (HL.out _ (by exact hcl))))
  go_wp2_with fail
  go_ret
  exact ⟨by go_num, _, rfl⟩

set_option maxHeartbeats 600000 in
theorem over_any (s : Nat) (l : List Nat) (B : Nat) (w : World) (hs : SeqAt w s l B) :
    ∃ N : Nat, (N ≤ 3 * (high (wd l.length B) (top l B) l).length / 2 + 1024) ∧ Calls Tryd.prog 41 #[.pointer (some ⟨s, 0, none⟩)] w fun e w' => e = .returned (.int .i64 (N : Nat)) ∧ ∃ m, w' = w.drewN m := by
  obtain ⟨gl, Al, cL, gc, gd, gx, A, c, Ad, cd, A1, c1, l1, A0, c0, l0, hb, hl, hc⟩ := hs
  have k4 : w.cell? ⟨s, 4, none⟩ = some (.pointer (some ⟨gc, 0, none⟩)) := hb.cell 4
  have hslt := hb.lt
  have b1 := hc.half1.1
  have b0 := hc.half0.1
  have hsum := kc_both (high (wd l.length B) (top l B) l)
  have HS := hid (chSize_any gc gd gx A c (high (wd l.length B) (top l B) l) Ad cd A1 c1 l1 A0 c0 l0 w hc)
  clear hb hl hc
  refine ⟨128 * ((high (wd l.length B) (top l B) l).length / 512 + 1) + 64 * (l1.length + l0.length), by omega, ?_⟩
  clear b1 b0 hsum
  generalize (high (wd l.length B) (top l B) l).length = N at *
  go_enter Tryd.func41, Tryd.ntmps41
  go_wp2_with fail
  refine (HS.out).mono ?_
  rintro e w1 ⟨rfl, m, rfl⟩
  go_wp2_with fail
  go_ret
  exact ⟨rfl, m, rfl⟩

end Go.Proofs.YtlpnbkfcbamnbaaDoor
