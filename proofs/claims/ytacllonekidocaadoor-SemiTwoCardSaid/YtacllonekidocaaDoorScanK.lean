/- Walks: a record's verdict. -/
import Derived.Test.YtacllonekidocaaDoorScanJ
set_option linter.unusedVariables false
set_option linter.unusedSimpArgs false
set_option maxRecDepth 100000
namespace Go.Proofs.YtacllonekidocaaDoor
open Go.RowKit Go.Shelf L

/-- The verdict, and what is told with it. -/
def L.verd (l : List Nat) (deep : Nat) : Nat × Nat :=
  if 65536 < l.length then (4, 0) else if (goA L.start l 0).2 = l.length ∧ fin (goA L.start l 0).1 = true then (if deep < (goA L.start l 0).1.most then (2, (goA L.start l 0).1.most) else (1, (goA L.start l 0).1.most)) else (3, (goA L.start l 0).2)

theorem ScAt.new (w : World) (s : ByteArray) : ScAt (w.alloc (.cells #[.string s, .int .i64 0, .slice none 0 0, .int .i64 0, .int .i64 0] 82)) w.heap.size s 0 (.slice none 0 0) 0 0 := BlkIs.new w _ _

set_option maxHeartbeats 1000000 in
theorem valid_arg (s : ByteArray) (deep : Int) (w : World) (h : deep < 1 ∨ 4096 < deep) :
    Calls Tryd.prog 20 #[.string s, .int .i64 deep] w fun e w' => e = .returned (.tuple #[.int .i64 0, .int .i64 0, .int .i64 1]) ∧ w = w' := by
  by_cases h1 : deep < 1
  · have d1 : decide (deep < 1) = true := decide_eq_true h1
    go_enter Tryd.func20, Tryd.ntmps20
    go_wp2_with fail
    go_ret3
    exact ⟨rfl, rfl⟩
  · have d1 : decide (deep < 1) = false := decide_eq_false h1
    have h2 : 4096 < deep := by omega
    have d2 : decide (deep > 4096) = true := decide_eq_true h2
    go_enter Tryd.func20, Tryd.ntmps20
    go_wp2_with fail
    go_ret3
    exact ⟨rfl, rfl⟩

set_option maxHeartbeats 2000000 in
theorem valid_any (s : ByteArray) (deep : Nat) (w : World) (h1 : 1 ≤ deep) (h2 : deep ≤ 4096) :
    Calls Tryd.prog 20 #[.string s, .int .i64 (deep : Nat)] w fun e w' => e = .returned (.tuple #[.int .i64 ((verd (nb s) deep).1 : Nat), .int .i64 ((verd (nb s) deep).2 : Nat), .int .i64 0]) ∧ Below w.heap.size w w' := by
  have hll := nb_length s
  have d1 : decide ((deep : Int) < 1) = false := decide_eq_false (by omega)
  have d1N : ¬ (deep < 1) := by omega
  have d2 : decide ((deep : Int) > 4096) = false := decide_eq_false (by omega)
  have d2N : ¬ (4096 < deep) := by omega
  rcases Nat.lt_or_ge 65536 s.size with hs | hs
  · have hv : verd (nb s) deep = (4, 0) := by unfold verd; rw [if_pos (by rw [hll]; exact hs)]
    rw [hv]
    have d3 : decide ((s.size : Int) > 65536) = true := decide_eq_true (by omega)
    go_enter Tryd.func20, Tryd.ntmps20
    go_wp2_with fail
    go_ret3
    exact ⟨rfl, Below.refl _ _⟩
  · have d3 : decide ((s.size : Int) > 65536) = false := decide_eq_false (by omega)
    have d3N : ¬ (65536 < s.size) := by omega
    have hB0 := (Below.refl w.heap.size w).alloc (Nat.le_refl _) (.cells #[.string s, .int .i64 0, .slice none 0 0, .int .i64 0, .int .i64 0] 82)
    have hnot : ¬ (65536 < (nb s).length) := by rw [hll]; omega
    go_enter Tryd.func20, Tryd.ntmps20
    go_wp2_with fail
    refine (stext_any w.heap.size s _ (ScAt.new w s) hs).mono ?_
    rintro e w1 ⟨ok, rfl, k, v, d, m, hb1, hbe, hres⟩
    have hB1 := hB0.trans hbe
    have c1 := hb1.c1
    have c4 := hb1.c4
    rcases hres with ⟨rfl, hk, q, hr, hf, hm⟩ | ⟨rfl, q, hr, hd⟩
    · obtain ⟨q0, hg, hf0, hm0⟩ := goA_fin (by rw [hll, ← hk]; exact hr) hf
      by_cases hdm : deep < m
      · have hv : verd (nb s) deep = (2, m) := by
          unfold verd; rw [if_neg hnot, hg, if_pos ⟨rfl, hf0⟩, hm0, hm, if_pos hdm]
        have HV := hid hv
        have d4 : decide ((m : Int) > (deep : Int)) = true := decide_eq_true (by omega)
        clear hr hf hg hf0 hm0 hm hv
        go_wp2_with fail
        go_quiet (fail)
        go_wp2_with fail
        go_ret3
        exact ⟨by rw [HV.out]; rfl, below_drewN hB1 _⟩
      · have hv : verd (nb s) deep = (1, m) := by
          unfold verd; rw [if_neg hnot, hg, if_pos ⟨rfl, hf0⟩, hm0, hm, if_neg hdm]
        have HV := hid hv
        have d4 : decide ((m : Int) > (deep : Int)) = false := decide_eq_false (by omega)
        clear hr hf hg hf0 hm0 hm hv
        go_wp2_with fail
        go_quiet (fail)
        go_wp2_with fail
        go_ret3
        exact ⟨by rw [HV.out]; rfl, below_drewN hB1 _⟩
    · obtain ⟨q0, hg, hn⟩ := goA_dead hr hd
      have hv : verd (nb s) deep = (3, k) := by
        unfold verd; rw [if_neg hnot, hg, if_neg hn]
      have HV := hid hv
      clear hr hd hg hn hv
      go_wp2_with fail
      go_quiet (fail)
      go_wp2_with fail
      go_ret3
      exact ⟨by rw [HV.out]; rfl, below_drewN hB1 _⟩

end Go.Proofs.YtacllonekidocaaDoor
