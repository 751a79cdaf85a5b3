/- Walks: the laws of chapter 24: any span's text. -/
import Derived.Test.YtegoephanphnkaaSplitD
import Derived.Deep.RegionWith
set_option linter.unusedVariables false
set_option linter.unusedSimpArgs false
set_option maxRecDepth 100000
namespace Go.Proofs.Ytegoephanphnkaa
open Go.RowKit Go.Shelf L

theorem text_law (s : ByteArray) (a b : Int) (w : World) (hs : s.size ≤ 9223372036854775807) (ha1 : -9223372036854775808 ≤ a) (ha2 : a ≤ 9223372036854775807) (hb1 : -9223372036854775808 ≤ b) (hb2 : b ≤ 9223372036854775807) :
    Calls Try.prog 13 #[.string s, .int .i64 a, .int .i64 b] w fun e w' => e = .returned (.bool true) ∧ Below w.heap.size w w' := by
  rcases Nat.lt_or_ge 300 s.size with h3 | h3
  · have d1 : decide ((s.size : Int) > 300) = true := decide_eq_true (by omega)
    go_enter Try.func13, Try.ntmps13
    go_wp2_with fail
    refine (awake24 _).mono ?_
    rintro e w1 ⟨rfl, hB1⟩
    go_wp2_with fail
    refine (awake24 _).mono ?_
    rintro e w2 ⟨rfl, hB2⟩
    go_wp2_with fail
    go_ret
    exact ⟨rfl, hB1.trans (hB2.mono hB1.size)⟩
  · have d1 : decide ((s.size : Int) > 300) = false := decide_eq_false (by omega)
    have d1N : ¬ (300 < s.size) := by omega
    have HT := hid (fun W => text24_any s a b (.int .i64 0) (.int .i64 0) rfl rfl W hs)
    obtain ⟨x, hx⟩ : ∃ x, x = lo24 s.size a := ⟨_, rfl⟩
    obtain ⟨y, hy⟩ : ∃ y, y = hi24 s.size a b := ⟨_, rfl⟩
    have hxI : min (max a 0) (s.size : Int) = (x : Int) := by rw [hx]; unfold lo24; omega
    have hyI : min (max b (x : Int)) (s.size : Int) = (y : Int) := by rw [hy]; unfold hi24; rw [← hx]; omega
    have hxs : (x : Int) ≤ (s.size : Int) := by omega
    have hxy : (x : Int) ≤ (y : Int) := by omega
    have hys : (y : Int) ≤ (s.size : Int) := by omega
    have hx0 : (0 : Int) ≤ (x : Int) := by omega
    rw [← hx, ← hy] at HT
    clear hx hy
    go_enter Try.func13, Try.ntmps13
    go_wp2_with fail
    refine (awake24 _).mono ?_
    rintro e w1 ⟨rfl, hB1⟩
    go_wp2_with fail
    go_region_with (go_at_call 22; refine (HT.out _).mono ?_; rintro e w6 ⟨rfl, e1⟩)
    all_goals go_simp
    all_goals go_wp2_with fail
    all_goals go_ret
    all_goals exact ⟨rfl, hB1.trans (((Below.refl _ _).drew.trans (show Below w1.heap.size w1.drew _ from e1)).mono hB1.size)⟩

end Go.Proofs.Ytegoephanphnkaa
