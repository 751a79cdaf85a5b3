/- Walk: the law RankCounts returns true. -/
import Derived.Test.YtdhokioiloggeaaLawRankD
set_option linter.unusedVariables false
set_option linter.unusedSimpArgs false
set_option maxRecDepth 100000
namespace Go.Proofs.Ytdhokioiloggeaa
open Go.RowKit L

/-- The cells of some ints. -/
def intCells (l : List Int) : List Value := l.map (Value.int .i64)

set_option maxHeartbeats 2000000 in
theorem lawRankCounts_long (A : Option Addr) (n c : Nat) (B : Option Addr) (m d : Nat) (w : World) (hn : 60 < n ∨ 20 < m) :
    Calls Try.prog 12 #[.slice A n c, .slice B m d] w fun e w' => e = .returned (.bool true) ∧ Below w.heap.size w w' := by
  rcases Nat.lt_or_ge 60 n with h | h
  · have h1 : (60 : Int) < (n : Int) := by omega
    go_enter Try.func12, Try.ntmps12
    go_wp2_with fail
    refine (awake3 _).mono ?_
    rintro e w1 ⟨rfl, hB1⟩
    go_wp2_with fail
    refine (awake3 _).mono ?_
    rintro e w2 ⟨rfl, hB2⟩
    go_wp2
    go_ret
    exact ⟨rfl, hB1.trans (hB2.mono hB1.size)⟩
  · have h1 : (n : Int) ≤ 60 := by omega
    have h2 : (20 : Int) < (m : Int) := by omega
    go_enter Try.func12, Try.ntmps12
    go_wp2_with fail
    refine (awake3 _).mono ?_
    rintro e w1 ⟨rfl, hB1⟩
    go_wp2_with fail
    refine (awake3 _).mono ?_
    rintro e w2 ⟨rfl, hB2⟩
    go_wp2
    go_ret
    exact ⟨rfl, hB1.trans (hB2.mono hB1.size)⟩

set_option maxHeartbeats 8000000 in
theorem lawRankCounts_true (A : Option Addr) (c : Nat) (l : List (Nat × Int)) (B : Option Addr) (d : Nat) (ps : List Int) (w : World) (hl : Lst w A (opCells l)) (hx : ∀ o ∈ l, o.1 < 18446744073709551616) (hps : Lst w B (intCells ps)) (hn : l.length ≤ 60) (hm : ps.length ≤ 20) :
    Calls Try.prog 12 #[.slice A l.length c, .slice B ps.length d] w fun e w' => e = .returned (.bool true) ∧ Below w.heap.size w w' := by
  have hbl := allPuts_length l
  go_enter Try.func12, Try.ntmps12
  go_wp2_with fail
  refine (awake3 _).mono ?_
  rintro e w1 ⟨rfl, hB1⟩
  have hz1 := hB1.size
  go_wp2_with fail
  refine (all_any A c l _ (hl.below hB1) hx hn).mono ?_
  rintro e w2 ⟨A2, c2, rfl, hl2, hA2, hB2, hc2⟩
  have hz2 := hB2.size
  generalize allPuts l = bs at *
  have hbs : bs.length ≤ 3840 := by omega
  go_wp2_with fail
  refine (made_any A2 c2 bs _ hl2 (by omega)).mono ?_
  rintro e w3 ⟨g3, A3, c3, rfl, hr3, _, _, hB3⟩
  have hz3 := hB3.size
  have hl3 := hl2.below hB3
  go_wp2_with fail
  refine (rankNew_any g3 A3 c3 bs _ hr3).mono ?_
  rintro e w4 ⟨Ad, cd, rfl, hd, hB4⟩
  have hz4 := hB4.size
  have hl4 := hl3.below hB4
  have hBa : Below w.heap.size w w4 := hB1.trans ((hB2.mono hz1).trans ((hB3.mono (by omega)).trans (hB4.mono (by omega))))
  have hza := hBa.size
  have hps4 := hps.below hBa
  clear hB1 hB2 hB3 hB4 hl2 hl3 hr3 hl hps
  go_wp2_with fail
  go_loopw [7] (fun i wr => ∃ k : Nat, k ≤ ps.length ∧ i = .int .i64 k ∧ Below w4.heap.size w4 wr) (fun i _ => ps.length - (intOf i).toNat)
  case atStart => exact ⟨0, by omega, rfl, Below.refl _ _⟩
  case round =>
    obtain ⟨k, hk, rfl, hB⟩ := hrel
    have hsz := hB.size
    have hdr := hd.below hB
    have hlr := hl4.below hB
    rcases Nat.lt_or_ge k ps.length with hlt | hge
    · have hki : (k : Int) < (ps.length : Int) := by omega
      have hk0 : (0 : Int) ≤ (k : Int) := by omega
      obtain ⟨ab, ao, rfl, had, hcl⟩ := hps4.lit (by rw [intCells, List.length_map]; omega)
      have q0 : (intCells ps)[k]? = some (.int .i64 ps[k]) := by rw [intCells, List.getElem?_map, List.getElem?_eq_getElem hlt]; rfl
      have wc0 := (hB.cell (p := ⟨ab, ao + k, none⟩) had).trans (hcl _ _ q0)
      clear q0 hcl
      generalize ps[k] = p at *
      have C1 : ∀ W, Below w4.heap.size w4 W → Calls Try.prog 41 #[.pointer (some ⟨w3.heap.size, 0, none⟩), .int .i64 p] W fun e w' => e = .returned (.int .i64 (cnt bs (held bs.length p) : Nat)) ∧ Below w4.heap.size w4 w' := fun W hW => by
        refine (rankOne_any _ _ _ _ _ _ _ p _ (hd.below hW)).mono ?_
        rintro e w' ⟨rfl, hB'⟩
        exact ⟨rfl, hW.trans (hB'.mono hW.size)⟩
      have C2 : ∀ W, Below w4.heap.size w4 W → Calls Try.prog 42 #[.pointer (some ⟨w3.heap.size, 0, none⟩), .int .i64 p] W fun e w' => e = .returned (.int .i64 (held bs.length p - cnt bs (held bs.length p) : Nat)) ∧ Below w4.heap.size w4 w' := fun W hW => by
        refine (rankZero_any _ _ _ _ _ _ _ p _ (hd.below hW)).mono ?_
        rintro e w' ⟨rfl, hB'⟩
        exact ⟨rfl, hW.trans (hB'.mono hW.size)⟩
      have C3 : ∀ W, Below w4.heap.size w4 W → Calls Try.prog 44 #[.slice A2 bs.length c2, .int .i64 p] W fun e w' => e = .returned (.int .i64 (cnt bs (held bs.length p) : Nat)) ∧ W = w' := fun W hW => refRankOne_any A2 c2 bs p _ (hl4.below hW) (by omega)
      have C4 : ∀ W, Below w4.heap.size w4 W → Calls Try.prog 45 #[.slice A2 bs.length c2, .int .i64 p] W fun e w' => e = .returned (.int .i64 (held bs.length p - cnt bs (held bs.length p) : Nat)) ∧ W = w' := fun W hW => refRankZero_any A2 c2 bs p _ (hl4.below hW) (by omega)
      have H1 := hid C1
      have H2 := hid C2
      have H3 := hid C3
      have H4 := hid C4
      have KC := hid (show ∀ W, Below w4.heap.size w4 W → W.cell? ⟨ab, ao + k, none⟩ = some (.int .i64 p) from fun W hW => (hW.cell (p := ⟨ab, ao + k, none⟩) had).trans ((hB.cell (p := ⟨ab, ao + k, none⟩) had).symm.trans wc0))
      clear C1 C2 C3 C4
      generalize held bs.length p = h at *
      generalize h - cnt bs h = zz at *
      generalize cnt bs h = oo at *
      go_wp2_with fail
      go_region_held3 (fun w' => Below w4.heap.size w4 w' ∧ w'.cell? ⟨ab, ao + k, none⟩ = some (.int .i64 p)) (first | exact ⟨hB.drew, wc0⟩ | exact ⟨e1, KC.out _ e1⟩ | assumption)
        (first
         | (go_at_call 41; refine (H1.out _ (by first | assumption | exact And.left (by assumption))).mono ?_; rintro e w5 ⟨rfl, e1⟩)
         | (go_at_call 42; refine (H2.out _ (by first | assumption | exact And.left (by assumption))).mono ?_; rintro e w5 ⟨rfl, e1⟩)
         | (go_at_call 44; refine (H3.out _ (by first | assumption | exact And.left (by assumption))).mono ?_; rintro e w5 ⟨rfl, rfl⟩)
         | (go_at_call 45; refine (H4.out _ (by first | assumption | exact And.left (by assumption))).mono ?_; rintro e w5 ⟨rfl, rfl⟩))
      all_goals go_wp2
      all_goals exact ⟨⟨k + 1, by omega, by go_num, by first | exact e1 | assumption⟩, by simp [intOf]; omega⟩
    · obtain rfl : k = ps.length := by omega
      have hki : ¬ ((ps.length : Int) < (ps.length : Int)) := by omega
      go_wp2_with fail
      refine (rankSize_any _ _ _ _ _ _ _ _ hdr).mono ?_
      rintro e w' ⟨rfl, rfl⟩
      go_wp2_with fail
      refine (rankSize_any _ _ _ _ _ _ _ _ hdr).mono ?_
      rintro e w' ⟨rfl, rfl⟩
      have hsz4 : (128 : Int) * ((bs.length : Int) / 512 + 1) ≤ (bs.length : Int) / 4 + 256 := by omega
      have hsz0 : (0 : Int) ≤ (128 : Int) * ((bs.length : Int) / 512 + 1) := by omega
      go_wp2_with fail
      refine (rankRow_any _ _ _ _ _ _ _ _ hdr).mono ?_
      rintro e w' ⟨rfl, rfl⟩
      have hrr := hdr.row
      go_wp2_with fail
      refine (is_true _ _ _ _ _ _ _ hrr hlr).mono ?_
      rintro e w9 ⟨rfl, m, rfl⟩
      go_wp2
      go_ret
      exact ⟨rfl, below_drewN (hBa.trans (hB.mono hza)) _⟩

theorem lawRankCounts_any (A : Option Addr) (c : Nat) (l : List (Nat × Int)) (B : Option Addr) (d : Nat) (ps : List Int) (w : World) (hl : Lst w A (opCells l)) (hx : ∀ o ∈ l, o.1 < 18446744073709551616) (hps : Lst w B (intCells ps)) :
    Calls Try.prog 12 #[.slice A l.length c, .slice B ps.length d] w fun e w' => e = .returned (.bool true) ∧ Below w.heap.size w w' := by
  by_cases h : 60 < l.length ∨ 20 < ps.length
  · exact lawRankCounts_long A l.length c B ps.length d w h
  · exact lawRankCounts_true A c l B d ps w hl hx hps (by omega) (by omega)

end Go.Proofs.Ytdhokioiloggeaa
