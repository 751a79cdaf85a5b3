/- Walks: small functions of the laws of chapter 08: number, place. -/
import Derived.Test.YtlpnbkfcbamnbaaDoorNestG
set_option linter.unusedVariables false
set_option linter.unusedSimpArgs false
set_option maxRecDepth 100000
namespace Go.Proofs.YtlpnbkfcbamnbaaDoor
open Go.RowKit L

/-- The cells of some ints. -/
def cells8 (l : List Int) : List Value := l.map (Value.int .i64)

set_option maxHeartbeats 400000 in
theorem number8_none (A : Option Addr) (c : Nat) (n : Nat) (i : Int) (w : World) (h : i < 0 ∨ (n : Int) ≤ i) :
    Calls Tryd.prog 99 #[.slice A n c, .int .i64 i] w fun e w' => e = .returned (.int .i64 (-1)) ∧ w = w' := by
  rcases h with h | h
  · go_enter Tryd.func99, Tryd.ntmps99
    go_wp2_with fail
    go_ret
    exact ⟨by first | rfl | simp, rfl⟩
  · have h2 : ¬ (i < 0) := by omega
    have h3 : ¬ (i < (n : Int)) := by omega
    go_enter Tryd.func99, Tryd.ntmps99
    go_wp2_with fail
    go_ret
    exact ⟨by first | rfl | simp, rfl⟩
set_option maxHeartbeats 400000 in
theorem number8_at (A : Option Addr) (c : Nat) (l : List Int) (i : Nat) (w : World) (hl : Lst w A (cells8 l)) (h : i < l.length) :
    Calls Tryd.prog 99 #[.slice A l.length c, .int .i64 (i : Nat)] w fun e w' => e = .returned (.int .i64 l[i]) ∧ w = w' := by
  obtain ⟨ab, ao, rfl, had, hcl⟩ := hl.lit (by rw [cells8, List.length_map]; omega)
  have q0 : (cells8 l)[i]? = some (.int .i64 l[i]) := by rw [cells8, List.getElem?_map, List.getElem?_eq_getElem h]; rfl
  have wc0 := hcl _ _ q0
  have h2 : ¬ ((i : Int) < 0) := by omega
  have h3 : (i : Int) < (l.length : Int) := by omega
  have h4 : (0 : Int) ≤ (i : Int) := by omega
  clear q0 hcl hl
  generalize l[i] = v at *
  go_enter Tryd.func99, Tryd.ntmps99
  go_wp2_with fail
  go_ret
  exact ⟨rfl, rfl⟩
set_option maxHeartbeats 400000 in
theorem place8_at (A : Option Addr) (c : Nat) (l : List Int) (n : Int) (i : Nat) (w : World) (hl : Lst w A (cells8 l)) (h : i < l.length) (hn : l[i] = n) (hq : ∀ q (hq : q < l.length), q < i → l[q] ≠ n) (hsm : l.length ≤ 4294967296) :
    Calls Tryd.prog 97 #[.slice A l.length c, .int .i64 n] w fun e w' => e = .returned (.int .i64 (i : Nat)) ∧ w = w' := by
  obtain ⟨ab, ao, rfl, had, hcl⟩ := hl.lit (by rw [cells8, List.length_map]; omega)
  have HC := hid (show ∀ k (hk : k < l.length), w.cell? ⟨ab, ao + k, none⟩ = some (.int .i64 l[k]) from fun k hk => hcl _ _ (by rw [cells8, List.getElem?_map, List.getElem?_eq_getElem hk]; rfl))
  have HQ := hid hq
  have HN := hid hn
  clear hl hcl hq hn
  go_enter Tryd.func97, Tryd.ntmps97
  go_wp2_with fail
  go_loopw [5] (fun kv wr => ∃ k : Nat, k ≤ i ∧ kv = .int .i64 (k : Nat) ∧ wr = w) (fun kv _ => l.length - (intOf kv).toNat)
  case atStart => exact ⟨0, Nat.zero_le _, rfl, rfl⟩
  case round =>
    obtain ⟨k, hk, rfl, rfl⟩ := hrel
    have hkl : k < l.length := by omega
    have hkI : (k : Int) < (l.length : Int) := by omega
    have hk0 : (0 : Int) ≤ (k : Int) := by omega
    have wc := HC.out k hkl
    rcases Nat.eq_or_lt_of_le hk with e | e
    · subst e
      rw [HN.out] at wc
      go_wp2_with fail
      go_ret
      exact ⟨rfl, rfl⟩
    · have hne := HQ.out k hkl e
      generalize l[k] = v at *
      have hb : (v == n) = false := by rw [beq_eq_false_iff_ne]; exact hne
      go_wp2_with fail
      exact ⟨⟨k + 1, by omega, by go_num, by first | rfl | trivial⟩, by simp [intOf]; omega⟩
end Go.Proofs.YtlpnbkfcbamnbaaDoor
