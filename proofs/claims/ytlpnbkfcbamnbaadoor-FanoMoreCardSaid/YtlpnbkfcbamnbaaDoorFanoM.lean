/- Plain: numbers that rise: a number's own place, next, the one ahead; between two numbers; few of right ones. -/
import Derived.Test.YtlpnbkfcbamnbaaDoorLawFanoD
set_option linter.unusedVariables false
set_option linter.unusedSimpArgs false
namespace Go.Proofs.YtlpnbkfcbamnbaaDoor
open Go.RowKit L

theorem L.clz_self_le {l : List Nat} (h : Ris l) {i : Nat} (hi : i < l.length) : clz l (l[i] : Nat) ≤ i ∧ ∀ hj : clz l (l[i] : Nat) < l.length, l[clz l (l[i] : Nat)] = l[i] := by
  have e : clz l (l[i] : Nat) = cl l l[i] := by unfold clz; rw [Int.toNat_natCast]
  rw [e]
  have h1 : cl l l[i] ≤ i := by
    have := (cl_lt h (x := l[i]) hi).2
    rcases Nat.lt_or_ge i (cl l l[i]) with h' | h'
    · have := (cl_lt h (x := l[i]) hi).2 h'; omega
    · exact h'
  refine ⟨h1, fun hj => ?_⟩
  generalize hq : cl l l[i] = q at *
  have h2 := h.le (i := q) (j := i) h1 hi
  have h3 := (cl_lt h (x := l[i]) hj)
  rw [hq] at h3
  omega
theorem L.nxt_self {l : List Nat} (h : Ris l) {i : Nat} (hi : i < l.length) : nxt l (l[i] : Nat) = some l[i] := by
  obtain ⟨h1, h2⟩ := clz_self_le h hi
  have hj : clz l (l[i] : Nat) < l.length := by omega
  unfold nxt
  rw [List.getElem?_eq_getElem hj, h2 hj]
theorem L.prv_self {l : List Nat} (h : Ris l) {i : Nat} (hi : i < l.length) : prv l (l[i] : Nat) = some l[i] := by
  have e : clz l ((l[i] : Nat) + 1) = cl l (l[i] + 1) := by unfold clz; congr 1
  unfold prv
  rw [e]
  have h1 : i < cl l (l[i] + 1) := (cl_lt h (x := l[i] + 1) hi).1 (by omega)
  have hle := cl_le l (l[i] + 1)
  generalize hq : cl l (l[i] + 1) = q at *
  have hj : q - 1 < l.length := by omega
  rw [if_neg (by omega), List.getElem?_eq_getElem hj]
  have h2 := (cl_lt h (x := l[i] + 1) hj).2 (by omega)
  have h3 := h.le (i := i) (j := q - 1) (by omega) hj
  congr 1
  omega
theorem L.hasN_self {l : List Nat} (h : Ris l) {i : Nat} (hi : i < l.length) : hasN l (l[i] : Nat) = true := by
  unfold hasN; rw [nxt_self h hi]; simp
theorem L.clz_new {l : List Nat} (h : Ris l) {i : Nat} (hi : i < l.length) (h0 : i ≠ 0) (hne : l[i] ≠ l[i - 1]'(by omega)) : clz l (l[i] : Nat) = i := by
  refine L.clz_unique h (by omega) (fun j hj => ?_) (fun _ => Int.le_refl _)
  have h1 := h.le (i := j) (j := i - 1) (by omega) (by omega)
  have h2 := h.le (i := i - 1) (j := i) (by omega) hi
  omega
theorem L.clz_first {l : List Nat} (h : Ris l) (hi : 0 < l.length) : clz l (l[0] : Nat) = 0 :=
  L.clz_unique h (by omega) (fun j hj => by omega) (fun _ => Int.le_refl _)
/-- Where the likes of the number ahead begin. -/
def L.fst (l : List Nat) (i : Nat) : Nat := if i = 0 then 0 else clz l (l.getD (i - 1) 0 : Nat)
theorem L.fst_succ {l : List Nat} {i : Nat} (hi : i < l.length) : fst l (i + 1) = clz l (l[i] : Nat) := by
  unfold fst; rw [if_neg (by omega), Nat.add_sub_cancel, List.getD_eq_getElem?_getD, List.getElem?_eq_getElem hi]; rfl
theorem L.fst_same {l : List Nat} (h : Ris l) {i : Nat} (hi : i < l.length) (he : i = 0 ∨ l[i] = l[i - 1]'(by omega)) : fst l i = clz l (l[i] : Nat) := by
  unfold fst
  split
  · rename_i h0
    subst h0
    exact (clz_first h hi).symm
  · rename_i h0
    have e := he.resolve_left h0
    rw [List.getD_eq_getElem?_getD, List.getElem?_eq_getElem (by omega : i - 1 < l.length), e]; rfl
theorem L.fst_le {l : List Nat} (i : Nat) : fst l i ≤ l.length := by
  unfold fst
  split
  · omega
  · unfold clz; exact cl_le _ _

theorem L.clz_mono (l : List Nat) {x y : Int} (h : x ≤ y) : clz l x ≤ clz l y := by unfold clz; exact cl_mono l (by omega)
theorem L.clz_between (l : List Nat) {x y : Int} (h : x ≤ y) : clz l y = clz l x + l.countP (fun z : Nat => decide (x ≤ (z : Int)) && decide ((z : Int) < y)) := by
  rw [clz_count, clz_count]
  induction l with
  | nil => rfl
  | cons z l ih =>
    rw [List.countP_cons, List.countP_cons, List.countP_cons, ih]
    by_cases h1 : (z : Int) < x
    · simp only [decide_eq_true h1, decide_eq_true (show (z : Int) < y by omega), decide_eq_false (show ¬ x ≤ (z : Int) by omega), Bool.false_and]; simp; omega
    · simp only [decide_eq_false h1, decide_eq_true (show x ≤ (z : Int) by omega), Bool.true_and]
      by_cases h2 : (z : Int) < y
      · simp only [decide_eq_true h2]; simp; omega
      · simp only [decide_eq_false h2]; simp
theorem L.nxt_ge {l : List Nat} (h : Ris l) {x : Int} {y : Nat} (hy : nxt l x = some y) : x ≤ (y : Int) := by
  unfold nxt at hy
  obtain ⟨hj, rfl⟩ := List.getElem?_eq_some_iff.1 hy
  have := cl_lt h (x := x.toNat) hj
  unfold clz at this ⊢
  omega
theorem L.prv_le {l : List Nat} (h : Ris l) {x : Int} {y : Nat} (hy : prv l x = some y) : (y : Int) ≤ x := by
  unfold prv at hy
  split at hy
  · cases hy
  · rename_i h0
    obtain ⟨hj, rfl⟩ := List.getElem?_eq_some_iff.1 hy
    have := cl_lt h (x := (x + 1).toNat) hj
    unfold clz at this h0 ⊢
    omega
theorem L.nxt_prv {l : List Nat} {x : Int} (h0 : l.length ≠ 0) (h1 : nxt l x = none) (h2 : prv l x = none) : False := by
  unfold nxt at h1
  unfold prv at h2
  rw [List.getElem?_eq_none_iff] at h1
  have h3 := L.clz_mono l (show x ≤ x + 1 by omega)
  have h4 := clz_le l (x + 1)
  split at h2
  · omega
  · rw [List.getElem?_eq_none_iff] at h2; omega

theorem L.wd_few (n B : Nat) (h0 : 0 < n) (hB : B < 18446744073709551616) : B / 2 ^ wd n B < 2 * n := by
  unfold wd
  split
  · rename_i h
    rw [Nat.pow_zero, Nat.div_one]; omega
  · rename_i h
    have hq : 2 ≤ B / n := (Nat.le_div_iff_mul_le h0).2 (by omega)
    have hs := need_spec (B / n) (Nat.lt_of_le_of_lt (Nat.div_le_self _ _) hB)
    have hn : need (B / n) ≠ 0 := fun e => by rw [e] at hs; have := hs.1; simp at this; omega
    obtain ⟨k, hk⟩ : ∃ k, need (B / n) = k + 1 := ⟨need (B / n) - 1, by omega⟩
    have h1 := hs.1
    rw [hk, Nat.add_sub_cancel] at *
    rw [Nat.div_lt_iff_lt_mul (Nat.two_pow_pos _)]
    have h2 : B < n * 2 ^ (k + 1) := by
      have := (Nat.div_lt_iff_lt_mul h0).1 h1
      rw [Nat.mul_comm] at this; exact this
    rw [Nat.pow_succ] at h2
    calc B < n * (2 ^ k * 2) := h2
      _ = 2 * n * 2 ^ k := by rw [Nat.mul_comm (2 ^ k) 2, ← Nat.mul_assoc, Nat.mul_comm n 2]
/-- Right numbers, some, not too many: not too many bits. -/
theorem L.RightN.few {l : List Nat} {B : Nat} (hr : RightN l B) (h0 : 0 < l.length) (hn : l.length ≤ 10000) : Few l B := by
  refine ⟨hn, ?_⟩
  have h1 := wd_few l.length B h0 (by have := hr.1; omega)
  have h2 := Nat.div_le_div_right (c := 2 ^ wd l.length B) (show B - 1 ≤ B by omega)
  omega
theorem L.Ris.snoc {l : List Nat} (h : Ris l) {m : Nat} (hm : ∀ y ∈ l, y ≤ m) : Ris (l ++ [m]) := by
  unfold Ris at *
  rw [List.pairwise_append]
  exact ⟨h, List.pairwise_singleton _ _, fun a ha b hb => by rw [List.mem_singleton] at hb; subst hb; exact hm a ha⟩
theorem L.RightN.snoc {l : List Nat} {B m : Nat} (hr : RightN l B) (hm : ∀ y ∈ l, y ≤ m) (hB : m < B) : RightN (l ++ [m]) B :=
  ⟨hr.1, hr.2.1.snoc hm, fun x hx => by
    rcases List.mem_append.1 hx with h | h
    · exact hr.2.2 x h
    · rw [List.mem_singleton] at h; omega⟩
theorem L.clz_snoc {l : List Nat} {m : Nat} {x : Int} (h : x ≤ m) : clz (l ++ [m]) x = clz l x := by
  rw [clz_count, clz_count, List.countP_append, List.countP_singleton, decide_eq_false (by omega)]; rfl
theorem L.Ris.last {l : List Nat} (h : Ris l) (h0 : 0 < l.length) : ∀ y ∈ l, y ≤ l[l.length - 1] := by
  intro y hy
  obtain ⟨j, hj, rfl⟩ := List.mem_iff_getElem.1 hy
  exact h.le (by omega) (by omega)
theorem L.hasN_last {l : List Nat} {m : Nat} (h : Ris (l ++ [m])) : hasN (l ++ [m]) (m : Nat) = true := by
  have hi : l.length < (l ++ [m]).length := by simp
  have := hasN_self h hi
  rwa [show (l ++ [m])[l.length] = m by simp] at this

end Go.Proofs.YtlpnbkfcbamnbaaDoor
