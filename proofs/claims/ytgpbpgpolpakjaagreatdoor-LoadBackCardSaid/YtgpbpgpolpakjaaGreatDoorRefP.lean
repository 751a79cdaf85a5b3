/- The texts RefA, RefB, RefC, LawUtf, RefF, RefD, in one. -/
import Derived.Test.YtgpbpgpolpakjaaGreatDoorScanQ
import Derived.Test.YtgpbpgpolpakjaaGreatDoorAutoP
import Derived.Laws.BytesArg
/- Walks: reference 12: a bad place, blanks, a word, digits of units, an escape, digits. -/


set_option linter.unusedVariables false
set_option linter.unusedSimpArgs false
set_option maxRecDepth 100000
namespace Go.Proofs.YtgpbpgpolpakjaaGreatDoor
open Go.RowKit Go.Shelf L

end Go.Proofs.YtgpbpgpolpakjaaGreatDoor

/- Walks: reference 12: a word, an escape. -/

set_option linter.unusedVariables false
set_option linter.unusedSimpArgs false
set_option maxRecDepth 100000
namespace Go.Proofs.YtgpbpgpolpakjaaGreatDoor
open Go.RowKit Go.Shelf L

end Go.Proofs.YtgpbpgpolpakjaaGreatDoor

/- Walks: reference 12: an escape. -/

set_option linter.unusedVariables false
set_option linter.unusedSimpArgs false
set_option maxRecDepth 100000
namespace Go.Proofs.YtgpbpgpolpakjaaGreatDoor
open Go.RowKit Go.Shelf L

end Go.Proofs.YtgpbpgpolpakjaaGreatDoor

/- Plain laws of scalars' bytes: which bytes a scalar's are, and the states of UTF-8. No program in sight. -/

set_option linter.unusedVariables false
set_option linter.unusedSimpArgs false
namespace Go.Proofs.YtgpbpgpolpakjaaGreatDoor

/-- A scalar's bytes. -/
def L.putB (c : Nat) : List Nat :=
  if 1114111 < c ∨ (55296 ≤ c ∧ c ≤ 57343) then [] else if c < 128 then [c] else if c < 2048 then [192 + c / 64, 128 + c % 64]
  else if c < 65536 then [224 + c / 4096, 128 + c / 64 % 64, 128 + c % 64] else [240 + c / 262144, 128 + c / 4096 % 64, 128 + c / 64 % 64, 128 + c % 64]

/-- A scalar's number, of so many bytes behind the first. -/
def L.cv (l : List Nat) (c0 : Nat) : Nat → Nat
  | 0 => c0
  | j + 1 => cv l c0 j * 64 + at_ l (j + 1) % 64
def L.kind (b : Nat) : Nat := if b < 128 then 1 else if b < 192 then 0 else if b < 224 then 2 else if b < 240 then 3 else if b < 248 then 4 else 0
def L.base (b : Nat) : Nat := if b < 224 then 192 else if b < 240 then 224 else 240
/-- Of how many bytes the first scalar is; 0: of none. -/
def L.scN (l : List Nat) : Nat :=
  if l = [] then 0 else if kind (at_ l 0) = 0 ∨ l.length < kind (at_ l 0) then 0 else if kind (at_ l 0) = 1 then 1
  else if putB (cv l (at_ l 0 - base (at_ l 0)) (kind (at_ l 0) - 1)) = l.take (kind (at_ l 0)) then kind (at_ l 0) else 0
theorem L.scN_none {l : List Nat} (h : kind (at_ l 0) = 0) : scN l = 0 := by
  unfold scN
  split
  · rfl
  · rw [if_pos (Or.inl h)]
theorem L.scN_short {l : List Nat} (h : l.length < kind (at_ l 0)) : scN l = 0 := by
  unfold scN
  split
  · rfl
  · rw [if_pos (Or.inr h)]
theorem L.scN_one {l : List Nat} (h : at_ l 0 < 128) (hl : 0 < l.length) : scN l = 1 := by
  have hk : kind (at_ l 0) = 1 := by unfold kind; rw [if_pos h]
  unfold scN
  rw [if_neg (by intro e; rw [e] at hl; simp at hl), hk, if_neg (by omega), if_pos rfl]
theorem L.scN_yes {l : List Nat} {n c : Nat} (hk : kind (at_ l 0) = n) (h2 : 2 ≤ n) (hl : n ≤ l.length) (hc : cv l (at_ l 0 - base (at_ l 0)) (n - 1) = c) (h : putB c = l.take n) : scN l = n := by
  unfold scN
  rw [if_neg (by intro e; rw [e] at hl; simp at hl; omega), hk, if_neg (by omega), if_neg (by omega), hc, if_pos h]
theorem L.scN_no {l : List Nat} {n c : Nat} (hk : kind (at_ l 0) = n) (h2 : 2 ≤ n) (hl : n ≤ l.length) (hc : cv l (at_ l 0 - base (at_ l 0)) (n - 1) = c) (h : ¬ putB c = l.take n) : scN l = 0 := by
  unfold scN
  rw [if_neg (by intro e; rw [e] at hl; simp at hl; omega), hk, if_neg (by omega), if_neg (by omega), hc, if_neg h]

namespace L
theorem put2 (b0 b1 : Nat) (h : 192 ≤ b0) (h2 : b0 < 224) : putB ((b0 - 192) * 64 + b1 % 64) = [b0, b1] ↔ (194 ≤ b0 ∧ 128 ≤ b1 ∧ b1 ≤ 191) := by
  unfold putB
  rw [if_neg (by omega)]
  split
  · constructor
    · intro e; exact absurd (congrArg List.length e) (by simp)
    · intro e; omega
  · rw [if_pos (by omega)]
    simp only [List.cons.injEq, and_true]
    omega
theorem put3 (b0 b1 b2 : Nat) (h : 224 ≤ b0) (h2 : b0 < 240) : putB (((b0 - 224) * 64 + b1 % 64) * 64 + b2 % 64) = [b0, b1, b2] ↔ (128 ≤ b1 ∧ b1 ≤ 191 ∧ 128 ≤ b2 ∧ b2 ≤ 191 ∧ (b0 = 224 → 160 ≤ b1) ∧ (b0 = 237 → b1 ≤ 159)) := by
  unfold putB
  split
  · constructor
    · intro e; exact absurd (congrArg List.length e) (by simp)
    · intro e; omega
  · split
    · constructor
      · intro e; exact absurd (congrArg List.length e) (by simp)
      · intro e; omega
    · split
      · constructor
        · intro e; exact absurd (congrArg List.length e) (by simp)
        · intro e; omega
      · rw [if_pos (by omega)]
        simp only [List.cons.injEq, and_true]
        omega
theorem put4 (b0 b1 b2 b3 : Nat) (h : 240 ≤ b0) (h2 : b0 < 248) : putB ((((b0 - 240) * 64 + b1 % 64) * 64 + b2 % 64) * 64 + b3 % 64) = [b0, b1, b2, b3] ↔ (b0 ≤ 244 ∧ 128 ≤ b1 ∧ b1 ≤ 191 ∧ 128 ≤ b2 ∧ b2 ≤ 191 ∧ 128 ≤ b3 ∧ b3 ≤ 191 ∧ (b0 = 240 → 144 ≤ b1) ∧ (b0 = 244 → b1 ≤ 143)) := by
  unfold putB
  split
  · constructor
    · intro e; exact absurd (congrArg List.length e) (by simp)
    · intro e; omega
  · split
    · constructor
      · intro e; exact absurd (congrArg List.length e) (by simp)
      · intro e; omega
    · split
      · constructor
        · intro e; exact absurd (congrArg List.length e) (by simp)
        · intro e; omega
      · split
        · constructor
          · intro e; exact absurd (congrArg List.length e) (by simp)
          · intro e; omega
        · simp only [List.cons.injEq, and_true]
          omega

/-- The state behind so many bytes. -/
def us (l : List Nat) : Nat → Nat
  | 0 => 0
  | j + 1 => ustep (us l j) (at_ l j)
theorem us_one (l : List Nat) : us l 1 = ufirst (at_ l 0) := rfl
theorem us_two (l : List Nat) : us l 2 = ustep (ufirst (at_ l 0)) (at_ l 1) := rfl
theorem us_three (l : List Nat) : us l 3 = ustep (ustep (ufirst (at_ l 0)) (at_ l 1)) (at_ l 2) := rfl
theorem take_two {l : List Nat} (h : 2 ≤ l.length) : l.take 2 = [at_ l 0, at_ l 1] := by
  match l, h with
  | a :: b :: r, _ => rfl
theorem take_three {l : List Nat} (h : 3 ≤ l.length) : l.take 3 = [at_ l 0, at_ l 1, at_ l 2] := by
  match l, h with
  | a :: b :: c :: r, _ => rfl
theorem take_four {l : List Nat} (h : 4 ≤ l.length) : l.take 4 = [at_ l 0, at_ l 1, at_ l 2, at_ l 3] := by
  match l, h with
  | a :: b :: c :: d :: r, _ => rfl

/-- How far bytes are alive where no scalar begins; and where one does. -/
def Dies (l : List Nat) : Prop := ∃ m, m ≤ 3 ∧ m ≤ l.length ∧ (∀ j, 0 < j → j ≤ m → us l j ≠ 0 ∧ us l j ≤ 7) ∧ (m = l.length ∨ us l (m + 1) = 8)
def Lives (l : List Nat) (n : Nat) : Prop := 0 < n ∧ n ≤ 4 ∧ n ≤ l.length ∧ us l n = 0 ∧ ∀ j, 0 < j → j < n → us l j ≠ 0 ∧ us l j ≤ 7

theorem ustep_1 (b : Nat) : ustep 1 b = if b < 128 ∨ 191 < b then 8 else 0 := rfl
theorem ustep_2 (b : Nat) : ustep 2 b = if b < 128 ∨ 191 < b then 8 else 1 := rfl
theorem ustep_3 (b : Nat) : ustep 3 b = if b < 128 ∨ 191 < b then 8 else 2 := rfl
theorem ustep_4 (b : Nat) : ustep 4 b = if b < 160 ∨ 191 < b then 8 else 1 := rfl
theorem ustep_5 (b : Nat) : ustep 5 b = if b < 128 ∨ 159 < b then 8 else 1 := rfl
theorem ustep_6 (b : Nat) : ustep 6 b = if b < 144 ∨ 191 < b then 8 else 2 := rfl
theorem ustep_7 (b : Nat) : ustep 7 b = if b < 128 ∨ 143 < b then 8 else 2 := rfl

theorem dies_zero {l : List Nat} (h : us l 1 = 8) : Dies l := ⟨0, by omega, by omega, fun j h1 h2 => by omega, Or.inr h⟩
theorem dies_one {l : List Nat} (hl : 1 ≤ l.length) (h1 : us l 1 ≠ 0 ∧ us l 1 ≤ 7) (h : 1 = l.length ∨ us l 2 = 8) : Dies l := by
  refine ⟨1, by omega, hl, fun j h2 h3 => ?_, h⟩
  obtain rfl : j = 1 := by omega
  exact h1
theorem dies_two {l : List Nat} (hl : 2 ≤ l.length) (h1 : us l 1 ≠ 0 ∧ us l 1 ≤ 7) (h2 : us l 2 ≠ 0 ∧ us l 2 ≤ 7) (h : 2 = l.length ∨ us l 3 = 8) : Dies l := ⟨2, by omega, hl, fun j h3 h4 => by
  have : j = 1 ∨ j = 2 := by omega
  rcases this with rfl | rfl
  · exact h1
  · exact h2, h⟩
theorem dies_three {l : List Nat} (hl : 3 ≤ l.length) (h1 : us l 1 ≠ 0 ∧ us l 1 ≤ 7) (h2 : us l 2 ≠ 0 ∧ us l 2 ≤ 7) (h3 : us l 3 ≠ 0 ∧ us l 3 ≤ 7) (h : 3 = l.length ∨ us l 4 = 8) : Dies l := ⟨3, by omega, hl, fun j h4 h5 => by
  have : j = 1 ∨ j = 2 ∨ j = 3 := by omega
  rcases this with rfl | rfl | rfl
  · exact h1
  · exact h2
  · exact h3, h⟩

theorem first_2 {b : Nat} (h : 192 ≤ b) (h2 : b < 224) : ufirst b = if b < 194 then 8 else 1 := by unfold ufirst; (repeat' split) <;> omega
theorem first_3 {b : Nat} (h : 224 ≤ b) (h2 : b < 240) : ufirst b = if b = 224 then 4 else if b = 237 then 5 else 2 := by unfold ufirst; (repeat' split) <;> omega
theorem first_4 {b : Nat} (h : 240 ≤ b) (h2 : b < 248) : ufirst b = if b = 240 then 6 else if b ≤ 243 then 3 else if b = 244 then 7 else 8 := by unfold ufirst; (repeat' split) <;> omega
theorem first_0 {b : Nat} (h : 128 ≤ b ∧ b < 192 ∨ 248 ≤ b) : ufirst b = 8 := by unfold ufirst; (repeat' split) <;> omega

theorem scN_two {l : List Nat} (hl : 0 < l.length) (h : 192 ≤ at_ l 0) (h2 : at_ l 0 < 224) : (scN l = 0 ∧ Dies l) ∨ Lives l (scN l) := by
  have hk : kind (at_ l 0) = 2 := by unfold kind; rw [if_neg (by omega), if_neg (by omega), if_pos h2]
  have hb : base (at_ l 0) = 192 := by unfold base; rw [if_pos h2]
  have hf := first_2 h h2
  have u1 := us_one l
  have u2 := us_two l
  rcases Nat.lt_or_ge l.length 2 with h3 | h3
  · refine Or.inl ⟨scN_short (by rw [hk]; exact h3), ?_⟩
    by_cases h4 : at_ l 0 < 194
    · exact dies_zero (by rw [u1, hf, if_pos h4])
    · exact dies_one hl (by rw [u1, hf, if_neg h4]; omega) (Or.inl (by omega))
  · have hc : cv l (at_ l 0 - base (at_ l 0)) (2 - 1) = (at_ l 0 - 192) * 64 + at_ l 1 % 64 := by rw [hb]; rfl
    have hp := put2 (at_ l 0) (at_ l 1) h h2
    rw [← take_two h3] at hp
    by_cases hg : 194 ≤ at_ l 0 ∧ 128 ≤ at_ l 1 ∧ at_ l 1 ≤ 191
    · have hn := scN_yes hk (Nat.le_refl _) h3 hc (hp.2 hg)
      rw [hn]
      rw [hf, if_neg (by omega)] at u1 u2
      rw [ustep_1, if_neg (by omega)] at u2
      refine Or.inr ⟨by omega, by omega, h3, u2, fun j h5 h6 => ?_⟩
      obtain rfl : j = 1 := by omega
      rw [u1]; omega
    · have hn := scN_no hk (Nat.le_refl _) h3 hc (fun e => hg (hp.1 e))
      refine Or.inl ⟨hn, ?_⟩
      by_cases h4 : at_ l 0 < 194
      · exact dies_zero (by rw [u1, hf, if_pos h4])
      · rw [hf, if_neg h4] at u1 u2
        rw [ustep_1, if_pos (by omega)] at u2
        exact dies_one hl (by rw [u1]; omega) (Or.inr u2)

theorem scN_three {l : List Nat} (hl : 0 < l.length) (h : 224 ≤ at_ l 0) (h2 : at_ l 0 < 240) : (scN l = 0 ∧ Dies l) ∨ Lives l (scN l) := by
  have hk : kind (at_ l 0) = 3 := by unfold kind; rw [if_neg (by omega), if_neg (by omega), if_neg (by omega), if_pos h2]
  have hb : base (at_ l 0) = 224 := by unfold base; rw [if_neg (by omega), if_pos h2]
  have hf := first_3 h h2
  have u1 := us_one l
  have u2 := us_two l
  have u3 := us_three l
  rw [hf] at u1 u2 u3
  have hv1 : us l 1 ≠ 0 ∧ us l 1 ≤ 7 := by rw [u1]; split <;> (try split) <;> omega
  -- the second byte
  have hs2 : us l 2 = if 128 ≤ at_ l 1 ∧ at_ l 1 ≤ 191 ∧ (at_ l 0 = 224 → 160 ≤ at_ l 1) ∧ (at_ l 0 = 237 → at_ l 1 ≤ 159) then 1 else 8 := by
    rw [u2]
    by_cases e1 : at_ l 0 = 224
    · rw [if_pos e1, ustep_4]; (repeat' split) <;> omega
    · rw [if_neg e1]
      by_cases e2 : at_ l 0 = 237
      · rw [if_pos e2, ustep_5]; (repeat' split) <;> omega
      · rw [if_neg e2, ustep_2]; (repeat' split) <;> omega
  have hs3 : us l 3 = ustep (us l 2) (at_ l 2) := rfl
  by_cases hg : 128 ≤ at_ l 1 ∧ at_ l 1 ≤ 191 ∧ (at_ l 0 = 224 → 160 ≤ at_ l 1) ∧ (at_ l 0 = 237 → at_ l 1 ≤ 159)
  · rw [if_pos hg] at hs2
    rw [hs2, ustep_1] at hs3
    have hv2 : us l 2 ≠ 0 ∧ us l 2 ≤ 7 := by rw [hs2]; omega
    rcases Nat.lt_or_ge l.length 3 with h3 | h3
    · refine Or.inl ⟨scN_short (by rw [hk]; exact h3), ?_⟩
      rcases Nat.lt_or_ge l.length 2 with h4 | h4
      · exact dies_one hl hv1 (Or.inl (by omega))
      · exact dies_two h4 hv1 hv2 (Or.inl (by omega))
    · have hc : cv l (at_ l 0 - base (at_ l 0)) (3 - 1) = ((at_ l 0 - 224) * 64 + at_ l 1 % 64) * 64 + at_ l 2 % 64 := by rw [hb]; rfl
      have hp := put3 (at_ l 0) (at_ l 1) (at_ l 2) h h2
      rw [← take_three h3] at hp
      by_cases hg2 : 128 ≤ at_ l 2 ∧ at_ l 2 ≤ 191
      · have hn := scN_yes hk (by omega) h3 hc (hp.2 (by omega))
        rw [hn]
        rw [if_neg (by omega)] at hs3
        refine Or.inr ⟨by omega, by omega, h3, hs3, fun j h5 h6 => ?_⟩
        have : j = 1 ∨ j = 2 := by omega
        rcases this with rfl | rfl
        · exact hv1
        · exact hv2
      · have hn := scN_no hk (by omega) h3 hc (fun e => by have := hp.1 e; omega)
        rw [if_pos (by omega)] at hs3
        exact Or.inl ⟨hn, dies_two (by omega) hv1 hv2 (Or.inr hs3)⟩
  · rw [if_neg hg] at hs2
    refine Or.inl ⟨?_, dies_one hl hv1 (Or.inr hs2)⟩
    rcases Nat.lt_or_ge l.length 3 with h3 | h3
    · exact scN_short (by rw [hk]; exact h3)
    · have hc : cv l (at_ l 0 - base (at_ l 0)) (3 - 1) = ((at_ l 0 - 224) * 64 + at_ l 1 % 64) * 64 + at_ l 2 % 64 := by rw [hb]; rfl
      have hp := put3 (at_ l 0) (at_ l 1) (at_ l 2) h h2
      rw [← take_three h3] at hp
      exact scN_no hk (by omega) h3 hc (fun e => by have := hp.1 e; omega)

theorem scN_four {l : List Nat} (hl : 0 < l.length) (h : 240 ≤ at_ l 0) (h2 : at_ l 0 < 248) : (scN l = 0 ∧ Dies l) ∨ Lives l (scN l) := by
  have hk : kind (at_ l 0) = 4 := by unfold kind; rw [if_neg (by omega), if_neg (by omega), if_neg (by omega), if_neg (by omega), if_pos h2]
  have hb : base (at_ l 0) = 240 := by unfold base; rw [if_neg (by omega), if_neg (by omega)]
  have hf := first_4 h h2
  have u1 := us_one l
  have u2 := us_two l
  rw [hf] at u1 u2
  have hno : ∀ (hn : ¬ (at_ l 0 ≤ 244 ∧ 128 ≤ at_ l 1 ∧ at_ l 1 ≤ 191 ∧ 128 ≤ at_ l 2 ∧ at_ l 2 ≤ 191 ∧ 128 ≤ at_ l 3 ∧ at_ l 3 ≤ 191 ∧ (at_ l 0 = 240 → 144 ≤ at_ l 1) ∧ (at_ l 0 = 244 → at_ l 1 ≤ 143)) ∨ l.length < 4), scN l = 0 := fun hn => by
    rcases Nat.lt_or_ge l.length 4 with h3 | h3
    · exact scN_short (by rw [hk]; exact h3)
    · have hc : cv l (at_ l 0 - base (at_ l 0)) (4 - 1) = (((at_ l 0 - 240) * 64 + at_ l 1 % 64) * 64 + at_ l 2 % 64) * 64 + at_ l 3 % 64 := by rw [hb]; rfl
      have hp := put4 (at_ l 0) (at_ l 1) (at_ l 2) (at_ l 3) h h2
      rw [← take_four h3] at hp
      refine scN_no hk (by omega) h3 hc (fun e => ?_)
      rcases hn with hn | hn
      · exact hn (hp.1 e)
      · omega
  by_cases h244 : at_ l 0 ≤ 244
  · have hv1 : us l 1 ≠ 0 ∧ us l 1 ≤ 7 := by
      rw [u1]
      by_cases e1 : at_ l 0 = 240
      · rw [if_pos e1]; omega
      · rw [if_neg e1]
        by_cases e2 : at_ l 0 ≤ 243
        · rw [if_pos e2]; omega
        · rw [if_neg e2, if_pos (by omega)]; omega
    have hs2 : us l 2 = if 128 ≤ at_ l 1 ∧ at_ l 1 ≤ 191 ∧ (at_ l 0 = 240 → 144 ≤ at_ l 1) ∧ (at_ l 0 = 244 → at_ l 1 ≤ 143) then 2 else 8 := by
      rw [u2]
      by_cases e1 : at_ l 0 = 240
      · rw [if_pos e1, ustep_6]; (repeat' split) <;> omega
      · rw [if_neg e1]
        by_cases e2 : at_ l 0 ≤ 243
        · rw [if_pos e2, ustep_3]; (repeat' split) <;> omega
        · rw [if_neg e2, if_pos (by omega), ustep_7]; (repeat' split) <;> omega
    have hs3 : us l 3 = ustep (us l 2) (at_ l 2) := rfl
    have hs4 : us l 4 = ustep (us l 3) (at_ l 3) := rfl
    by_cases hg : 128 ≤ at_ l 1 ∧ at_ l 1 ≤ 191 ∧ (at_ l 0 = 240 → 144 ≤ at_ l 1) ∧ (at_ l 0 = 244 → at_ l 1 ≤ 143)
    · rw [if_pos hg] at hs2
      rw [hs2, ustep_2] at hs3
      have hv2 : us l 2 ≠ 0 ∧ us l 2 ≤ 7 := by rw [hs2]; omega
      by_cases hg2 : 128 ≤ at_ l 2 ∧ at_ l 2 ≤ 191
      · rw [if_neg (by omega)] at hs3
        rw [hs3, ustep_1] at hs4
        have hv3 : us l 3 ≠ 0 ∧ us l 3 ≤ 7 := by rw [hs3]; omega
        rcases Nat.lt_or_ge l.length 4 with h3 | h3
        · refine Or.inl ⟨hno (Or.inr h3), ?_⟩
          rcases Nat.lt_or_ge l.length 2 with h4 | h4
          · exact dies_one hl hv1 (Or.inl (by omega))
          · rcases Nat.lt_or_ge l.length 3 with h5 | h5
            · exact dies_two h4 hv1 hv2 (Or.inl (by omega))
            · exact dies_three h5 hv1 hv2 hv3 (Or.inl (by omega))
        · by_cases hg3 : 128 ≤ at_ l 3 ∧ at_ l 3 ≤ 191
          · have hc : cv l (at_ l 0 - base (at_ l 0)) (4 - 1) = (((at_ l 0 - 240) * 64 + at_ l 1 % 64) * 64 + at_ l 2 % 64) * 64 + at_ l 3 % 64 := by rw [hb]; rfl
            have hp := put4 (at_ l 0) (at_ l 1) (at_ l 2) (at_ l 3) h h2
            rw [← take_four h3] at hp
            have hn := scN_yes hk (by omega) h3 hc (hp.2 (by omega))
            rw [hn]
            rw [if_neg (by omega)] at hs4
            refine Or.inr ⟨by omega, by omega, h3, hs4, fun j h5 h6 => ?_⟩
            have : j = 1 ∨ j = 2 ∨ j = 3 := by omega
            rcases this with rfl | rfl | rfl
            · exact hv1
            · exact hv2
            · exact hv3
          · rw [if_pos (by omega)] at hs4
            exact Or.inl ⟨hno (Or.inl (by omega)), dies_three (by omega) hv1 hv2 hv3 (Or.inr hs4)⟩
      · rw [if_pos (by omega)] at hs3
        refine Or.inl ⟨hno (Or.inl (by omega)), ?_⟩
        rcases Nat.lt_or_ge l.length 2 with h4 | h4
        · exact dies_one hl hv1 (Or.inl (by omega))
        · exact dies_two h4 hv1 hv2 (Or.inr hs3)
    · rw [if_neg hg] at hs2
      exact Or.inl ⟨hno (Or.inl (by omega)), dies_one hl hv1 (Or.inr hs2)⟩
  · rw [if_neg (by omega), if_neg (by omega), if_neg (by omega)] at u1
    exact Or.inl ⟨hno (Or.inl (by omega)), dies_zero u1⟩

/-- Where a scalar begins, its bytes lead from 0 to 0; where none does, they die, or are cut off. -/
theorem scN_spec {l : List Nat} (hl : 0 < l.length) : (scN l = 0 ∧ Dies l) ∨ Lives l (scN l) := by
  rcases Nat.lt_or_ge (at_ l 0) 128 with h1 | h1
  · rw [scN_one h1 hl]
    refine Or.inr ⟨by omega, by omega, hl, ?_, fun j h5 h6 => by omega⟩
    rw [us_one]; unfold ufirst; rw [if_pos h1]
  · rcases Nat.lt_or_ge (at_ l 0) 192 with h2 | h2
    · refine Or.inl ⟨scN_none (by unfold kind; rw [if_neg (by omega), if_pos h2]), dies_zero ?_⟩
      rw [us_one, first_0 (Or.inl ⟨h1, h2⟩)]
    · rcases Nat.lt_or_ge (at_ l 0) 224 with h3 | h3
      · exact scN_two hl h2 h3
      · rcases Nat.lt_or_ge (at_ l 0) 240 with h4 | h4
        · exact scN_three hl h3 h4
        · rcases Nat.lt_or_ge (at_ l 0) 248 with h5 | h5
          · exact scN_four hl h4 h5
          · refine Or.inl ⟨scN_none (by unfold kind; rw [if_neg (by omega), if_neg (by omega), if_neg (by omega), if_neg (by omega), if_neg (by omega)]), dies_zero ?_⟩
            rw [us_one, first_0 (Or.inr h5)]

end L
end Go.Proofs.YtgpbpgpolpakjaaGreatDoor

/- Walks: reference 09: a scalar's bytes. -/



set_option linter.unusedVariables false
set_option linter.unusedSimpArgs false
set_option maxRecDepth 100000
namespace Go.Proofs.YtgpbpgpolpakjaaGreatDoor
open Go.RowKit Go.Shelf L

end Go.Proofs.YtgpbpgpolpakjaaGreatDoor

/- Walks: reference 12: a number, statement by statement (printed by gen/refnumber.py). -/

set_option linter.unusedVariables false
set_option linter.unusedSimpArgs false
set_option maxRecDepth 100000
namespace Go.Proofs.YtgpbpgpolpakjaaGreatDoor
open Go.RowKit Go.Shelf L

/-- The frame: the place (and how many digits) known, or not. -/
def FA (s : ByteArray) (r p : Nat) (f : Nat → Value) : Act := { tmps := #[.string s, .int .i64 (p : Nat), f 2, f 3, .pointer (some ⟨r, 0, none⟩), f 5, f 6, f 7, f 8, f 9, f 10, f 11, f 12, f 13, f 14, f 15, f 16, f 17, f 18, f 19, f 20, f 21, f 22, f 23, f 24, f 25, f 26, f 27, f 28, f 29, f 30, f 31, f 32, f 33, f 34, f 35, f 36, f 37, f 38, f 39, f 40, f 41, f 42, f 43, f 44, f 45, f 46, f 47, f 48, f 49, f 50, f 51, f 52, f 53, f 54, f 55, f 56, f 57, f 58, f 59, f 60, f 61, f 62, f 63, f 64, f 65, f 66, f 67, f 68, f 69, f 70, f 71, f 72, f 73, f 74, f 75, f 76, f 77, f 78, f 79, f 80, f 81, f 82, f 83, f 84, f 85, f 86, f 87, f 88, f 89, f 90, f 91, f 92, f 93, f 94, f 95, f 96, f 97, f 98, f 99, f 100, f 101, f 102], defers := [] }
def FB (s : ByteArray) (r p n : Nat) (f : Nat → Value) : Act := { tmps := #[.string s, .int .i64 (p : Nat), f 2, f 3, .pointer (some ⟨r, 0, none⟩), .int .i64 (n : Nat), f 6, f 7, f 8, f 9, f 10, f 11, f 12, f 13, f 14, f 15, f 16, f 17, f 18, f 19, f 20, f 21, f 22, f 23, f 24, f 25, f 26, f 27, f 28, f 29, f 30, f 31, f 32, f 33, f 34, f 35, f 36, f 37, f 38, f 39, f 40, f 41, f 42, f 43, f 44, f 45, f 46, f 47, f 48, f 49, f 50, f 51, f 52, f 53, f 54, f 55, f 56, f 57, f 58, f 59, f 60, f 61, f 62, f 63, f 64, f 65, f 66, f 67, f 68, f 69, f 70, f 71, f 72, f 73, f 74, f 75, f 76, f 77, f 78, f 79, f 80, f 81, f 82, f 83, f 84, f 85, f 86, f 87, f 88, f 89, f 90, f 91, f 92, f 93, f 94, f 95, f 96, f 97, f 98, f 99, f 100, f 101, f 102], defers := [] }
theorem FA.mk (s : ByteArray) (r p : Nat) (u2 u3 u5 u6 u7 u8 u9 u10 u11 u12 u13 u14 u15 u16 u17 u18 u19 u20 u21 u22 u23 u24 u25 u26 u27 u28 u29 u30 u31 u32 u33 u34 u35 u36 u37 u38 u39 u40 u41 u42 u43 u44 u45 u46 u47 u48 u49 u50 u51 u52 u53 u54 u55 u56 u57 u58 u59 u60 u61 u62 u63 u64 u65 u66 u67 u68 u69 u70 u71 u72 u73 u74 u75 u76 u77 u78 u79 u80 u81 u82 u83 u84 u85 u86 u87 u88 u89 u90 u91 u92 u93 u94 u95 u96 u97 u98 u99 u100 u101 u102 : Value) : ∃ f, ({ tmps := #[.string s, .int .i64 (p : Nat), u2, u3, .pointer (some ⟨r, 0, none⟩), u5, u6, u7, u8, u9, u10, u11, u12, u13, u14, u15, u16, u17, u18, u19, u20, u21, u22, u23, u24, u25, u26, u27, u28, u29, u30, u31, u32, u33, u34, u35, u36, u37, u38, u39, u40, u41, u42, u43, u44, u45, u46, u47, u48, u49, u50, u51, u52, u53, u54, u55, u56, u57, u58, u59, u60, u61, u62, u63, u64, u65, u66, u67, u68, u69, u70, u71, u72, u73, u74, u75, u76, u77, u78, u79, u80, u81, u82, u83, u84, u85, u86, u87, u88, u89, u90, u91, u92, u93, u94, u95, u96, u97, u98, u99, u100, u101, u102], defers := [] } : Act) = FA s r p f := ⟨fun i => ([undef, undef, u2, u3, undef, u5, u6, u7, u8, u9, u10, u11, u12, u13, u14, u15, u16, u17, u18, u19, u20, u21, u22, u23, u24, u25, u26, u27, u28, u29, u30, u31, u32, u33, u34, u35, u36, u37, u38, u39, u40, u41, u42, u43, u44, u45, u46, u47, u48, u49, u50, u51, u52, u53, u54, u55, u56, u57, u58, u59, u60, u61, u62, u63, u64, u65, u66, u67, u68, u69, u70, u71, u72, u73, u74, u75, u76, u77, u78, u79, u80, u81, u82, u83, u84, u85, u86, u87, u88, u89, u90, u91, u92, u93, u94, u95, u96, u97, u98, u99, u100, u101, u102] : List Value)[i]?.getD undef, rfl⟩
theorem FB.mk (s : ByteArray) (r p n : Nat) (u2 u3 u6 u7 u8 u9 u10 u11 u12 u13 u14 u15 u16 u17 u18 u19 u20 u21 u22 u23 u24 u25 u26 u27 u28 u29 u30 u31 u32 u33 u34 u35 u36 u37 u38 u39 u40 u41 u42 u43 u44 u45 u46 u47 u48 u49 u50 u51 u52 u53 u54 u55 u56 u57 u58 u59 u60 u61 u62 u63 u64 u65 u66 u67 u68 u69 u70 u71 u72 u73 u74 u75 u76 u77 u78 u79 u80 u81 u82 u83 u84 u85 u86 u87 u88 u89 u90 u91 u92 u93 u94 u95 u96 u97 u98 u99 u100 u101 u102 : Value) : ∃ f, ({ tmps := #[.string s, .int .i64 (p : Nat), u2, u3, .pointer (some ⟨r, 0, none⟩), .int .i64 (n : Nat), u6, u7, u8, u9, u10, u11, u12, u13, u14, u15, u16, u17, u18, u19, u20, u21, u22, u23, u24, u25, u26, u27, u28, u29, u30, u31, u32, u33, u34, u35, u36, u37, u38, u39, u40, u41, u42, u43, u44, u45, u46, u47, u48, u49, u50, u51, u52, u53, u54, u55, u56, u57, u58, u59, u60, u61, u62, u63, u64, u65, u66, u67, u68, u69, u70, u71, u72, u73, u74, u75, u76, u77, u78, u79, u80, u81, u82, u83, u84, u85, u86, u87, u88, u89, u90, u91, u92, u93, u94, u95, u96, u97, u98, u99, u100, u101, u102], defers := [] } : Act) = FB s r p n f := ⟨fun i => ([undef, undef, u2, u3, undef, undef, u6, u7, u8, u9, u10, u11, u12, u13, u14, u15, u16, u17, u18, u19, u20, u21, u22, u23, u24, u25, u26, u27, u28, u29, u30, u31, u32, u33, u34, u35, u36, u37, u38, u39, u40, u41, u42, u43, u44, u45, u46, u47, u48, u49, u50, u51, u52, u53, u54, u55, u56, u57, u58, u59, u60, u61, u62, u63, u64, u65, u66, u67, u68, u69, u70, u71, u72, u73, u74, u75, u76, u77, u78, u79, u80, u81, u82, u83, u84, u85, u86, u87, u88, u89, u90, u91, u92, u93, u94, u95, u96, u97, u98, u99, u100, u101, u102] : List Value)[i]?.getD undef, rfl⟩
def Rk (l : List Nat) (k M p : Nat) : Prop := (∀ q, R l (to q 0) k (to q M) p) ∧ p ≤ l.length
def N1 (l : List Nat) (k p : Nat) : Prop := ∃ M, ((M = 0 ∧ at_ l p ≠ 45 ∧ numb (at_ l p)) ∨ M = 10) ∧ Rk l k M p
def N2 (l : List Nat) (k p n : Nat) : Prop := N1 l k p ∧ Dg l p (p + n)
def N3 (l : List Nat) (k p n : Nat) : Prop := N1 l k p ∧ Dg l p (p + n) ∧ 0 < n
def N5 (l : List Nat) (k p : Nat) : Prop := ∃ M, (M = 11 ∨ (M = 12 ∧ L.digit (at_ l p) = false)) ∧ Rk l k M p
def N4 (l : List Nat) (k p n : Nat) : Prop := N5 l k (p + n)
def N6 (l : List Nat) (k p : Nat) : Prop := ∃ M, ((M = 11 ∧ at_ l p ≠ 46) ∨ (M = 12 ∧ L.digit (at_ l p) = false ∧ at_ l p ≠ 46) ∨ (M = 14 ∧ L.digit (at_ l p) = false)) ∧ Rk l k M p
theorem Rk.on {l : List Nat} {k M p M' p' : Nat} (h : Rk l k M p) (g : ∀ q, R l (to q M) p (to q M') p') : Rk l k M' p' := ⟨fun q => (h.1 q).trans (g q), (g L.start).le.2⟩
theorem N2.none {l : List Nat} {k p : Nat} (h : N2 l k p 0) : Num l k false p := fun q => by
  obtain ⟨⟨M, hM, hr⟩, hd⟩ := h
  exact Goes.fail _ (hr.1 q) (num_none hM hr.2 (by have := hd.2.2.2; rwa [Nat.add_zero] at this))
theorem N3.zero {l : List Nat} {k p n : Nat} (h : N3 l k p n) (h0 : at_ l p = 48) : N4 l k p 1 := by
  obtain ⟨⟨M, hM, hr⟩, hd, hn⟩ := h
  refine ⟨11, Or.inl rfl, hr.on fun q => num_zero ?_ h0⟩
  rcases hM with ⟨e, _⟩ | e
  · exact Or.inl e
  · exact Or.inr e
theorem N3.int {l : List Nat} {k p n : Nat} (h : N3 l k p n) (h0 : at_ l p ≠ 48) : N4 l k p n := by
  obtain ⟨⟨M, hM, hr⟩, hd, hn⟩ := h
  refine ⟨12, Or.inr ⟨rfl, hd.2.2.2⟩, hr.on fun q => num_int ?_ h0 (by omega) hd.2.1 hd.2.2.1⟩
  rcases hM with ⟨e, _⟩ | e
  · exact Or.inl e
  · exact Or.inr e
theorem N5.none {l : List Nat} {k p : Nat} (h : N5 l k p) (h0 : at_ l p ≠ 46) : N6 l k p := by
  obtain ⟨M, hM, hr⟩ := h
  rcases hM with e | ⟨e, hd⟩
  · exact ⟨M, Or.inl ⟨e, h0⟩, hr⟩
  · exact ⟨M, Or.inr (Or.inl ⟨e, hd, h0⟩), hr⟩
/-- Ahead of an exponent's digits. -/
def N8 (l : List Nat) (k p : Nat) : Prop := ∃ M, ((M = 15 ∧ at_ l p ≠ 43 ∧ at_ l p ≠ 45) ∨ M = 16) ∧ Rk l k M p
theorem N8.none {l : List Nat} {k p : Nat} (h : N8 l k p) (hd : Dg l p (p + 0)) : Num l k false p := fun q => by
  obtain ⟨M, hM, hr⟩ := h
  exact Goes.fail _ (hr.1 q) (num_expd_none hM hr.2 (by have := hd.2.2.2; rwa [Nat.add_zero] at this))
end Go.Proofs.YtgpbpgpolpakjaaGreatDoor
