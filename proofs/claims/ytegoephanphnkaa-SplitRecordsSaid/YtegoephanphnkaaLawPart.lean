/- Plain laws of scalars' bytes: which few bytes go on to a scalar's. No program in sight. -/
import Derived.Test.YtegoephanphnkaaLawUtf
set_option linter.unusedVariables false
set_option linter.unusedSimpArgs false
namespace Go.Proofs.Ytegoephanphnkaa.L

/-- Two lists that begin alike have the same states. -/
theorem us_pre {l t : List Nat} {n : Nat} (h : ∀ i, i < n → at_ t i = at_ l i) : ∀ j, j ≤ n → us t j = us l j
  | 0, _ => rfl
  | j + 1, hj => by
    show ustep (us t j) (at_ t j) = ustep (us l j) (at_ l j)
    rw [us_pre h j (by omega), h j (by omega)]

/-- Where bytes die just so far, no scalar begins, and the other way round. -/
def DiesAt (l : List Nat) (m : Nat) : Prop := m ≤ 3 ∧ m ≤ l.length ∧ (∀ j, 0 < j → j ≤ m → us l j ≠ 0 ∧ us l j ≤ 7) ∧ (m = l.length ∨ us l (m + 1) = 8)
theorem dies_iff {l : List Nat} : Dies l ↔ ∃ m, DiesAt l m := Iff.rfl
theorem ustep_8 (b : Nat) : ustep 8 b = 8 := by unfold ustep unext; rw [if_neg (by omega)]; split <;> rfl
theorem us_dead {l : List Nat} {m : Nat} (h : us l m = 8) : ∀ j, us l (m + j) = 8
  | 0 => h
  | j + 1 => by
    show ustep (us l (m + j)) _ = 8
    rw [us_dead h j, ustep_8]
theorem dies_not_lives {l : List Nat} {m n : Nat} (h : DiesAt l m) (k : Lives l n) : False := by
  obtain ⟨h1, h2, h3, h4⟩ := h
  obtain ⟨k1, k2, k3, k4, k5⟩ := k
  rcases Nat.lt_or_ge m n with hmn | hmn
  · rcases h4 with h4 | h4
    · omega
    · have := us_dead h4 (n - (m + 1))
      rw [show m + 1 + (n - (m + 1)) = n from by omega, k4] at this
      omega
  · exact (h3 n k1 hmn).1 k4
theorem scN_dies {l : List Nat} {m : Nat} (h : DiesAt l m) : scN l = 0 := by
  rcases Nat.eq_zero_or_pos l.length with h0 | h0
  · rw [List.eq_nil_of_length_eq_zero h0]; rfl
  · rcases scN_spec h0 with ⟨e, _⟩ | k
    · exact e
    · exact (dies_not_lives h k).elim
theorem lives_uniq {l : List Nat} {m n : Nat} (h : Lives l m) (k : Lives l n) : m = n := by
  obtain ⟨h1, h2, h3, h4, h5⟩ := h
  obtain ⟨k1, k2, k3, k4, k5⟩ := k
  rcases Nat.lt_trichotomy m n with e | e | e
  · exact absurd h4 (k5 m h1 e).1
  · exact e
  · exact absurd k4 (h5 n k1 e).1
theorem scN_lives {l : List Nat} {n : Nat} (h : Lives l n) : scN l = n := by
  have h0 : 0 < l.length := by have := h.1; have := h.2.2.1; omega
  rcases scN_spec h0 with ⟨e, m, d⟩ | k
  · exact (dies_not_lives d h).elim
  · exact lives_uniq k h
theorem lives_of {l : List Nat} {n : Nat} (h : scN l = n) (hn : 0 < n) : Lives l n := by
  have h0 : 0 < l.length := by
    rcases Nat.eq_zero_or_pos l.length with h0 | h0
    · rw [List.eq_nil_of_length_eq_zero h0] at h
      have : scN [] = 0 := rfl
      omega
    · exact h0
  rcases scN_spec h0 with ⟨e, d⟩ | k
  · omega
  · rw [h] at k; exact k

/-- The bytes that are tried. -/
def low3 (i : Nat) : Nat := if i = 0 then 128 else if i = 1 then 160 else 144
def high3 (i : Nat) : Nat := if i = 0 then 191 else if i = 1 then 159 else 143
def choice (i k : Nat) : Nat := if k % 2 = 0 then low3 i else high3 i
def exc (l : List Nat) (i k p : Nat) : Nat := if p < l.length then at_ l p else if p = 1 then choice i k else 128
def exb (l : List Nat) (i k m : Nat) : List Nat := (List.range m).map (exc l i k)
theorem exb_length (l : List Nat) (i k m : Nat) : (exb l i k m).length = m := by unfold exb; rw [List.length_map, List.length_range]
theorem exb_succ (l : List Nat) (i k m : Nat) : exb l i k (m + 1) = exb l i k m ++ [exc l i k m] := by unfold exb; rw [List.range_succ, List.map_append]; rfl
theorem exb_at (l : List Nat) (i k m p : Nat) (h : p < m) : at_ (exb l i k m) p = exc l i k p := by
  unfold at_ exb
  rw [List.getElem?_map, List.getElem?_range h]; rfl
theorem exb_self (l : List Nat) (i k : Nat) : exb l i k l.length = l := by
  apply List.ext_getElem
  · rw [exb_length]
  · intro p h1 h2
    have := exb_at l i k l.length p h2
    unfold at_ at this
    rw [List.getElem?_eq_getElem h1, Option.getD_some] at this
    rw [this]
    unfold exc at_
    rw [if_pos h2, List.getElem?_eq_getElem h2]; rfl
theorem low3_lt (i : Nat) : low3 i < 256 := by unfold low3; (repeat' split) <;> omega
theorem high3_lt (i : Nat) : high3 i < 256 := by unfold high3; (repeat' split) <;> omega
theorem choice_lt (i k : Nat) : choice i k < 256 := by
  unfold choice
  split
  · exact low3_lt i
  · exact high3_lt i
theorem exb_lt {l : List Nat} (h : ∀ x ∈ l, x < 256) (i k m : Nat) : ∀ x ∈ exb l i k m, x < 256 := by
  intro x hx
  unfold exb at hx
  obtain ⟨p, _, rfl⟩ := List.mem_map.1 hx
  unfold exc
  split
  · rename_i hp
    refine h _ ?_
    unfold at_
    rw [List.getElem?_eq_getElem hp]
    exact List.getElem_mem hp
  · split
    · exact choice_lt i k
    · omega

/-- All bytes are alive. -/
def AllAlive (l : List Nat) : Prop := ∀ j, 0 < j → j ≤ l.length → us l j ≠ 0 ∧ us l j ≤ 7
def Hit (l : List Nat) (i k m : Nat) : Prop := scN (exb l i k m) = m
theorem us_exb (l : List Nat) (i k m j : Nat) (hj : j ≤ l.length) (hm : l.length ≤ m) : us (exb l i k m) j = us l j :=
  us_pre (n := l.length) (fun p hp => by rw [exb_at l i k m p (by omega)]; unfold exc; rw [if_pos hp]) j hj
theorem hit_alive {l : List Nat} {i k m : Nat} (hm : l.length < m) (h : Hit l i k m) : AllAlive l := by
  have hl := lives_of h (by omega)
  intro j h1 h2
  have := hl.2.2.2.2 j h1 (by omega)
  rwa [us_exb l i k m j h2 (by omega)] at this

theorem us_to (l : List Nat) (j : Nat) : us l (j + 1) = ustep (us l j) (at_ l j) := rfl
/-- A state that is left by 80 80 .. -/
theorem ufirst_lt (b : Nat) : ufirst b ≤ 8 := by unfold ufirst; (repeat' split) <;> omega
theorem ustep_le (u b : Nat) (h : u ≤ 7) : ustep u b ≤ 8 := by
  unfold ustep
  split
  · exact ufirst_lt b
  · split
    · omega
    · unfold unext; (repeat' split) <;> omega
theorem ustep_in (u b : Nat) (h0 : u ≠ 0) (h : u ≤ 7) (h2 : ustep u b ≤ 7) : ustep u b ≤ 2 := by
  unfold ustep at h2 ⊢
  rw [if_neg h0] at h2 ⊢
  split
  · rename_i hh; rw [if_pos hh] at h2; omega
  · unfold unext; (repeat' split) <;> omega

theorem alive_hit {l : List Nat} (h1 : 0 < l.length) (h3 : l.length ≤ 3) (h : AllAlive l) : ∃ i k m, i < 3 ∧ k < 3 ∧ l.length < m ∧ m ≤ 4 ∧ Hit l i k m := by
  -- which second byte
  have hu1 := h 1 (by omega) (by omega)
  obtain ⟨i, hi, hI⟩ : ∃ i, i < 3 ∧ (l.length = 1 → ustep (us l 1) (choice i 0) = unext (us l 1)) := by
    by_cases e4 : us l 1 = 4
    · exact ⟨1, by omega, fun _ => by rw [e4]; rfl⟩
    · by_cases e6 : us l 1 = 6
      · exact ⟨2, by omega, fun _ => by rw [e6]; rfl⟩
      · refine ⟨0, by omega, fun _ => ?_⟩
        have : us l 1 = 1 ∨ us l 1 = 2 ∨ us l 1 = 3 ∨ us l 1 = 5 ∨ us l 1 = 7 := by omega
        rcases this with e | e | e | e | e <;> rw [e] <;> rfl
  -- the states of the bytes that are tried
  have key : ∀ m, l.length ≤ m → m ≤ 4 → us (exb l i 0 4) l.length = us l l.length := fun m _ _ => us_exb l i 0 4 _ (Nat.le_refl _) (by omega)
  have hlen : us (exb l i 0 4) l.length = us l l.length := us_exb l i 0 4 _ (Nat.le_refl _) (by omega)
  have hpre : ∀ j, j ≤ l.length → us (exb l i 0 4) j = us l j := fun j hj => us_exb l i 0 4 _ hj (by omega)
  have hstep : ∀ p, l.length ≤ p → p < 4 → us (exb l i 0 4) (p + 1) = ustep (us (exb l i 0 4) p) (if p = 1 then choice i 0 else 128) := fun p hp h4 => by
    rw [us_to, exb_at l i 0 4 p h4]
    unfold exc
    rw [if_neg (by omega)]
  have hlives : ∀ m, l.length < m → m ≤ 4 → us (exb l i 0 4) m = 0 → (∀ j, l.length < j → j < m → us (exb l i 0 4) j ≠ 0 ∧ us (exb l i 0 4) j ≤ 7) → Hit l i 0 m := by
    intro m hm hm4 h0 hin
    have hpm : ∀ j, j ≤ m → us (exb l i 0 m) j = us (exb l i 0 4) j := us_pre (n := m) (fun p hp => by rw [exb_at l i 0 m p hp, exb_at l i 0 4 p (by omega)])
    refine scN_lives ⟨by omega, hm4, by rw [exb_length]; exact Nat.le_refl _, by rw [hpm m (Nat.le_refl _)]; exact h0, fun j hj1 hj2 => ?_⟩
    rw [hpm j (by omega)]
    rcases Nat.lt_or_ge l.length j with hj | hj
    · exact hin j hj hj2
    · rw [hpre j hj]; exact h j hj1 hj
  have h8 : ustep 1 128 = 0 := rfl
  have h9 : ustep 2 128 = 1 := rfl
  refine ⟨i, 0, ?_⟩
  have hc : l.length = 1 ∨ l.length = 2 ∨ l.length = 3 := by omega
  rcases hc with e | e | e
  · have s1 : us (exb l i 0 4) 1 = us l 1 := hpre 1 (by omega)
    have s2 : us (exb l i 0 4) 2 = unext (us l 1) := by rw [hstep 1 (by omega) (by omega), s1, if_pos rfl, hI e]
    have s3 : us (exb l i 0 4) 3 = ustep (unext (us l 1)) 128 := by rw [hstep 2 (by omega) (by omega), s2, if_neg (by omega)]
    have s4 : us (exb l i 0 4) 4 = ustep (ustep (unext (us l 1)) 128) 128 := by rw [hstep 3 (by omega) (by omega), s3, if_neg (by omega)]
    have hx : unext (us l 1) = 0 ∨ unext (us l 1) = 1 ∨ unext (us l 1) = 2 := by
      have : us l 1 = 1 ∨ us l 1 = 2 ∨ us l 1 = 3 ∨ us l 1 = 4 ∨ us l 1 = 5 ∨ us l 1 = 6 ∨ us l 1 = 7 := by omega
      rcases this with e | e | e | e | e | e | e <;> rw [e] <;> decide
    rcases hx with e0 | e1 | e2
    · exact ⟨2, by omega, by omega, by omega, by omega, hlives 2 (by omega) (by omega) (by rw [s2, e0]) (fun j h1 h2 => by omega)⟩
    · refine ⟨3, by omega, by omega, by omega, by omega, hlives 3 (by omega) (by omega) (by rw [s3, e1, h8]) (fun j h1 h2 => ?_)⟩
      obtain rfl : j = 2 := by omega
      rw [s2, e1]; omega
    · refine ⟨4, by omega, by omega, by omega, by omega, hlives 4 (by omega) (by omega) (by rw [s4, e2, h9, h8]) (fun j h1 h2 => ?_)⟩
      have : j = 2 ∨ j = 3 := by omega
      rcases this with rfl | rfl
      · rw [s2, e2]; omega
      · rw [s3, e2, h9]; omega
  · have hu2 := h 2 (by omega) (by omega)
    have hle2 : us l 2 ≤ 2 := ustep_in (us l 1) (at_ l 1) hu1.1 hu1.2 hu2.2
    have s2 : us (exb l i 0 4) 2 = us l 2 := hpre 2 (by omega)
    have s3 : us (exb l i 0 4) 3 = ustep (us l 2) 128 := by rw [hstep 2 (by omega) (by omega), s2, if_neg (by omega)]
    have s4 : us (exb l i 0 4) 4 = ustep (ustep (us l 2) 128) 128 := by rw [hstep 3 (by omega) (by omega), s3, if_neg (by omega)]
    have hx : us l 2 = 1 ∨ us l 2 = 2 := by omega
    rcases hx with e1 | e2
    · exact ⟨3, by omega, by omega, by omega, by omega, hlives 3 (by omega) (by omega) (by rw [s3, e1, h8]) (fun j h1 h2 => by omega)⟩
    · refine ⟨4, by omega, by omega, by omega, by omega, hlives 4 (by omega) (by omega) (by rw [s4, e2, h9, h8]) (fun j h1 h2 => ?_)⟩
      obtain rfl : j = 3 := by omega
      rw [s3, e2, h9]; omega
  · have hu2 := h 2 (by omega) (by omega)
    have hu3 := h 3 (by omega) (by omega)
    have hle2 : us l 2 ≤ 2 := ustep_in (us l 1) (at_ l 1) hu1.1 hu1.2 hu2.2
    have h31 : us l 3 = 1 := by
      have e3 : us l 3 = ustep (us l 2) (at_ l 2) := rfl
      have hx : us l 2 = 1 ∨ us l 2 = 2 := by omega
      rcases hx with e1 | e2
      · rw [e1, ustep_1] at e3
        split at e3 <;> omega
      · rw [e2, ustep_2] at e3
        split at e3 <;> omega
    have s3 : us (exb l i 0 4) 3 = us l 3 := hpre 3 (by omega)
    have s4 : us (exb l i 0 4) 4 = ustep (us l 3) 128 := by rw [hstep 3 (by omega) (by omega), s3, if_neg (by omega)]
    exact ⟨4, by omega, by omega, by omega, by omega, hlives 4 (by omega) (by omega) (by rw [s4, h31, h8]) (fun j h1 h2 => by omega)⟩

/-- What has been tried. -/
def No1 (l : List Nat) (i : Nat) : Prop := ∀ i', i' < i → ∀ k, k < 3 → ∀ m, l.length < m → m ≤ 4 → ¬ Hit l i' k m
def No2 (l : List Nat) (i k : Nat) : Prop := No1 l i ∧ ∀ k', k' < k → ∀ m, l.length < m → m ≤ 4 → ¬ Hit l i k' m
def No3 (l : List Nat) (i k m : Nat) : Prop := No2 l i k ∧ ∀ m', l.length < m' → m' < m → ¬ Hit l i k m'
theorem No1.zero (l : List Nat) : No1 l 0 := fun i' h => by omega
theorem No1.two {l : List Nat} {i : Nat} (h : No1 l i) : No2 l i 0 := ⟨h, fun k' h => by omega⟩
theorem No2.one {l : List Nat} {i : Nat} (h : No2 l i 3) : No1 l (i + 1) := fun i' hi k hk m h1 h2 => by
  rcases Nat.lt_or_ge i' i with h3 | h3
  · exact h.1 i' h3 k hk m h1 h2
  · obtain rfl : i' = i := by omega
    exact h.2 k hk m h1 h2
theorem No2.three {l : List Nat} {i k : Nat} (h : No2 l i k) : No3 l i k (l.length + 1) := ⟨h, fun m' h1 h2 => by omega⟩
theorem No3.two {l : List Nat} {i k m : Nat} (h : No3 l i k m) (hm : 4 < m) : No2 l i (k + 1) := ⟨h.1.1, fun k' hk m' h1 h2 => by
  rcases Nat.lt_or_ge k' k with h3 | h3
  · exact h.1.2 k' h3 m' h1 h2
  · obtain rfl : k' = k := by omega
    exact h.2 m' h1 (by omega)⟩
theorem No3.step {l : List Nat} {i k m : Nat} (h : No3 l i k m) (hm : ¬ Hit l i k m) : No3 l i k (m + 1) := ⟨h.1, fun m' h1 h2 => by
  rcases Nat.lt_or_ge m' m with h3 | h3
  · exact h.2 m' h1 h3
  · obtain rfl : m' = m := by omega
    exact hm⟩
theorem No1.all {l : List Nat} (h : No1 l 3) (h1 : 0 < l.length) (h3 : l.length ≤ 3) : ¬ AllAlive l := fun ha => by
  obtain ⟨i, k, m, a1, a2, a3, a4, a5⟩ := alive_hit h1 h3 ha
  exact h i a1 k a2 m a3 a4 a5

/-- Bytes that die so far: the first ones are alive, one more isn't. -/
theorem dies_part {l : List Nat} {m k : Nat} (h : DiesAt l m) (hk : k < l.length) (hkm : k ≤ m) : AllAlive (l.take (k + 1)) ↔ k < m := by
  have hl : (l.take (k + 1)).length = k + 1 := by rw [List.length_take]; omega
  have hp : ∀ j, j ≤ k + 1 → us (l.take (k + 1)) j = us l j := us_pre (fun i hi => by unfold at_; rw [List.getElem?_take_of_lt (by omega)])
  constructor
  · intro ha
    rcases Nat.lt_or_ge k m with h1 | h1
    · exact h1
    · obtain rfl : k = m := by omega
      have := ha (k + 1) (by omega) (by omega)
      rw [hp _ (Nat.le_refl _)] at this
      rcases h.2.2.2 with h4 | h4
      · omega
      · omega
  · intro h1 j hj1 hj2
    rw [hp j (by omega)]
    exact h.2.2.1 j hj1 (by omega)
/-- The first four bytes tell. -/
theorem dies_four {l : List Nat} {m : Nat} (h : DiesAt l m) : DiesAt (l.take 4) m := by
  obtain ⟨h1, h2, h3, h4⟩ := h
  have hp : ∀ j, j ≤ 4 → us (l.take 4) j = us l j := us_pre (fun i hi => by unfold at_; rw [List.getElem?_take_of_lt (by omega)])
  refine ⟨h1, by rw [List.length_take]; omega, fun j a b => by rw [hp j (by omega)]; exact h3 j a b, ?_⟩
  rcases h4 with h4 | h4
  · exact Or.inl (by rw [List.length_take]; omega)
  · rcases Nat.lt_or_ge m l.length with h5 | h5
    · exact Or.inr (by rw [hp _ (by omega)]; exact h4)
    · exact Or.inl (by rw [List.length_take]; omega)

end Go.Proofs.Ytegoephanphnkaa.L
