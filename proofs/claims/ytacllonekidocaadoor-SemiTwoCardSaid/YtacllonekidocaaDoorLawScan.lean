/- Plain laws of verdicts: texts cut off, blanks about them, depth. No program in sight. -/
import Derived.Test.YtacllonekidocaaDoorAutoD
set_option linter.unusedVariables false
set_option linter.unusedSimpArgs false
namespace Go.Proofs.YtacllonekidocaaDoor.L

/-- Where the automaton stops, in which state. -/
theorem goA_ge : ∀ (l : List Nat) (q : St) (a : Nat), a ≤ (goA q l a).2 ∧ (goA q l a).2 ≤ a + l.length
  | [], q, a => by simp [goA]
  | c :: l, q, a => by
    simp only [goA]
    cases h : delta q c with
    | none => simp
    | some q' =>
      have := goA_ge l q' (a + 1)
      simp only [List.length_cons]; omega
theorem goA_take : ∀ (l : List Nat) (q : St) (a j : Nat), a + j ≤ (goA q l a).2 → (goA q (l.take j) a).2 = a + j
  | [], q, a, j, h => by
    have : j = 0 := by simp only [goA] at h; omega
    subst this; simp [goA]
  | c :: l, q, a, j, h => by
    cases j with
    | zero => simp [goA]
    | succ j =>
      rw [List.take_succ_cons]
      simp only [goA] at h ⊢
      cases hd : delta q c with
      | none => rw [hd] at h; simp at h; omega
      | some q' =>
        rw [hd] at h
        simp only [] at h ⊢
        have := goA_take l q' (a + 1) j (by omega)
        omega
theorem goA_take_all : ∀ (l : List Nat) (q : St) (a j : Nat), (goA q l a).2 = a + j → goA q (l.take j) a = goA q l a
  | [], q, a, j, h => by simp
  | c :: l, q, a, j, h => by
    cases j with
    | zero =>
      rw [List.take_zero]
      simp only [goA] at h ⊢
      cases hd : delta q c with
      | none => rfl
      | some q' =>
        rw [hd] at h
        have := goA_ge l q' (a + 1)
        simp only [] at h; omega
    | succ j =>
      rw [List.take_succ_cons]
      simp only [goA] at h ⊢
      cases hd : delta q c with
      | none => rfl
      | some q' =>
        rw [hd] at h
        simp only [] at h ⊢
        exact goA_take_all l q' (a + 1) j (by omega)
theorem goA_take_more : ∀ (l : List Nat) (q : St) (a j : Nat), (goA q l a).2 < a + j → goA q (l.take j) a = goA q l a
  | [], q, a, j, h => by simp
  | c :: l, q, a, j, h => by
    cases j with
    | zero => have := (goA_ge (c :: l) q a).1; omega
    | succ j =>
      rw [List.take_succ_cons]
      simp only [goA] at h ⊢
      cases hd : delta q c with
      | none => rfl
      | some q' =>
        rw [hd] at h
        simp only [] at h ⊢
        exact goA_take_more l q' (a + 1) j (by omega)
/-- What follows a stop doesn't count. -/
theorem goA_append : ∀ (l m : List Nat) (q : St) (a : Nat), (goA q l a).2 < a + l.length → goA q (l ++ m) a = goA q l a
  | [], m, q, a, h => by simp [goA] at h
  | c :: l, m, q, a, h => by
    rw [List.cons_append]
    simp only [goA] at h ⊢
    cases hd : delta q c with
    | none => rfl
    | some q' =>
      rw [hd] at h
      simp only [List.length_cons] at h ⊢
      exact goA_append l m q' (a + 1) (by omega)
theorem goA_on : ∀ (l m : List Nat) (q : St) (a : Nat), (goA q l a).2 = a + l.length → goA q (l ++ m) a = goA (goA q l a).1 m (a + l.length)
  | [], m, q, a, h => by simp [goA]
  | c :: l, m, q, a, h => by
    rw [List.cons_append]
    simp only [goA] at h ⊢
    cases hd : delta q c with
    | none => rw [hd] at h; simp at h
    | some q' =>
      rw [hd] at h
      simp only [List.length_cons] at h ⊢
      rw [goA_on l m q' (a + 1) (by omega), show a + (l.length + 1) = a + 1 + l.length from by omega]
theorem goA_shift : ∀ (l : List Nat) (q : St) (a b : Nat), goA q l (a + b) = ((goA q l a).1, (goA q l a).2 + b)
  | [], q, a, b => rfl
  | c :: l, q, a, b => by
    simp only [goA]
    cases hd : delta q c with
    | none => rfl
    | some q' =>
      simp only []
      rw [show a + b + 1 = (a + 1) + b from by omega, goA_shift l q' (a + 1) b]

/-- How deep it gets at most; the words' letters. -/
def SmallQ (q : St) (n : Nat) : Prop := q.st.length ≤ n ∧ q.most ≤ n ∧ (∀ x ∈ q.rest, 97 ≤ x)
theorem small_to {q : St} {n m : Nat} (h : SmallQ q n) : SmallQ (to q m) (n + 1) := ⟨by have := h.1; show q.st.length ≤ _; omega, by have := h.2.1; show q.most ≤ _; omega, fun x hx => by cases hx⟩
theorem small_toS {q : St} {n m u : Nat} {k : Bool} (h : SmallQ q n) : SmallQ (toS q m k u) (n + 1) := ⟨by have := h.1; show q.st.length ≤ _; omega, by have := h.2.1; show q.most ≤ _; omega, fun x hx => by cases hx⟩
theorem small_toL {q : St} {n : Nat} {r : List Nat} (h : SmallQ q n) (hr : ∀ x ∈ r, 97 ≤ x) : SmallQ (toL q r) (n + 1) := ⟨by have := h.1; show q.st.length ≤ _; omega, by have := h.2.1; show q.most ≤ _; omega, hr⟩
theorem small_open {q : St} {n : Nat} {t : Bool} (h : SmallQ q n) : SmallQ (openB q t) (n + 1) := by
  refine ⟨?_, ?_, fun x hx => by cases hx⟩
  · show (t :: q.st).length ≤ _
    rw [List.length_cons]; have := h.1; omega
  · show max q.most (q.st.length + 1) ≤ _
    have := h.1; have := h.2.1; omega
theorem small_close {q : St} {n : Nat} (h : SmallQ q n) : SmallQ (closeB q) (n + 1) := by
  refine ⟨?_, by have := h.2.1; show q.most ≤ _; omega, fun x hx => by cases hx⟩
  show q.st.tail.length ≤ _
  rw [List.length_tail]; have := h.1; omega
theorem small_beh {q q' : St} {n c : Nat} (h : SmallQ q n) (hd : stepBeh q c = some q') : SmallQ q' (n + 1) := by
  unfold stepBeh at hd
  split at hd
  · obtain rfl := Option.some.inj hd; exact small_to h
  · split at hd
    · cases hd
    · split at hd
      · obtain rfl := Option.some.inj hd; exact small_to h
      · split at hd
        · obtain rfl := Option.some.inj hd; exact small_close h
        · cases hd
theorem small_val {q q' : St} {n c : Nat} (h : SmallQ q n) (hd : stepVal q c = some q') : SmallQ q' (n + 1) := by
  unfold stepVal at hd
  repeat' split at hd
  all_goals first
    | (cases hd; done)
    | (obtain rfl := Option.some.inj hd
       first
       | exact small_to h
       | exact small_toS h
       | exact small_open h
       | exact small_toL h (by decide))
theorem small_key {q q' : St} {n c : Nat} (h : SmallQ q n) (hd : stepKey q c = some q') : SmallQ q' (n + 1) := by
  unfold stepKey at hd
  repeat' split at hd
  all_goals first
    | (cases hd; done)
    | (obtain rfl := Option.some.inj hd
       first
       | exact small_to h
       | exact small_toS h)
theorem small_step {q q' : St} {n c : Nat} (h : SmallQ q n) (hd : delta q c = some q') : SmallQ q' (n + 1) := by
  unfold delta at hd
  split at hd
  · exact small_val h hd
  · split at hd
    · obtain rfl := Option.some.inj hd; exact small_to h
    · split at hd
      · obtain rfl := Option.some.inj hd; exact small_close h
      · exact small_val h hd
  · split at hd
    · obtain rfl := Option.some.inj hd; exact small_to h
    · split at hd
      · obtain rfl := Option.some.inj hd; exact small_close h
      · exact small_key h hd
  · exact small_key h hd
  · split at hd
    · obtain rfl := Option.some.inj hd; exact small_to h
    · split at hd
      · obtain rfl := Option.some.inj hd; exact small_to h
      · cases hd
  · exact small_beh h hd
  · unfold stepStr at hd
    repeat' split at hd
    all_goals first
      | (cases hd; done)
      | (obtain rfl := Option.some.inj hd
         first
         | exact small_to h
         | exact small_toS h)
  · unfold stepEsc at hd
    repeat' split at hd
    all_goals first
      | (cases hd; done)
      | (obtain rfl := Option.some.inj hd; exact small_toS h)
  · split at hd
    · obtain rfl := Option.some.inj hd
      split
      · exact small_toS h
      · exact small_toS h
    · cases hd
  · unfold stepLit at hd
    split at hd
    · cases hd
    · rename_i x r hr
      split at hd
      · obtain rfl := Option.some.inj hd
        split
        · exact small_to h
        · exact small_toL h (fun y hy => h.2.2 y (by rw [hr]; exact List.mem_cons_of_mem _ hy))
      · cases hd
  all_goals
    (repeat' split at hd)
    all_goals first
      | (cases hd; done)
      | exact small_beh h hd
      | (obtain rfl := Option.some.inj hd; exact small_to h)
theorem small_go : ∀ (l : List Nat) (q : St) (a : Nat), SmallQ q a → SmallQ (goA q l a).1 (goA q l a).2
  | [], q, a, h => h
  | c :: l, q, a, h => by
    simp only [goA]
    cases hd : delta q c with
    | none => exact h
    | some q' => exact small_go l q' (a + 1) (small_step h hd)
theorem small_start : SmallQ start 0 := ⟨Nat.le_refl _, Nat.le_refl _, fun x hx => by cases hx⟩

/-- Blanks never end a text that wasn't one. -/
theorem blank_cases {c : Nat} (h : blank c = true) : c = 32 ∨ c = 9 ∨ c = 10 ∨ c = 13 := (blank_iff c).1 h
theorem fin_iff (q : St) : fin q = true ↔ q.st = [] ∧ (q.m = 5 ∨ q.m = 11 ∨ q.m = 12 ∨ q.m = 14 ∨ q.m = 17) := by
  unfold fin
  rw [Bool.and_eq_true, List.isEmpty_iff]
  simp [or_assoc]
/-- In an end, blanks stay in the end. -/
theorem fin_blank {q : St} {c : Nat} (h : fin q = true) (hb : blank c = true) : delta q c = some (to q 5) := by
  have hbe : stepBeh q c = some (to q 5) := by unfold stepBeh; rw [if_pos hb]
  have hc := blank_cases hb
  have hdg : digit c = false := (digit_not c).2 (by omega)
  obtain ⟨h1, h2⟩ := (fin_iff q).1 h
  unfold delta
  rcases h2 with h2 | h2 | h2 | h2 | h2
  · rw [h2]; exact hbe
  · rw [h2]
    show (if c = 46 then _ else if c = 101 ∨ c = 69 then _ else stepBeh q c) = _
    rw [if_neg (by omega), if_neg (by omega)]; exact hbe
  · rw [h2]
    show (if digit c then _ else if c = 46 then _ else if c = 101 ∨ c = 69 then _ else stepBeh q c) = _
    rw [if_neg (by rw [hdg]; simp), if_neg (by omega), if_neg (by omega)]; exact hbe
  · rw [h2]
    show (if digit c then _ else if c = 101 ∨ c = 69 then _ else stepBeh q c) = _
    rw [if_neg (by rw [hdg]; simp), if_neg (by omega)]; exact hbe
  · rw [h2]
    show (if digit c then _ else stepBeh q c) = _
    rw [if_neg (by rw [hdg]; simp)]; exact hbe
theorem fin_to5 {q : St} (h : fin q = true) : fin (to q 5) = true := (fin_iff _).2 ⟨((fin_iff q).1 h).1, Or.inl rfl⟩
theorem fin_blanks : ∀ (B : List Nat) (q : St) (a : Nat), (∀ c ∈ B, blank c = true) → fin q = true → (goA q B a).2 = a + B.length ∧ fin (goA q B a).1 = true ∧ (goA q B a).1.most = q.most
  | [], q, a, hB, h => ⟨rfl, h, rfl⟩
  | c :: B, q, a, hB, h => by
    simp only [goA, fin_blank h (hB c (List.mem_cons_self ..))]
    have := fin_blanks B (to q 5) (a + 1) (fun x hx => hB x (List.mem_cons_of_mem _ hx)) (fin_to5 h)
    refine ⟨by rw [this.1, List.length_cons]; omega, this.2.1, this.2.2⟩
theorem not_fin {q : St} (h : q.st ≠ [] ∨ (q.m ≠ 5 ∧ q.m ≠ 11 ∧ q.m ≠ 12 ∧ q.m ≠ 14 ∧ q.m ≠ 17)) : fin q = false := by
  cases hf : fin q with
  | false => rfl
  | true =>
    obtain ⟨h1, h2⟩ := (fin_iff q).1 hf
    rcases h with h | h
    · exact absurd h1 h
    · omega
theorem beh_blank {q q' : St} {c : Nat} (hb : blank c = true) (h : stepBeh q c = some q') : q' = to q 5 := by
  unfold stepBeh at h
  rw [if_pos hb] at h
  exact (Option.some.inj h).symm
theorem nofin_blank {q q' : St} {c n : Nat} (hs : SmallQ q n) (hb : blank c = true) (hd : delta q c = some q') (h : fin q = false) : fin q' = false := by
  have hc := blank_cases hb
  have hnb : ∀ x, 33 ≤ x → ¬ c = x := fun x hx => by omega
  have hdg : digit c = false := (digit_not c).2 (by omega)
  have hbe : ∀ q'', stepBeh q c = some q'' → (q.m = 5 ∨ q.m = 11 ∨ q.m = 12 ∨ q.m = 14 ∨ q.m = 17) → fin q'' = false := fun q'' h1 h2 => by
    rw [beh_blank hb h1]
    refine not_fin (Or.inl fun e => ?_)
    have : fin q = true := (fin_iff q).2 ⟨e, h2⟩
    rw [this] at h; cases h
  unfold delta at hd
  split at hd
  · unfold stepVal at hd
    rw [if_pos hb] at hd
    obtain rfl := Option.some.inj hd; exact not_fin (Or.inr (by refine ⟨?_, ?_, ?_, ?_, ?_⟩ <;> (show (0 : Nat) ≠ _; omega)))
  · rw [if_pos hb] at hd
    obtain rfl := Option.some.inj hd; exact not_fin (Or.inr (by refine ⟨?_, ?_, ?_, ?_, ?_⟩ <;> (show (1 : Nat) ≠ _; omega)))
  · rw [if_pos hb] at hd
    obtain rfl := Option.some.inj hd; exact not_fin (Or.inr (by refine ⟨?_, ?_, ?_, ?_, ?_⟩ <;> (show (2 : Nat) ≠ _; omega)))
  · unfold stepKey at hd
    rw [if_pos hb] at hd
    obtain rfl := Option.some.inj hd; exact not_fin (Or.inr (by refine ⟨?_, ?_, ?_, ?_, ?_⟩ <;> (show (3 : Nat) ≠ _; omega)))
  · rw [if_pos hb] at hd
    obtain rfl := Option.some.inj hd; exact not_fin (Or.inr (by refine ⟨?_, ?_, ?_, ?_, ?_⟩ <;> (show (4 : Nat) ≠ _; omega)))
  · rename_i hm; exact hbe _ hd (by omega)
  · unfold stepStr at hd
    split at hd
    · cases hd
    · rw [if_neg (fun e => hnb 34 (by omega) e.2), if_neg (fun e => hnb 92 (by omega) e.2)] at hd
      split at hd
      · cases hd
      · obtain rfl := Option.some.inj hd
        exact not_fin (Or.inr (by refine ⟨?_, ?_, ?_, ?_, ?_⟩ <;> (show (6 : Nat) ≠ _; omega)))
  · unfold stepEsc at hd
    rw [if_neg (by omega), if_neg (by omega)] at hd
    cases hd
  · have : hexd c = false := by
      rcases hc with rfl | rfl | rfl | rfl <;> decide
    rw [if_neg (by rw [this]; simp)] at hd
    cases hd
  · unfold stepLit at hd
    split at hd
    · cases hd
    · rename_i x r hr
      have : 97 ≤ x := hs.2.2 x (by rw [hr]; exact List.mem_cons_self ..)
      rw [if_neg (by omega)] at hd
      cases hd
  · rw [if_neg (by omega), if_neg (by rw [hdg]; simp)] at hd
    cases hd
  · rename_i hm
    rw [if_neg (by omega), if_neg (by omega)] at hd
    exact hbe _ hd (by omega)
  · rename_i hm
    rw [if_neg (by rw [hdg]; simp), if_neg (by omega), if_neg (by omega)] at hd
    exact hbe _ hd (by omega)
  · rw [if_neg (by rw [hdg]; simp)] at hd
    cases hd
  · rename_i hm
    rw [if_neg (by rw [hdg]; simp), if_neg (by omega)] at hd
    exact hbe _ hd (by omega)
  · rw [if_neg (by omega), if_neg (by rw [hdg]; simp)] at hd
    cases hd
  · rw [if_neg (by rw [hdg]; simp)] at hd
    cases hd
  · rename_i hm
    rw [if_neg (by rw [hdg]; simp)] at hd
    exact hbe _ hd (by omega)
  · cases hd
theorem nofin_blanks : ∀ (B : List Nat) (q : St) (a : Nat), SmallQ q a → (∀ c ∈ B, blank c = true) → fin q = false → fin (goA q B a).1 = false
  | [], q, a, hs, hB, h => h
  | c :: B, q, a, hs, hB, h => by
    simp only [goA]
    cases hd : delta q c with
    | none => exact h
    | some q' => exact nofin_blanks B q' (a + 1) (small_step hs hd) (fun x hx => hB x (List.mem_cons_of_mem _ hx)) (nofin_blank hs (hB c (List.mem_cons_self ..)) hd h)
theorem start_blanks : ∀ (A : List Nat) (l : List Nat) (a : Nat), (∀ c ∈ A, blank c = true) → goA start (A ++ l) a = goA start l (a + A.length)
  | [], l, a, h => rfl
  | c :: A, l, a, h => by
    rw [List.cons_append]
    have : delta start c = some start := delta_blank (M := 0) (by omega) [] 0 c (h c (List.mem_cons_self ..))
    simp only [goA, this]
    rw [start_blanks A l (a + 1) (fun x hx => h x (List.mem_cons_of_mem _ hx)), List.length_cons]
    congr 1; omega

end Go.Proofs.YtacllonekidocaaDoor.L
