/- Plain laws of the automaton: a step that goes on, or ends where no way goes on; digits, numbers, words. No program in sight. -/
import Derived.Test.YtacllonekidocaaDoorAutoB
set_option linter.unusedVariables false
set_option linter.unusedSimpArgs false
namespace Go.Proofs.YtacllonekidocaaDoor.L

/-- From q at k to q' at k', or to a place where no way goes on. -/
def Goes (l : List Nat) (q : St) (k : Nat) (ok : Bool) (q' : St) (k' : Nat) : Prop := (ok = true ∧ R l q k q' k') ∨ (ok = false ∧ ∃ q'', R l q k q'' k' ∧ Dead l q'' k')
theorem Goes.done {l : List Nat} {q q' : St} {k k' : Nat} (h : R l q k q' k') : Goes l q k true q' k' := Or.inl ⟨rfl, h⟩
theorem Goes.fail {l : List Nat} {q q'' : St} {k k' : Nat} (q' : St) (h : R l q k q'' k') (hd : Dead l q'' k') : Goes l q k false q' k' := Or.inr ⟨rfl, q'', h, hd⟩
theorem Goes.pre {l : List Nat} {q q1 q' : St} {k k1 k' : Nat} {ok : Bool} (h : R l q k q1 k1) (g : Goes l q1 k1 ok q' k') : Goes l q k ok q' k' := by
  rcases g with ⟨e, r⟩ | ⟨e, q'', r, d⟩
  · exact Or.inl ⟨e, h.trans r⟩
  · exact Or.inr ⟨e, q'', h.trans r, d⟩
theorem Goes.le {l : List Nat} {q q' : St} {k k' : Nat} {ok : Bool} (g : Goes l q k ok q' k') : k ≤ k' ∧ k' ≤ l.length := by
  rcases g with ⟨_, r⟩ | ⟨_, _, r, _⟩
  · exact r.le
  · exact r.le

/-- No way on: the byte is none, and no text ends here. -/
theorem dead_of {l : List Nat} {q : St} {k : Nat} (hk : k ≤ l.length) (h1 : k < l.length → delta q (at_ l k) = none) (h2 : fin q = false) : Dead l q k := by
  rcases Nat.lt_or_ge k l.length with h | h
  · exact Or.inr ⟨h, h1 h⟩
  · exact Or.inl ⟨by omega, h2⟩
theorem like_of {l : List Nat} {q q' : St} {k : Nat} (h1 : k < l.length → delta q (at_ l k) = delta q' (at_ l k)) (h2 : fin q = fin q') (h3 : q.most = q'.most) : Like l k q q' := ⟨h1, h2, h3⟩
theorem at_ne {l : List Nat} {k : Nat} (h : at_ l k ≠ 0) : k < l.length := by
  rcases Nat.lt_or_ge k l.length with h1 | h1
  · exact h1
  · exact absurd (by unfold at_; rw [List.getElem?_eq_none h1]; rfl) h
theorem at_digit {l : List Nat} {k : Nat} (h : digit (at_ l k) = true) : k < l.length := at_ne fun e => by rw [e] at h; exact absurd h (by decide)

/-- What the mode tells alone. -/
theorem like_val (l : List Nat) (k : Nat) (q : St) (h : q.m = 0) : Like l k q (to q 0) := by
  refine like_of (fun _ => ?_) ?_ rfl
  · unfold delta; rw [h]; rfl
  · unfold fin; rw [h]; rfl
theorem like_key (l : List Nat) (k : Nat) (q : St) (h : q.m = 3) : Like l k q (to q 3) := by
  refine like_of (fun _ => ?_) ?_ rfl
  · unfold delta; rw [h]; rfl
  · unfold fin; rw [h]; rfl

/-- Digits, one behind the other. -/
theorem digits_drive {l : List Nat} {q1 : St} (hd : ∀ c, digit c = true → delta q1 c = some q1) {a b : Nat} (hab : a ≤ b) (hb : b ≤ l.length) (h : ∀ i, a ≤ i → i < b → digit (at_ l i) = true) : Dr l q1 a q1 b := by
  obtain ⟨n, rfl⟩ : ∃ n, b = a + n := ⟨b - a, by omega⟩
  induction n with
  | zero => exact Dr.refl (by omega)
  | succ n ih =>
    have h1 := ih (by omega) (by omega) (fun i h2 h3 => h i h2 (by omega))
    exact h1.trans (Dr.step (by omega) (hd _ (h _ (by omega) (by omega))))
theorem digits_from {l : List Nat} {q q1 : St} (h0 : ∀ c, digit c = true → (c = 48 → False) → delta q c = some q1) (hd : ∀ c, digit c = true → delta q1 c = some q1) {a b : Nat} (hab : a < b) (hb : b ≤ l.length) (h : ∀ i, a ≤ i → i < b → digit (at_ l i) = true) (hz : at_ l a ≠ 48) : R l q a q1 b :=
  (R.of (Dr.step (by omega) (h0 _ (h a (Nat.le_refl _) hab) hz))).trans (R.of (digits_drive hd (by omega) hb (fun i h1 h2 => h i (by omega) h2)))
theorem digits_from' {l : List Nat} {q q1 : St} (h0 : ∀ c, digit c = true → delta q c = some q1) (hd : ∀ c, digit c = true → delta q1 c = some q1) {a b : Nat} (hab : a < b) (hb : b ≤ l.length) (h : ∀ i, a ≤ i → i < b → digit (at_ l i) = true) : R l q a q1 b :=
  (R.of (Dr.step (by omega) (h0 _ (h a (Nat.le_refl _) hab)))).trans (R.of (digits_drive hd (by omega) hb (fun i h1 h2 => h i (by omega) h2)))

theorem digit_iff (c : Nat) : digit c = true ↔ 48 ≤ c ∧ c ≤ 57 := by unfold digit; simp
theorem digit_not (c : Nat) : digit c = false ↔ c < 48 ∨ 57 < c := by
  unfold digit
  rw [Bool.and_eq_false_iff, decide_eq_false_iff_not, decide_eq_false_iff_not]; omega
theorem blank_iff (c : Nat) : blank c = true ↔ c = 32 ∨ c = 9 ∨ c = 10 ∨ c = 13 := by unfold blank; simp [or_assoc]
theorem blank_not (c : Nat) : blank c = false ↔ c ≠ 32 ∧ c ≠ 9 ∧ c ≠ 10 ∧ c ≠ 13 := by unfold blank; simp [and_assoc]

/-- A byte that begins no other value than a number. -/
def numb (c : Nat) : Prop := blank c = false ∧ c ≠ 91 ∧ c ≠ 123 ∧ c ≠ 34 ∧ c ≠ 110 ∧ c ≠ 116 ∧ c ≠ 102

theorem step_val {c : Nat} (q : St) (h : numb c) : stepVal q c = if c = 45 then some (to q 10) else if c = 48 then some (to q 11) else if digit c then some (to q 12) else none := by
  obtain ⟨h1, h2, h3, h4, h5, h6, h7⟩ := h
  unfold stepVal
  rw [h1, if_neg (by simp), if_neg h2, if_neg h3, if_neg h4, if_neg h5, if_neg h6, if_neg h7]
theorem numb_digit {c : Nat} (h : digit c = true) : numb c := by
  have := (digit_iff c).1 h
  refine ⟨(blank_not c).2 ⟨?_, ?_, ?_, ?_⟩, ?_, ?_, ?_, ?_, ?_, ?_⟩ <;> omega
theorem numb_45 : numb 45 := by refine ⟨by decide, ?_, ?_, ?_, ?_, ?_, ?_⟩ <;> omega

/-- The states of a number: what each byte does there. -/
theorem num_minus {l : List Nat} {q : St} {p : Nat} (h : at_ l p = 45) : R l (to q 0) p (to q 10) (p + 1) := by
  refine R.of (Dr.step (at_ne (by omega)) ?_)
  show stepVal _ _ = _
  rw [h, step_val _ numb_45]; rfl
theorem num_zero {l : List Nat} {q : St} {p M : Nat} (hM : M = 0 ∨ M = 10) (h : at_ l p = 48) : R l (to q M) p (to q 11) (p + 1) := by
  refine R.of (Dr.step (at_ne (by omega)) ?_)
  rcases hM with rfl | rfl
  · show stepVal _ _ = _
    rw [h, step_val _ (numb_digit (by decide))]; rfl
  · show (if at_ l p = 48 then some _ else _) = _
    rw [if_pos h]; rfl
theorem num_int {l : List Nat} {q : St} {p p' M : Nat} (hM : M = 0 ∨ M = 10) (hz : at_ l p ≠ 48) (hpp : p < p') (hp' : p' ≤ l.length) (h : ∀ i, p ≤ i → i < p' → digit (at_ l i) = true) : R l (to q M) p (to q 12) p' := by
  refine digits_from (q1 := to q 12) (fun c hc hz => ?_) (fun c hc => ?_) hpp hp' h hz
  · rcases hM with rfl | rfl
    · show stepVal _ _ = _
      have h45 : ¬ c = 45 := by have := (digit_iff c).1 hc; omega
      rw [step_val _ (numb_digit hc), if_neg h45, if_neg hz, if_pos hc]; rfl
    · show (if c = 48 then some _ else if digit c then some _ else none) = _
      rw [if_neg hz, if_pos hc]; rfl
  · show (if digit c then some _ else _) = _
    rw [if_pos hc]; rfl
theorem num_none {l : List Nat} {q : St} {p M : Nat} (hM : (M = 0 ∧ at_ l p ≠ 45 ∧ numb (at_ l p)) ∨ M = 10) (hp : p ≤ l.length) (h : digit (at_ l p) = false) : Dead l (to q M) p := by
  have hz : at_ l p ≠ 48 := by have := (digit_not _).1 h; omega
  refine dead_of hp (fun _ => ?_) (by rcases hM with ⟨rfl, _⟩ | rfl <;> exact Bool.and_false _)
  rcases hM with ⟨rfl, h45, hn⟩ | rfl
  · show stepVal _ _ = _
    rw [step_val _ hn, if_neg h45, if_neg hz, if_neg (by rw [h]; simp)]
  · show (if at_ l p = 48 then some _ else if digit (at_ l p) then some _ else none) = _
    rw [if_neg hz, if_neg (by rw [h]; simp)]
theorem num_dot {l : List Nat} {q : St} {p M : Nat} (hM : M = 11 ∨ M = 12) (h : at_ l p = 46) : R l (to q M) p (to q 13) (p + 1) := by
  refine R.of (Dr.step (at_ne (by omega)) ?_)
  rw [h]
  rcases hM with rfl | rfl <;> rfl
theorem num_frac {l : List Nat} {q : St} {p p' : Nat} (hpp : p < p') (hp' : p' ≤ l.length) (h : ∀ i, p ≤ i → i < p' → digit (at_ l i) = true) : R l (to q 13) p (to q 14) p' := by
  refine digits_from' (q1 := to q 14) (fun c hc => ?_) (fun c hc => ?_) hpp hp' h
  · show (if digit c then some _ else _) = _
    rw [if_pos hc]; rfl
  · show (if digit c then some _ else _) = _
    rw [if_pos hc]; rfl
theorem num_frac_none {l : List Nat} {q : St} {p : Nat} (hp : p ≤ l.length) (h : digit (at_ l p) = false) : Dead l (to q 13) p := by
  refine dead_of hp (fun _ => ?_) (Bool.and_false _)
  show (if digit (at_ l p) then some _ else none) = _
  rw [if_neg (by rw [h]; simp)]
theorem num_exp {l : List Nat} {q : St} {p M : Nat} (hM : M = 11 ∨ M = 12 ∨ M = 14) (h : at_ l p = 101 ∨ at_ l p = 69) : R l (to q M) p (to q 15) (p + 1) := by
  refine R.of (Dr.step (at_ne (by omega)) ?_)
  rcases hM with rfl | rfl | rfl <;> rcases h with h | h <;> rw [h] <;> rfl
theorem num_sign {l : List Nat} {q : St} {p : Nat} (h : at_ l p = 43 ∨ at_ l p = 45) : R l (to q 15) p (to q 16) (p + 1) := by
  refine R.of (Dr.step (at_ne (by omega)) ?_)
  rcases h with h | h <;> rw [h] <;> rfl
theorem num_expd {l : List Nat} {q : St} {p p' M : Nat} (hM : M = 15 ∨ M = 16) (hpp : p < p') (hp' : p' ≤ l.length) (h : ∀ i, p ≤ i → i < p' → digit (at_ l i) = true) : R l (to q M) p (to q 17) p' := by
  refine digits_from' (q1 := to q 17) (fun c hc => ?_) (fun c hc => ?_) hpp hp' h
  · have h2 := (digit_iff c).1 hc
    rcases hM with rfl | rfl
    · show (if c = 43 ∨ c = 45 then some _ else if digit c then some _ else none) = _
      rw [if_neg (by omega), if_pos hc]; rfl
    · show (if digit c then some _ else none) = _
      rw [if_pos hc]; rfl
  · show (if digit c then some _ else _) = _
    rw [if_pos hc]; rfl
theorem num_expd_none {l : List Nat} {q : St} {p M : Nat} (hM : (M = 15 ∧ at_ l p ≠ 43 ∧ at_ l p ≠ 45) ∨ M = 16) (hp : p ≤ l.length) (h : digit (at_ l p) = false) : Dead l (to q M) p := by
  refine dead_of hp (fun _ => ?_) (by rcases hM with ⟨rfl, _⟩ | rfl <;> exact Bool.and_false _)
  rcases hM with ⟨rfl, h1, h2⟩ | rfl
  · show (if at_ l p = 43 ∨ at_ l p = 45 then some _ else if digit (at_ l p) then some _ else none) = _
    rw [if_neg (by omega), if_neg (by rw [h]; simp)]
  · show (if digit (at_ l p) then some _ else none) = _
    rw [if_neg (by rw [h]; simp)]
theorem beh_to (q : St) (M c : Nat) : stepBeh (to q M) c = stepBeh (to q 5) c := rfl
theorem num_end {l : List Nat} {q : St} {p M : Nat} (h : (M = 11 ∧ at_ l p ≠ 46 ∧ at_ l p ≠ 101 ∧ at_ l p ≠ 69) ∨ (M = 12 ∧ digit (at_ l p) = false ∧ at_ l p ≠ 46 ∧ at_ l p ≠ 101 ∧ at_ l p ≠ 69) ∨ (M = 14 ∧ digit (at_ l p) = false ∧ at_ l p ≠ 101 ∧ at_ l p ≠ 69) ∨ (M = 17 ∧ digit (at_ l p) = false)) :
    Like l p (to q M) (to q 5) := by
  rcases h with ⟨rfl, h1, h2, h3⟩ | ⟨rfl, h0, h1, h2, h3⟩ | ⟨rfl, h0, h2, h3⟩ | ⟨rfl, h0⟩
  · refine like_of (fun _ => ?_) rfl rfl
    show (if at_ l p = 46 then some _ else if at_ l p = 101 ∨ at_ l p = 69 then some _ else stepBeh _ _) = _
    rw [if_neg h1, if_neg (by omega)]; rfl
  · refine like_of (fun _ => ?_) rfl rfl
    show (if digit (at_ l p) then some _ else if at_ l p = 46 then some _ else if at_ l p = 101 ∨ at_ l p = 69 then some _ else stepBeh _ _) = _
    rw [if_neg (by rw [h0]; simp), if_neg h1, if_neg (by omega)]; rfl
  · refine like_of (fun _ => ?_) rfl rfl
    show (if digit (at_ l p) then some _ else if at_ l p = 101 ∨ at_ l p = 69 then some _ else stepBeh _ _) = _
    rw [if_neg (by rw [h0]; simp), if_neg (by omega)]; rfl
  · refine like_of (fun _ => ?_) rfl rfl
    show (if digit (at_ l p) then some _ else stepBeh _ _) = _
    rw [if_neg (by rw [h0]; simp)]; rfl

/-- A word. -/
theorem lit_on {l r : List Nat} {q : St} (k : Nat) (x : Nat) (us : List Nat) (hx : at_ l k = x) (hk : k < l.length) (h0 : us ≠ []) (hd : delta q x = some (toL q us)) : ∀ j, j ≤ us.length → (∀ i, i < j → k + 1 + i < l.length ∧ at_ l (k + 1 + i) = us[i]?.getD 0) → R l q k (if j = us.length then to q 5 else toL q (us.drop j)) (k + 1 + j)
  | 0, h1, h2 => by
    rw [if_neg (by intro e; exact h0 (List.eq_nil_of_length_eq_zero e.symm)), List.drop_zero]
    exact R.of (Dr.step hk (by rw [hx]; exact hd))
  | j + 1, h1, h2 => by
    have h3 := lit_on (r := r) k x us hx hk h0 hd j (by omega) (fun i hi => h2 i (by omega))
    obtain ⟨h4, h5⟩ := h2 j (by omega)
    rw [if_neg (by omega)] at h3
    refine h3.step h4 ?_
    show stepLit _ _ = _
    have e : us.drop j = us[j]'(by omega) :: us.drop (j + 1) := List.drop_eq_getElem_cons (by omega)
    unfold stepLit
    show (match (us.drop j) with | [] => none | x :: r => if at_ l (k + 1 + j) = x then some (if r = [] then to (toL q (us.drop j)) 5 else toL (toL q (us.drop j)) r) else none) = _
    rw [e]
    simp only []
    rw [h5, List.getElem?_eq_getElem (show j < us.length by omega), Option.getD_some, if_pos rfl]
    by_cases hj : j + 1 = us.length
    · rw [if_pos hj, if_pos (List.drop_eq_nil_of_le (by omega))]; rfl
    · rw [if_neg hj, if_neg (by intro e2; have := congrArg List.length e2; rw [List.length_drop] at this; simp at this; omega)]; rfl
theorem lit_dead {l : List Nat} {q : St} (k : Nat) (us : List Nat) {j : Nat} (hj : j < us.length) (hk : k ≤ l.length) (h : at_ l k ≠ us[j]?.getD 0) : Dead l (toL q (us.drop j)) k := by
  refine dead_of hk (fun _ => ?_) (Bool.and_false _)
  show stepLit _ _ = _
  have e : us.drop j = us[j]'(by omega) :: us.drop (j + 1) := List.drop_eq_getElem_cons (by omega)
  unfold stepLit
  show (match (us.drop j) with | [] => none | x :: r => if at_ l k = x then some (if r = [] then to (toL q (us.drop j)) 5 else toL (toL q (us.drop j)) r) else none) = _
  rw [e]
  simp only []
  rw [List.getElem?_eq_getElem hj, Option.getD_some] at h
  rw [if_neg h]

end Go.Proofs.YtacllonekidocaaDoor.L
