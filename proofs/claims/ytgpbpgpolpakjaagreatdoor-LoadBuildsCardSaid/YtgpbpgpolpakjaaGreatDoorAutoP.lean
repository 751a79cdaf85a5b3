/- The texts Auto, AutoB, AutoC, AutoD, LawScan, LawScanB, in one. -/
/- The JSON texts as an automaton, byte by byte. No program in sight. -/
set_option linter.unusedVariables false
namespace Go.Proofs.YtgpbpgpolpakjaaGreatDoor.L

/-- The state: what is looked for (m: 0 a value, 1 and 2 what stands behind a bracket, 3 a key, 4 a colon, 5 what stands behind a value, 6 a string, 7 an escape, 8 a unit, 9 a word, 10 to 17 a number; k: is it a key?; n: the state of UTF-8, or how many digits; rest: of a word),
the open brackets (the last one ahead; true: an object's), how deep it was at most. -/
structure St where
  m : Nat
  k : Bool
  n : Nat
  rest : List Nat
  st : List Bool
  most : Nat

def blank (c : Nat) : Bool := c == 32 || c == 9 || c == 10 || c == 13
def digit (c : Nat) : Bool := decide (48 ≤ c) && decide (c ≤ 57)
def hexd (c : Nat) : Bool := (decide (48 ≤ c) && decide (c ≤ 57)) || (decide (97 ≤ c) && decide (c ≤ 102)) || (decide (65 ≤ c) && decide (c ≤ 70))

/-- utf: the state behind a scalar's first byte, and behind a byte; 8: dead. -/
def ufirst (b : Nat) : Nat :=
  if b < 128 then 0 else if 194 ≤ b ∧ b ≤ 223 then 1 else if b = 224 then 4 else if b = 237 then 5 else if 225 ≤ b ∧ b ≤ 239 then 2
  else if b = 240 then 6 else if 241 ≤ b ∧ b ≤ 243 then 3 else if b = 244 then 7 else 8
def ulow (u : Nat) : Nat := if u = 4 then 160 else if u = 6 then 144 else 128
def uhigh (u : Nat) : Nat := if u = 5 then 159 else if u = 7 then 143 else 191
def unext (u : Nat) : Nat := if u = 4 ∨ u = 5 then 1 else if u = 6 ∨ u = 7 then 2 else if u = 1 ∨ u = 2 ∨ u = 3 then u - 1 else 8
def ustep (u b : Nat) : Nat := if u = 0 then ufirst b else if b < ulow u ∨ uhigh u < b then 8 else unext u

/-- A bracket is opened; closed. -/
def openB (q : St) (t : Bool) : St := ⟨if t then 2 else 1, false, 0, [], t :: q.st, max q.most (q.st.length + 1)⟩
def closeB (q : St) : St := ⟨5, false, 0, [], q.st.tail, q.most⟩
def to (q : St) (m : Nat) : St := ⟨m, false, 0, [], q.st, q.most⟩
def toS (q : St) (m : Nat) (k : Bool) (n : Nat) : St := ⟨m, k, n, [], q.st, q.most⟩
def toL (q : St) (r : List Nat) : St := ⟨9, false, 0, r, q.st, q.most⟩

def stepBeh (q : St) (c : Nat) : Option St :=
  if blank c then some (to q 5)
  else match q.st with
    | [] => none
    | t :: _ => if c = 44 then some (to q (if t then 3 else 0)) else if (c = 93 ∧ t = false) ∨ (c = 125 ∧ t = true) then some (closeB q) else none
def stepVal (q : St) (c : Nat) : Option St :=
  if blank c then some (to q 0)
  else if c = 91 then some (openB q false) else if c = 123 then some (openB q true)
  else if c = 34 then some (toS q 6 false 0)
  else if c = 110 then some (toL q [117, 108, 108]) else if c = 116 then some (toL q [114, 117, 101]) else if c = 102 then some (toL q [97, 108, 115, 101])
  else if c = 45 then some (to q 10) else if c = 48 then some (to q 11) else if digit c then some (to q 12) else none
def stepKey (q : St) (c : Nat) : Option St := if blank c then some (to q 3) else if c = 34 then some (toS q 6 true 0) else none
def stepStr (q : St) (c : Nat) : Option St :=
  if q.n = 0 ∧ c < 32 then none else if q.n = 0 ∧ c = 34 then some (to q (if q.k then 4 else 5)) else if q.n = 0 ∧ c = 92 then some (toS q 7 q.k 0)
  else if 7 < ustep q.n c then none else some (toS q 6 q.k (ustep q.n c))
def stepEsc (q : St) (c : Nat) : Option St :=
  if c = 117 then some (toS q 8 q.k 4) else if c = 34 ∨ c = 92 ∨ c = 47 ∨ c = 98 ∨ c = 102 ∨ c = 110 ∨ c = 114 ∨ c = 116 then some (toS q 6 q.k 0) else none
def stepLit (q : St) (c : Nat) : Option St :=
  match q.rest with
  | [] => none
  | x :: r => if c = x then some (if r = [] then to q 5 else toL q r) else none

def delta (q : St) (c : Nat) : Option St :=
  match q.m with
  | 0 => stepVal q c
  | 1 => if blank c then some (to q 1) else if c = 93 then some (closeB q) else stepVal q c
  | 2 => if blank c then some (to q 2) else if c = 125 then some (closeB q) else stepKey q c
  | 3 => stepKey q c
  | 4 => if blank c then some (to q 4) else if c = 58 then some (to q 0) else none
  | 5 => stepBeh q c
  | 6 => stepStr q c
  | 7 => stepEsc q c
  | 8 => if hexd c then some (if q.n = 1 then toS q 6 q.k 0 else toS q 8 q.k (q.n - 1)) else none
  | 9 => stepLit q c
  | 10 => if c = 48 then some (to q 11) else if digit c then some (to q 12) else none
  | 11 => if c = 46 then some (to q 13) else if c = 101 ∨ c = 69 then some (to q 15) else stepBeh q c
  | 12 => if digit c then some (to q 12) else if c = 46 then some (to q 13) else if c = 101 ∨ c = 69 then some (to q 15) else stepBeh q c
  | 13 => if digit c then some (to q 14) else none
  | 14 => if digit c then some (to q 14) else if c = 101 ∨ c = 69 then some (to q 15) else stepBeh q c
  | 15 => if c = 43 ∨ c = 45 then some (to q 16) else if digit c then some (to q 17) else none
  | 16 => if digit c then some (to q 17) else none
  | 17 => if digit c then some (to q 17) else stepBeh q c
  | _ => none

/-- May a text end here? -/
def fin (q : St) : Bool := q.st.isEmpty && (q.m == 5 || q.m == 11 || q.m == 12 || q.m == 14 || q.m == 17)

/-- Some bytes lead from a state to a state. -/
def drive : St → List Nat → Option St
  | q, [] => some q
  | q, c :: l => match delta q c with
    | none => none
    | some q' => drive q' l
def start : St := ⟨0, false, 0, [], [], 0⟩

end Go.Proofs.YtgpbpgpolpakjaaGreatDoor.L

/- Plain laws of the automaton of JSON texts: how far it goes, composing stretches, states that are alike. No program in sight. -/

set_option linter.unusedVariables false
set_option linter.unusedSimpArgs false
namespace Go.Proofs.YtgpbpgpolpakjaaGreatDoor.L

/-- The byte at a place; 0 behind the end. -/
def at_ (l : List Nat) (i : Nat) : Nat := l[i]?.getD 0
theorem at_get {l : List Nat} {i : Nat} (h : i < l.length) : l[i]? = some (at_ l i) := by
  unfold at_; rw [List.getElem?_eq_getElem h]; rfl

/-- The bytes from a on, ahead of b, lead from q to q'. -/
def Dr (l : List Nat) (q : St) (a : Nat) (q' : St) (b : Nat) : Prop := a ≤ b ∧ b ≤ l.length ∧ drive q ((l.drop a).take (b - a)) = some q'
theorem drive_append (q : St) : ∀ (l m : List Nat) , drive q (l ++ m) = (drive q l).bind fun q' => drive q' m
  | [], m => rfl
  | c :: l, m => by
    simp only [List.cons_append, drive]
    cases h : delta q c with
    | none => rfl
    | some q' => exact drive_append q' l m
theorem Dr.refl {l : List Nat} {q : St} {a : Nat} (h : a ≤ l.length) : Dr l q a q a := ⟨Nat.le_refl _, h, by rw [Nat.sub_self, List.take_zero]; rfl⟩
theorem Dr.trans {l : List Nat} {q q' q'' : St} {a b c : Nat} (h : Dr l q a q' b) (k : Dr l q' b q'' c) : Dr l q a q'' c := by
  refine ⟨Nat.le_trans h.1 k.1, k.2.1, ?_⟩
  have e : (l.drop a).take (c - a) = (l.drop a).take (b - a) ++ (l.drop b).take (c - b) := by
    have h1 := h.1
    have h2 := k.1
    rw [show c - a = (b - a) + (c - b) from by omega, List.take_add, List.drop_drop, show a + (b - a) = b from by omega]
  rw [e, drive_append, h.2.2]; exact k.2.2
theorem Dr.step {l : List Nat} {q q' : St} {a : Nat} (h : a < l.length) (hd : delta q (at_ l a) = some q') : Dr l q a q' (a + 1) := by
  refine ⟨by omega, by omega, ?_⟩
  have e : (l.drop a).take (a + 1 - a) = [at_ l a] := by
    rw [show a + 1 - a = 1 from by omega]
    have : l.drop a = at_ l a :: l.drop (a + 1) := by
      have := at_get h
      rw [List.getElem?_eq_getElem h] at this
      rw [List.drop_eq_getElem_cons h]
      injection this with this
      rw [this]
    rw [this]; rfl
  rw [e]; simp only [drive, hd]
/-- The first byte of a stretch. -/
theorem Dr.head {l : List Nat} {q q' : St} {a b : Nat} (h : Dr l q a q' b) (hab : a < b) : ∃ q1, delta q (at_ l a) = some q1 ∧ Dr l q1 (a + 1) q' b := by
  obtain ⟨h1, h2, h3⟩ := h
  have hl : l.drop a = at_ l a :: l.drop (a + 1) := by
    have h0 : a < l.length := by omega
    have := at_get h0
    rw [List.getElem?_eq_getElem h0] at this
    rw [List.drop_eq_getElem_cons h0]
    injection this with this
    rw [this]
  rw [hl, show b - a = (b - (a + 1)) + 1 from by omega, List.take_succ_cons] at h3
  simp only [drive] at h3
  cases hd : delta q (at_ l a) with
  | none => rw [hd] at h3; cases h3
  | some q1 => rw [hd] at h3; exact ⟨q1, rfl, by omega, h2, h3⟩

/-- Two states that do the same at a place. -/
def Like (l : List Nat) (b : Nat) (q q' : St) : Prop := (b < l.length → delta q (at_ l b) = delta q' (at_ l b)) ∧ fin q = fin q' ∧ q.most = q'.most
theorem Like.refl (l : List Nat) (b : Nat) (q : St) : Like l b q q := ⟨fun _ => rfl, rfl, rfl⟩
theorem Like.trans {l : List Nat} {b : Nat} {q q' q'' : St} (h : Like l b q q') (k : Like l b q' q'') : Like l b q q'' := ⟨fun hb => (h.1 hb).trans (k.1 hb), h.2.1.trans k.2.1, h.2.2.trans k.2.2⟩
/-- The bytes lead to a state that is alike. -/
def R (l : List Nat) (q : St) (a : Nat) (q' : St) (b : Nat) : Prop := ∃ q0, Dr l q a q0 b ∧ Like l b q0 q'
theorem R.of {l : List Nat} {q q' : St} {a b : Nat} (h : Dr l q a q' b) : R l q a q' b := ⟨q', h, Like.refl _ _ _⟩
theorem R.refl {l : List Nat} {q : St} {a : Nat} (h : a ≤ l.length) : R l q a q a := R.of (Dr.refl h)
theorem R.like {l : List Nat} {q q' q'' : St} {a b : Nat} (h : R l q a q' b) (k : Like l b q' q'') : R l q a q'' b := by
  obtain ⟨q0, h1, h2⟩ := h
  exact ⟨q0, h1, h2.trans k⟩
theorem R.trans {l : List Nat} {q q' q'' : St} {a b c : Nat} (h : R l q a q' b) (k : R l q' b q'' c) : R l q a q'' c := by
  obtain ⟨q0, h1, h2⟩ := h
  obtain ⟨q1, k1, k2⟩ := k
  rcases Nat.eq_or_lt_of_le k1.1 with e | e
  · subst e
    have : q' = q1 := by
      have := k1.2.2
      rw [Nat.sub_self, List.take_zero] at this
      simpa [drive] using this
    subst this
    exact ⟨q0, h1, h2.trans k2⟩
  · obtain ⟨q2, d1, d2⟩ := k1.head e
    have hb : b < l.length := by have := k1.2.1; omega
    exact ⟨q1, h1.trans ((Dr.step hb ((h2.1 hb).trans d1)).trans d2), k2⟩
theorem R.step {l : List Nat} {q q' q'' : St} {a b : Nat} (h : R l q a q' b) (hb : b < l.length) (hd : delta q' (at_ l b) = some q'') : R l q a q'' (b + 1) := h.trans (R.of (Dr.step hb hd))
theorem R.le {l : List Nat} {q q' : St} {a b : Nat} (h : R l q a q' b) : a ≤ b ∧ b ≤ l.length := by
  obtain ⟨q0, h1, _⟩ := h
  exact ⟨h1.1, h1.2.1⟩
/-- No way on. -/
def Dead (l : List Nat) (q : St) (b : Nat) : Prop := (b = l.length ∧ fin q = false) ∨ (b < l.length ∧ delta q (at_ l b) = none)
theorem Dead.like {l : List Nat} {q q' : St} {b : Nat} (h : Dead l q' b) (k : Like l b q q') : Dead l q b := by
  rcases h with ⟨h1, h2⟩ | ⟨h1, h2⟩
  · exact Or.inl ⟨h1, k.2.1.trans h2⟩
  · exact Or.inr ⟨h1, (k.1 h1).trans h2⟩

/-- How far the automaton goes. -/
def goA : St → List Nat → Nat → St × Nat
  | q, [], p => (q, p)
  | q, c :: l, p => match delta q c with
    | none => (q, p)
    | some q' => goA q' l (p + 1)
theorem goA_drive : ∀ (l m : List Nat) (q q' : St) (p : Nat), drive q l = some q' → goA q (l ++ m) p = goA q' m (p + l.length)
  | [], m, q, q', p, h => by simp [drive] at h; subst h; rfl
  | c :: l, m, q, q', p, h => by
    simp only [drive] at h
    simp only [List.cons_append, goA]
    cases hd : delta q c with
    | none => rw [hd] at h; cases h
    | some q1 =>
      rw [hd] at h
      simp only []
      rw [goA_drive l m q1 q' (p + 1) h, List.length_cons, show p + 1 + l.length = p + (l.length + 1) from by omega]
theorem goA_dead {l : List Nat} {q : St} {b : Nat} (h : R l start 0 q b) (hd : Dead l q b) : ∃ q0, goA start l 0 = (q0, b) ∧ ¬ (b = l.length ∧ fin q0 = true) := by
  obtain ⟨q0, h1, h2⟩ := h
  have hd0 := hd.like h2
  refine ⟨q0, ?_, ?_⟩
  · have e : l = (l.drop 0).take (b - 0) ++ l.drop b := by rw [List.drop_zero, Nat.sub_zero, List.take_append_drop]
    have hl : ((l.drop 0).take (b - 0)).length = b := by have := h1.2.1; rw [List.length_take, List.length_drop]; omega
    have := goA_drive _ (l.drop b) start q0 0 h1.2.2
    rw [← e, hl, Nat.zero_add] at this
    rw [this]
    rcases hd0 with ⟨e1, _⟩ | ⟨e1, e2⟩
    · rw [List.drop_of_length_le (by omega)]; rfl
    · have hdr : l.drop b = at_ l b :: l.drop (b + 1) := by
        have := at_get e1
        rw [List.getElem?_eq_getElem e1] at this
        rw [List.drop_eq_getElem_cons e1]
        injection this with this
        rw [this]
      rw [hdr]; simp only [goA, e2]
  · rintro ⟨e1, e2⟩
    rcases hd0 with ⟨_, h3⟩ | ⟨h3, _⟩
    · rw [e2] at h3; cases h3
    · omega
theorem goA_fin {l : List Nat} {q : St} (h : R l start 0 q l.length) (hf : fin q = true) : ∃ q0, goA start l 0 = (q0, l.length) ∧ fin q0 = true ∧ q0.most = q.most := by
  obtain ⟨q0, h1, h2⟩ := h
  refine ⟨q0, ?_, h2.2.1.trans hf, h2.2.2⟩
  have e : l = (l.drop 0).take (l.length - 0) ++ l.drop l.length := by rw [List.drop_zero, Nat.sub_zero, List.take_append_drop]
  have hl : ((l.drop 0).take (l.length - 0)).length = l.length := by rw [List.length_take, List.length_drop]; omega
  have := goA_drive _ (l.drop l.length) start q0 0 h1.2.2
  rw [← e, hl, Nat.zero_add, List.drop_length] at this
  exact this

end Go.Proofs.YtgpbpgpolpakjaaGreatDoor.L

/- Plain laws of the automaton: a step that goes on, or ends where no way goes on; digits, numbers, words. No program in sight. -/

set_option linter.unusedVariables false
set_option linter.unusedSimpArgs false
namespace Go.Proofs.YtgpbpgpolpakjaaGreatDoor.L

/-- From q at k to q' at k', or to a place where no way goes on. -/
def Goes (l : List Nat) (q : St) (k : Nat) (ok : Bool) (q' : St) (k' : Nat) : Prop := (ok = true ∧ R l q k q' k') ∨ (ok = false ∧ ∃ q'', R l q k q'' k' ∧ Dead l q'' k')
theorem Goes.done {l : List Nat} {q q' : St} {k k' : Nat} (h : R l q k q' k') : Goes l q k true q' k' := Or.inl ⟨rfl, h⟩
theorem Goes.fail {l : List Nat} {q q'' : St} {k k' : Nat} (q' : St) (h : R l q k q'' k') (hd : Dead l q'' k') : Goes l q k false q' k' := Or.inr ⟨rfl, q'', h, hd⟩
theorem Goes.pre {l : List Nat} {q q1 q' : St} {k k1 k' : Nat} {ok : Bool} (h : R l q k q1 k1) (g : Goes l q1 k1 ok q' k') : Goes l q k ok q' k' := by
  rcases g with ⟨e, r⟩ | ⟨e, q'', r, d⟩
  · exact Or.inl ⟨e, h.trans r⟩
  · exact Or.inr ⟨e, q'', h.trans r, d⟩
theorem Goes.le {l : List Nat} {q q' : St} {k k' : Nat} {ok : Bool} (g : Goes l q k ok q' k') : k ≤ k' ∧ k' ≤ l.length := by
  rcases g with ⟨_, r⟩ | ⟨_, _, r, _⟩
  · exact r.le
  · exact r.le

/-- No way on: the byte is none, and no text ends here. -/
theorem dead_of {l : List Nat} {q : St} {k : Nat} (hk : k ≤ l.length) (h1 : k < l.length → delta q (at_ l k) = none) (h2 : fin q = false) : Dead l q k := by
  rcases Nat.lt_or_ge k l.length with h | h
  · exact Or.inr ⟨h, h1 h⟩
  · exact Or.inl ⟨by omega, h2⟩
theorem like_of {l : List Nat} {q q' : St} {k : Nat} (h1 : k < l.length → delta q (at_ l k) = delta q' (at_ l k)) (h2 : fin q = fin q') (h3 : q.most = q'.most) : Like l k q q' := ⟨h1, h2, h3⟩
theorem at_ne {l : List Nat} {k : Nat} (h : at_ l k ≠ 0) : k < l.length := by
  rcases Nat.lt_or_ge k l.length with h1 | h1
  · exact h1
  · exact absurd (by unfold at_; rw [List.getElem?_eq_none h1]; rfl) h
/-- Digits, one behind the other. -/
theorem digits_drive {l : List Nat} {q1 : St} (hd : ∀ c, digit c = true → delta q1 c = some q1) {a b : Nat} (hab : a ≤ b) (hb : b ≤ l.length) (h : ∀ i, a ≤ i → i < b → digit (at_ l i) = true) : Dr l q1 a q1 b := by
  obtain ⟨n, rfl⟩ : ∃ n, b = a + n := ⟨b - a, by omega⟩
  induction n with
  | zero => exact Dr.refl (by omega)
  | succ n ih =>
    have h1 := ih (by omega) (by omega) (fun i h2 h3 => h i h2 (by omega))
    exact h1.trans (Dr.step (by omega) (hd _ (h _ (by omega) (by omega))))
theorem digits_from {l : List Nat} {q q1 : St} (h0 : ∀ c, digit c = true → (c = 48 → False) → delta q c = some q1) (hd : ∀ c, digit c = true → delta q1 c = some q1) {a b : Nat} (hab : a < b) (hb : b ≤ l.length) (h : ∀ i, a ≤ i → i < b → digit (at_ l i) = true) (hz : at_ l a ≠ 48) : R l q a q1 b :=
  (R.of (Dr.step (by omega) (h0 _ (h a (Nat.le_refl _) hab) hz))).trans (R.of (digits_drive hd (by omega) hb (fun i h1 h2 => h i (by omega) h2)))
theorem digits_from' {l : List Nat} {q q1 : St} (h0 : ∀ c, digit c = true → delta q c = some q1) (hd : ∀ c, digit c = true → delta q1 c = some q1) {a b : Nat} (hab : a < b) (hb : b ≤ l.length) (h : ∀ i, a ≤ i → i < b → digit (at_ l i) = true) : R l q a q1 b :=
  (R.of (Dr.step (by omega) (h0 _ (h a (Nat.le_refl _) hab)))).trans (R.of (digits_drive hd (by omega) hb (fun i h1 h2 => h i (by omega) h2)))

theorem digit_iff (c : Nat) : digit c = true ↔ 48 ≤ c ∧ c ≤ 57 := by unfold digit; simp
theorem digit_not (c : Nat) : digit c = false ↔ c < 48 ∨ 57 < c := by
  unfold digit
  rw [Bool.and_eq_false_iff, decide_eq_false_iff_not, decide_eq_false_iff_not]; omega
theorem blank_iff (c : Nat) : blank c = true ↔ c = 32 ∨ c = 9 ∨ c = 10 ∨ c = 13 := by unfold blank; simp [or_assoc]
theorem blank_not (c : Nat) : blank c = false ↔ c ≠ 32 ∧ c ≠ 9 ∧ c ≠ 10 ∧ c ≠ 13 := by unfold blank; simp [and_assoc]

/-- A byte that begins no other value than a number. -/
def numb (c : Nat) : Prop := blank c = false ∧ c ≠ 91 ∧ c ≠ 123 ∧ c ≠ 34 ∧ c ≠ 110 ∧ c ≠ 116 ∧ c ≠ 102

theorem step_val {c : Nat} (q : St) (h : numb c) : stepVal q c = if c = 45 then some (to q 10) else if c = 48 then some (to q 11) else if digit c then some (to q 12) else none := by
  obtain ⟨h1, h2, h3, h4, h5, h6, h7⟩ := h
  unfold stepVal
  rw [h1, if_neg (by simp), if_neg h2, if_neg h3, if_neg h4, if_neg h5, if_neg h6, if_neg h7]
theorem numb_digit {c : Nat} (h : digit c = true) : numb c := by
  have := (digit_iff c).1 h
  refine ⟨(blank_not c).2 ⟨?_, ?_, ?_, ?_⟩, ?_, ?_, ?_, ?_, ?_, ?_⟩ <;> omega
theorem numb_45 : numb 45 := by refine ⟨by decide, ?_, ?_, ?_, ?_, ?_, ?_⟩ <;> omega

/-- The states of a number: what each byte does there. -/
theorem num_minus {l : List Nat} {q : St} {p : Nat} (h : at_ l p = 45) : R l (to q 0) p (to q 10) (p + 1) := by
  refine R.of (Dr.step (at_ne (by omega)) ?_)
  show stepVal _ _ = _
  rw [h, step_val _ numb_45]; rfl
theorem num_zero {l : List Nat} {q : St} {p M : Nat} (hM : M = 0 ∨ M = 10) (h : at_ l p = 48) : R l (to q M) p (to q 11) (p + 1) := by
  refine R.of (Dr.step (at_ne (by omega)) ?_)
  rcases hM with rfl | rfl
  · show stepVal _ _ = _
    rw [h, step_val _ (numb_digit (by decide))]; rfl
  · show (if at_ l p = 48 then some _ else _) = _
    rw [if_pos h]; rfl
theorem num_int {l : List Nat} {q : St} {p p' M : Nat} (hM : M = 0 ∨ M = 10) (hz : at_ l p ≠ 48) (hpp : p < p') (hp' : p' ≤ l.length) (h : ∀ i, p ≤ i → i < p' → digit (at_ l i) = true) : R l (to q M) p (to q 12) p' := by
  refine digits_from (q1 := to q 12) (fun c hc hz => ?_) (fun c hc => ?_) hpp hp' h hz
  · rcases hM with rfl | rfl
    · show stepVal _ _ = _
      have h45 : ¬ c = 45 := by have := (digit_iff c).1 hc; omega
      rw [step_val _ (numb_digit hc), if_neg h45, if_neg hz, if_pos hc]; rfl
    · show (if c = 48 then some _ else if digit c then some _ else none) = _
      rw [if_neg hz, if_pos hc]; rfl
  · show (if digit c then some _ else _) = _
    rw [if_pos hc]; rfl
theorem num_none {l : List Nat} {q : St} {p M : Nat} (hM : (M = 0 ∧ at_ l p ≠ 45 ∧ numb (at_ l p)) ∨ M = 10) (hp : p ≤ l.length) (h : digit (at_ l p) = false) : Dead l (to q M) p := by
  have hz : at_ l p ≠ 48 := by have := (digit_not _).1 h; omega
  refine dead_of hp (fun _ => ?_) (by rcases hM with ⟨rfl, _⟩ | rfl <;> exact Bool.and_false _)
  rcases hM with ⟨rfl, h45, hn⟩ | rfl
  · show stepVal _ _ = _
    rw [step_val _ hn, if_neg h45, if_neg hz, if_neg (by rw [h]; simp)]
  · show (if at_ l p = 48 then some _ else if digit (at_ l p) then some _ else none) = _
    rw [if_neg hz, if_neg (by rw [h]; simp)]
theorem num_dot {l : List Nat} {q : St} {p M : Nat} (hM : M = 11 ∨ M = 12) (h : at_ l p = 46) : R l (to q M) p (to q 13) (p + 1) := by
  refine R.of (Dr.step (at_ne (by omega)) ?_)
  rw [h]
  rcases hM with rfl | rfl <;> rfl
theorem num_frac {l : List Nat} {q : St} {p p' : Nat} (hpp : p < p') (hp' : p' ≤ l.length) (h : ∀ i, p ≤ i → i < p' → digit (at_ l i) = true) : R l (to q 13) p (to q 14) p' := by
  refine digits_from' (q1 := to q 14) (fun c hc => ?_) (fun c hc => ?_) hpp hp' h
  · show (if digit c then some _ else _) = _
    rw [if_pos hc]; rfl
  · show (if digit c then some _ else _) = _
    rw [if_pos hc]; rfl
theorem num_frac_none {l : List Nat} {q : St} {p : Nat} (hp : p ≤ l.length) (h : digit (at_ l p) = false) : Dead l (to q 13) p := by
  refine dead_of hp (fun _ => ?_) (Bool.and_false _)
  show (if digit (at_ l p) then some _ else none) = _
  rw [if_neg (by rw [h]; simp)]
theorem num_exp {l : List Nat} {q : St} {p M : Nat} (hM : M = 11 ∨ M = 12 ∨ M = 14) (h : at_ l p = 101 ∨ at_ l p = 69) : R l (to q M) p (to q 15) (p + 1) := by
  refine R.of (Dr.step (at_ne (by omega)) ?_)
  rcases hM with rfl | rfl | rfl <;> rcases h with h | h <;> rw [h] <;> rfl
theorem num_sign {l : List Nat} {q : St} {p : Nat} (h : at_ l p = 43 ∨ at_ l p = 45) : R l (to q 15) p (to q 16) (p + 1) := by
  refine R.of (Dr.step (at_ne (by omega)) ?_)
  rcases h with h | h <;> rw [h] <;> rfl
theorem num_expd {l : List Nat} {q : St} {p p' M : Nat} (hM : M = 15 ∨ M = 16) (hpp : p < p') (hp' : p' ≤ l.length) (h : ∀ i, p ≤ i → i < p' → digit (at_ l i) = true) : R l (to q M) p (to q 17) p' := by
  refine digits_from' (q1 := to q 17) (fun c hc => ?_) (fun c hc => ?_) hpp hp' h
  · have h2 := (digit_iff c).1 hc
    rcases hM with rfl | rfl
    · show (if c = 43 ∨ c = 45 then some _ else if digit c then some _ else none) = _
      rw [if_neg (by omega), if_pos hc]; rfl
    · show (if digit c then some _ else none) = _
      rw [if_pos hc]; rfl
  · show (if digit c then some _ else _) = _
    rw [if_pos hc]; rfl
theorem num_expd_none {l : List Nat} {q : St} {p M : Nat} (hM : (M = 15 ∧ at_ l p ≠ 43 ∧ at_ l p ≠ 45) ∨ M = 16) (hp : p ≤ l.length) (h : digit (at_ l p) = false) : Dead l (to q M) p := by
  refine dead_of hp (fun _ => ?_) (by rcases hM with ⟨rfl, _⟩ | rfl <;> exact Bool.and_false _)
  rcases hM with ⟨rfl, h1, h2⟩ | rfl
  · show (if at_ l p = 43 ∨ at_ l p = 45 then some _ else if digit (at_ l p) then some _ else none) = _
    rw [if_neg (by omega), if_neg (by rw [h]; simp)]
  · show (if digit (at_ l p) then some _ else none) = _
    rw [if_neg (by rw [h]; simp)]
theorem num_end {l : List Nat} {q : St} {p M : Nat} (h : (M = 11 ∧ at_ l p ≠ 46 ∧ at_ l p ≠ 101 ∧ at_ l p ≠ 69) ∨ (M = 12 ∧ digit (at_ l p) = false ∧ at_ l p ≠ 46 ∧ at_ l p ≠ 101 ∧ at_ l p ≠ 69) ∨ (M = 14 ∧ digit (at_ l p) = false ∧ at_ l p ≠ 101 ∧ at_ l p ≠ 69) ∨ (M = 17 ∧ digit (at_ l p) = false)) :
    Like l p (to q M) (to q 5) := by
  rcases h with ⟨rfl, h1, h2, h3⟩ | ⟨rfl, h0, h1, h2, h3⟩ | ⟨rfl, h0, h2, h3⟩ | ⟨rfl, h0⟩
  · refine like_of (fun _ => ?_) rfl rfl
    show (if at_ l p = 46 then some _ else if at_ l p = 101 ∨ at_ l p = 69 then some _ else stepBeh _ _) = _
    rw [if_neg h1, if_neg (by omega)]; rfl
  · refine like_of (fun _ => ?_) rfl rfl
    show (if digit (at_ l p) then some _ else if at_ l p = 46 then some _ else if at_ l p = 101 ∨ at_ l p = 69 then some _ else stepBeh _ _) = _
    rw [if_neg (by rw [h0]; simp), if_neg h1, if_neg (by omega)]; rfl
  · refine like_of (fun _ => ?_) rfl rfl
    show (if digit (at_ l p) then some _ else if at_ l p = 101 ∨ at_ l p = 69 then some _ else stepBeh _ _) = _
    rw [if_neg (by rw [h0]; simp), if_neg (by omega)]; rfl
  · refine like_of (fun _ => ?_) rfl rfl
    show (if digit (at_ l p) then some _ else stepBeh _ _) = _
    rw [if_neg (by rw [h0]; simp)]; rfl

/-- A word. -/
theorem lit_on {l r : List Nat} {q : St} (k : Nat) (x : Nat) (us : List Nat) (hx : at_ l k = x) (hk : k < l.length) (h0 : us ≠ []) (hd : delta q x = some (toL q us)) : ∀ j, j ≤ us.length → (∀ i, i < j → k + 1 + i < l.length ∧ at_ l (k + 1 + i) = us[i]?.getD 0) → R l q k (if j = us.length then to q 5 else toL q (us.drop j)) (k + 1 + j)
  | 0, h1, h2 => by
    rw [if_neg (by intro e; exact h0 (List.eq_nil_of_length_eq_zero e.symm)), List.drop_zero]
    exact R.of (Dr.step hk (by rw [hx]; exact hd))
  | j + 1, h1, h2 => by
    have h3 := lit_on (r := r) k x us hx hk h0 hd j (by omega) (fun i hi => h2 i (by omega))
    obtain ⟨h4, h5⟩ := h2 j (by omega)
    rw [if_neg (by omega)] at h3
    refine h3.step h4 ?_
    show stepLit _ _ = _
    have e : us.drop j = us[j]'(by omega) :: us.drop (j + 1) := List.drop_eq_getElem_cons (by omega)
    unfold stepLit
    show (match (us.drop j) with | [] => none | x :: r => if at_ l (k + 1 + j) = x then some (if r = [] then to (toL q (us.drop j)) 5 else toL (toL q (us.drop j)) r) else none) = _
    rw [e]
    simp only []
    rw [h5, List.getElem?_eq_getElem (show j < us.length by omega), Option.getD_some, if_pos rfl]
    by_cases hj : j + 1 = us.length
    · rw [if_pos hj, if_pos (List.drop_eq_nil_of_le (by omega))]; rfl
    · rw [if_neg hj, if_neg (by intro e2; have := congrArg List.length e2; rw [List.length_drop] at this; simp at this; omega)]; rfl
theorem lit_dead {l : List Nat} {q : St} (k : Nat) (us : List Nat) {j : Nat} (hj : j < us.length) (hk : k ≤ l.length) (h : at_ l k ≠ us[j]?.getD 0) : Dead l (toL q (us.drop j)) k := by
  refine dead_of hk (fun _ => ?_) (Bool.and_false _)
  show stepLit _ _ = _
  have e : us.drop j = us[j]'(by omega) :: us.drop (j + 1) := List.drop_eq_getElem_cons (by omega)
  unfold stepLit
  show (match (us.drop j) with | [] => none | x :: r => if at_ l k = x then some (if r = [] then to (toL q (us.drop j)) 5 else toL (toL q (us.drop j)) r) else none) = _
  rw [e]
  simp only []
  rw [List.getElem?_eq_getElem hj, Option.getD_some] at h
  rw [if_neg h]

end Go.Proofs.YtgpbpgpolpakjaaGreatDoor.L

/- Plain laws of the automaton: brackets, blanks, keys, commas. No program in sight. -/

set_option linter.unusedVariables false
set_option linter.unusedSimpArgs false
namespace Go.Proofs.YtgpbpgpolpakjaaGreatDoor.L

/-- A state between values. -/
def Q (M : Nat) (st : List Bool) (m : Nat) : St := ⟨M, false, 0, [], st, m⟩

theorem same_drive {l : List Nat} {q1 : St} (P : Nat → Bool) (hd : ∀ c, P c = true → delta q1 c = some q1) {a b : Nat} (hab : a ≤ b) (hb : b ≤ l.length) (h : ∀ i, a ≤ i → i < b → P (at_ l i) = true) : Dr l q1 a q1 b := by
  obtain ⟨n, rfl⟩ : ∃ n, b = a + n := ⟨b - a, by omega⟩
  induction n with
  | zero => exact Dr.refl (by omega)
  | succ n ih =>
    have h1 := ih (by omega) (by omega) (fun i h2 h3 => h i h2 (by omega))
    exact h1.trans (Dr.step (by omega) (hd _ (h _ (by omega) (by omega))))
theorem delta_blank {M : Nat} (hM : M ≤ 5) (st : List Bool) (m c : Nat) (h : blank c = true) : delta (Q M st m) c = some (Q M st m) := by
  have hc : M = 0 ∨ M = 1 ∨ M = 2 ∨ M = 3 ∨ M = 4 ∨ M = 5 := by omega
  rcases hc with rfl | rfl | rfl | rfl | rfl | rfl
  · show stepVal _ _ = _
    unfold stepVal; rw [if_pos h]; rfl
  · show (if blank c then _ else _) = _
    rw [if_pos h]; rfl
  · show (if blank c then _ else _) = _
    rw [if_pos h]; rfl
  · show stepKey _ _ = _
    unfold stepKey; rw [if_pos h]; rfl
  · show (if blank c then _ else _) = _
    rw [if_pos h]; rfl
  · show stepBeh _ _ = _
    unfold stepBeh; rw [if_pos h]; rfl
theorem blanks_R {l : List Nat} {M k k' : Nat} (hM : M ≤ 5) (st : List Bool) (m : Nat) (h1 : k ≤ k') (h2 : k' ≤ l.length) (h : ∀ i, k ≤ i → i < k' → blank (at_ l i) = true) : R l (Q M st m) k (Q M st m) k' :=
  R.of (same_drive blank (fun c hc => delta_blank hM st m c hc) h1 h2 h)

section
variable {l : List Nat} {k k' : Nat} {st : List Bool} {m : Nat} {ok : Bool}
theorem open_arr (h : at_ l k = 91) : R l (Q 0 st m) k (Q 1 (false :: st) (max m (st.length + 1))) (k + 1) := R.of (Dr.step (at_ne (by omega)) (by rw [h]; rfl))
theorem open_obj (h : at_ l k = 123) : R l (Q 0 st m) k (Q 2 (true :: st) (max m (st.length + 1))) (k + 1) := R.of (Dr.step (at_ne (by omega)) (by rw [h]; rfl))
theorem like_first (hb : blank (at_ l k) = false) (h : at_ l k ≠ 93) : Like l k (Q 1 st m) (Q 0 st m) := by
  refine like_of (fun _ => ?_) ?_ rfl
  · show (if blank (at_ l k) then _ else if at_ l k = 93 then _ else stepVal _ _) = stepVal _ _
    rw [if_neg (by rw [hb]; simp), if_neg h]; rfl
  · show (_ && false) = (_ && false); rw [Bool.and_false, Bool.and_false]
theorem like_firstk (hb : blank (at_ l k) = false) (h : at_ l k ≠ 125) : Like l k (Q 2 st m) (Q 3 st m) := by
  refine like_of (fun _ => ?_) ?_ rfl
  · show (if blank (at_ l k) then _ else if at_ l k = 125 then _ else stepKey _ _) = stepKey _ _
    rw [if_neg (by rw [hb]; simp), if_neg h]; rfl
  · show (_ && false) = (_ && false); rw [Bool.and_false, Bool.and_false]
theorem close_first (t : Bool) (h : at_ l k = 93) : delta (Q 1 (t :: st) m) (at_ l k) = some (Q 5 st m) := by rw [h]; rfl
theorem close_firstk (t : Bool) (h : at_ l k = 125) : delta (Q 2 (t :: st) m) (at_ l k) = some (Q 5 st m) := by rw [h]; rfl
theorem key_dead (hk : k ≤ l.length) (hb : blank (at_ l k) = false) (h : at_ l k ≠ 34) : Dead l (Q 3 st m) k := by
  refine dead_of hk (fun _ => ?_) (Bool.and_false _)
  show stepKey _ _ = _
  unfold stepKey
  rw [if_neg (by rw [hb]; simp), if_neg h]
theorem key_open (h : at_ l k = 34) : R l (Q 3 st m) k (toS (Q 3 st m) 6 true 0) (k + 1) := R.of (Dr.step (at_ne (by omega)) (by rw [h]; rfl))
theorem colon_R (h : at_ l k = 58) : R l (Q 4 st m) k (Q 0 st m) (k + 1) := R.of (Dr.step (at_ne (by omega)) (by rw [h]; rfl))
theorem colon_dead (hk : k ≤ l.length) (hb : blank (at_ l k) = false) (h : at_ l k ≠ 58) : Dead l (Q 4 st m) k := by
  refine dead_of hk (fun _ => ?_) (Bool.and_false _)
  show (if blank (at_ l k) then _ else if at_ l k = 58 then _ else none) = _
  rw [if_neg (by rw [hb]; simp), if_neg h]
theorem beh_fin (m : Nat) : fin (Q 5 [] m) = true := rfl
theorem beh_dead0 (hk : k < l.length) (hb : blank (at_ l k) = false) : Dead l (Q 5 [] m) k := by
  refine Or.inr ⟨hk, ?_⟩
  show stepBeh _ _ = _
  unfold stepBeh
  rw [if_neg (by rw [hb]; simp)]; rfl
theorem beh_step (t : Bool) (c : Nat) (hb : blank c = false) : delta (Q 5 (t :: st) m) c = (if c = 44 then some (Q (if t then 3 else 0) (t :: st) m) else if (c = 93 ∧ t = false) ∨ (c = 125 ∧ t = true) then some (Q 5 st m) else none) := by
  show stepBeh _ _ = _
  unfold stepBeh
  rw [if_neg (by rw [hb]; simp)]; rfl
theorem beh_key (h : at_ l k = 44) : R l (Q 5 (true :: st) m) k (Q 3 (true :: st) m) (k + 1) := R.of (Dr.step (at_ne (by omega)) (by rw [h]; rfl))
theorem beh_val (h : at_ l k = 44) : R l (Q 5 (false :: st) m) k (Q 0 (false :: st) m) (k + 1) := R.of (Dr.step (at_ne (by omega)) (by rw [h]; rfl))
theorem beh_close {t : Bool} (h : (at_ l k = 93 ∧ t = false) ∨ (at_ l k = 125 ∧ t = true)) : delta (Q 5 (t :: st) m) (at_ l k) = some (Q 5 st m) := by
  rcases h with ⟨h, rfl⟩ | ⟨h, rfl⟩ <;> (rw [h]; rfl)
theorem beh_dead {t : Bool} (hk : k ≤ l.length) (hb : blank (at_ l k) = false) (h1 : at_ l k ≠ 44) (h2 : ¬ ((at_ l k = 93 ∧ t = false) ∨ (at_ l k = 125 ∧ t = true))) : Dead l (Q 5 (t :: st) m) k := by
  refine dead_of hk (fun _ => ?_) rfl
  rw [beh_step t _ hb, if_neg h1, if_neg h2]
end

end Go.Proofs.YtgpbpgpolpakjaaGreatDoor.L

/- Plain laws of verdicts: texts cut off, blanks about them, depth. No program in sight. -/

set_option linter.unusedVariables false
set_option linter.unusedSimpArgs false
namespace Go.Proofs.YtgpbpgpolpakjaaGreatDoor.L

/-- Where the automaton stops, in which state. -/
theorem goA_ge : ∀ (l : List Nat) (q : St) (a : Nat), a ≤ (goA q l a).2 ∧ (goA q l a).2 ≤ a + l.length
  | [], q, a => by simp [goA]
  | c :: l, q, a => by
    simp only [goA]
    cases h : delta q c with
    | none => simp
    | some q' =>
      have := goA_ge l q' (a + 1)
      simp only [List.length_cons]; omega
/-- How deep it gets at most; the words' letters. -/
def SmallQ (q : St) (n : Nat) : Prop := q.st.length ≤ n ∧ q.most ≤ n ∧ (∀ x ∈ q.rest, 97 ≤ x)
theorem small_to {q : St} {n m : Nat} (h : SmallQ q n) : SmallQ (to q m) (n + 1) := ⟨by have := h.1; show q.st.length ≤ _; omega, by have := h.2.1; show q.most ≤ _; omega, fun x hx => by cases hx⟩
theorem small_toS {q : St} {n m u : Nat} {k : Bool} (h : SmallQ q n) : SmallQ (toS q m k u) (n + 1) := ⟨by have := h.1; show q.st.length ≤ _; omega, by have := h.2.1; show q.most ≤ _; omega, fun x hx => by cases hx⟩
theorem small_toL {q : St} {n : Nat} {r : List Nat} (h : SmallQ q n) (hr : ∀ x ∈ r, 97 ≤ x) : SmallQ (toL q r) (n + 1) := ⟨by have := h.1; show q.st.length ≤ _; omega, by have := h.2.1; show q.most ≤ _; omega, hr⟩
theorem small_open {q : St} {n : Nat} {t : Bool} (h : SmallQ q n) : SmallQ (openB q t) (n + 1) := by
  refine ⟨?_, ?_, fun x hx => by cases hx⟩
  · show (t :: q.st).length ≤ _
    rw [List.length_cons]; have := h.1; omega
  · show max q.most (q.st.length + 1) ≤ _
    have := h.1; have := h.2.1; omega
theorem small_close {q : St} {n : Nat} (h : SmallQ q n) : SmallQ (closeB q) (n + 1) := by
  refine ⟨?_, by have := h.2.1; show q.most ≤ _; omega, fun x hx => by cases hx⟩
  show q.st.tail.length ≤ _
  rw [List.length_tail]; have := h.1; omega
theorem small_beh {q q' : St} {n c : Nat} (h : SmallQ q n) (hd : stepBeh q c = some q') : SmallQ q' (n + 1) := by
  unfold stepBeh at hd
  split at hd
  · obtain rfl := Option.some.inj hd; exact small_to h
  · split at hd
    · cases hd
    · split at hd
      · obtain rfl := Option.some.inj hd; exact small_to h
      · split at hd
        · obtain rfl := Option.some.inj hd; exact small_close h
        · cases hd
theorem small_val {q q' : St} {n c : Nat} (h : SmallQ q n) (hd : stepVal q c = some q') : SmallQ q' (n + 1) := by
  unfold stepVal at hd
  repeat' split at hd
  all_goals first
    | (cases hd; done)
    | (obtain rfl := Option.some.inj hd
       first
       | exact small_to h
       | exact small_toS h
       | exact small_open h
       | exact small_toL h (by decide))
theorem small_key {q q' : St} {n c : Nat} (h : SmallQ q n) (hd : stepKey q c = some q') : SmallQ q' (n + 1) := by
  unfold stepKey at hd
  repeat' split at hd
  all_goals first
    | (cases hd; done)
    | (obtain rfl := Option.some.inj hd
       first
       | exact small_to h
       | exact small_toS h)
theorem small_step {q q' : St} {n c : Nat} (h : SmallQ q n) (hd : delta q c = some q') : SmallQ q' (n + 1) := by
  unfold delta at hd
  split at hd
  · exact small_val h hd
  · split at hd
    · obtain rfl := Option.some.inj hd; exact small_to h
    · split at hd
      · obtain rfl := Option.some.inj hd; exact small_close h
      · exact small_val h hd
  · split at hd
    · obtain rfl := Option.some.inj hd; exact small_to h
    · split at hd
      · obtain rfl := Option.some.inj hd; exact small_close h
      · exact small_key h hd
  · exact small_key h hd
  · split at hd
    · obtain rfl := Option.some.inj hd; exact small_to h
    · split at hd
      · obtain rfl := Option.some.inj hd; exact small_to h
      · cases hd
  · exact small_beh h hd
  · unfold stepStr at hd
    repeat' split at hd
    all_goals first
      | (cases hd; done)
      | (obtain rfl := Option.some.inj hd
         first
         | exact small_to h
         | exact small_toS h)
  · unfold stepEsc at hd
    repeat' split at hd
    all_goals first
      | (cases hd; done)
      | (obtain rfl := Option.some.inj hd; exact small_toS h)
  · split at hd
    · obtain rfl := Option.some.inj hd
      split
      · exact small_toS h
      · exact small_toS h
    · cases hd
  · unfold stepLit at hd
    split at hd
    · cases hd
    · rename_i x r hr
      split at hd
      · obtain rfl := Option.some.inj hd
        split
        · exact small_to h
        · exact small_toL h (fun y hy => h.2.2 y (by rw [hr]; exact List.mem_cons_of_mem _ hy))
      · cases hd
  all_goals
    (repeat' split at hd)
    all_goals first
      | (cases hd; done)
      | exact small_beh h hd
      | (obtain rfl := Option.some.inj hd; exact small_to h)
theorem small_go : ∀ (l : List Nat) (q : St) (a : Nat), SmallQ q a → SmallQ (goA q l a).1 (goA q l a).2
  | [], q, a, h => h
  | c :: l, q, a, h => by
    simp only [goA]
    cases hd : delta q c with
    | none => exact h
    | some q' => exact small_go l q' (a + 1) (small_step h hd)
theorem small_start : SmallQ start 0 := ⟨Nat.le_refl _, Nat.le_refl _, fun x hx => by cases hx⟩

/-- Blanks never end a text that wasn't one. -/
theorem blank_cases {c : Nat} (h : blank c = true) : c = 32 ∨ c = 9 ∨ c = 10 ∨ c = 13 := (blank_iff c).1 h
theorem fin_iff (q : St) : fin q = true ↔ q.st = [] ∧ (q.m = 5 ∨ q.m = 11 ∨ q.m = 12 ∨ q.m = 14 ∨ q.m = 17) := by
  unfold fin
  rw [Bool.and_eq_true, List.isEmpty_iff]
  simp [or_assoc]
end Go.Proofs.YtgpbpgpolpakjaaGreatDoor.L

/- Plain laws of verdicts: a text within brackets; many brackets; blanks about a text. No program in sight. -/

set_option linter.unusedVariables false
set_option linter.unusedSimpArgs false
namespace Go.Proofs.YtgpbpgpolpakjaaGreatDoor.L

/-- A text that is one, as a drive. -/
theorem goA_to_drive : ∀ (l : List Nat) (q : St) (a : Nat), (goA q l a).2 = a + l.length → drive q l = some (goA q l a).1
  | [], q, a, h => rfl
  | c :: l, q, a, h => by
    simp only [goA, drive] at h ⊢
    cases hd : delta q c with
    | none => rw [hd] at h; simp at h
    | some q' =>
      rw [hd] at h
      simp only [List.length_cons] at h ⊢
      exact goA_to_drive l q' (a + 1) (by omega)
end Go.Proofs.YtgpbpgpolpakjaaGreatDoor.L
