/- Proof text. -/
set_option linter.unusedVariables false
namespace Go.Proofs.YtgpbpgpolpakjaaGreatDoor.L
structure St where
 m : Nat
 k : Bool
 n : Nat
 rest : List Nat
 st : List Bool
 most : Nat
def blank (c : Nat) : Bool := c == 32 || c == 9 || c == 10 || c == 13
def digit (c : Nat) : Bool := decide (48 ≤ c) && decide (c ≤ 57)
def hexd (c : Nat) : Bool := (decide (48 ≤ c) && decide (c ≤ 57)) || (decide (97 ≤ c) && decide (c ≤ 102)) || (decide (65 ≤ c) && decide (c ≤ 70))
def zce (b : Nat) : Nat :=
 if b < 128 then 0 else if 194 ≤ b ∧ b ≤ 223 then 1 else if b = 224 then 4 else if b = 237 then 5 else if 225 ≤ b ∧ b ≤ 239 then 2
 else if b = 240 then 6 else if 241 ≤ b ∧ b ≤ 243 then 3 else if b = 244 then 7 else 8
def ulow (u : Nat) : Nat := if u = 4 then 160 else if u = 6 then 144 else 128
def z4q (u : Nat) : Nat := if u = 5 then 159 else if u = 7 then 143 else 191
def zfh (u : Nat) : Nat := if u = 4 ∨ u = 5 then 1 else if u = 6 ∨ u = 7 then 2 else if u = 1 ∨ u = 2 ∨ u = 3 then u - 1 else 8
def zaf (u b : Nat) : Nat := if u = 0 then zce b else if b < ulow u ∨ z4q u < b then 8 else zfh u
def zrh (q : St) (t : Bool) : St := ⟨if t then 2 else 1, false, 0, [], t :: q.st, max q.most (q.st.length + 1)⟩
def zh4 (q : St) : St := ⟨5, false, 0, [], q.st.tail, q.most⟩
def to (q : St) (m : Nat) : St := ⟨m, false, 0, [], q.st, q.most⟩
def toS (q : St) (m : Nat) (k : Bool) (n : Nat) : St := ⟨m, k, n, [], q.st, q.most⟩
def toL (q : St) (r : List Nat) : St := ⟨9, false, 0, r, q.st, q.most⟩
def zbq (q : St) (c : Nat) : Option St :=
 if blank c then some (to q 5)
 else match q.st with
  | [] => none
  | t :: _ => if c = 44 then some (to q (if t then 3 else 0)) else if (c = 93 ∧ t = false) ∨ (c = 125 ∧ t = true) then some (zh4 q) else none
def zb9 (q : St) (c : Nat) : Option St :=
 if blank c then some (to q 0)
 else if c = 91 then some (zrh q false) else if c = 123 then some (zrh q true)
 else if c = 34 then some (toS q 6 false 0)
 else if c = 110 then some (toL q [117, 108, 108]) else if c = 116 then some (toL q [114, 117, 101]) else if c = 102 then some (toL q [97, 108, 115, 101])
 else if c = 45 then some (to q 10) else if c = 48 then some (to q 11) else if digit c then some (to q 12) else none
def zc1 (q : St) (c : Nat) : Option St := if blank c then some (to q 3) else if c = 34 then some (toS q 6 true 0) else none
def zlb (q : St) (c : Nat) : Option St :=
 if q.n = 0 ∧ c < 32 then none else if q.n = 0 ∧ c = 34 then some (to q (if q.k then 4 else 5)) else if q.n = 0 ∧ c = 92 then some (toS q 7 q.k 0)
 else if 7 < zaf q.n c then none else some (toS q 6 q.k (zaf q.n c))
def zlc (q : St) (c : Nat) : Option St :=
 if c = 117 then some (toS q 8 q.k 4) else if c = 34 ∨ c = 92 ∨ c = 47 ∨ c = 98 ∨ c = 102 ∨ c = 110 ∨ c = 114 ∨ c = 116 then some (toS q 6 q.k 0) else none
def ze7 (q : St) (c : Nat) : Option St :=
 match q.rest with
 | [] => none
 | x :: r => if c = x then some (if r = [] then to q 5 else toL q r) else none
def delta (q : St) (c : Nat) : Option St :=
 match q.m with
 | 0 => zb9 q c
 | 1 => if blank c then some (to q 1) else if c = 93 then some (zh4 q) else zb9 q c
 | 2 => if blank c then some (to q 2) else if c = 125 then some (zh4 q) else zc1 q c
 | 3 => zc1 q c
 | 4 => if blank c then some (to q 4) else if c = 58 then some (to q 0) else none
 | 5 => zbq q c
 | 6 => zlb q c
 | 7 => zlc q c
 | 8 => if hexd c then some (if q.n = 1 then toS q 6 q.k 0 else toS q 8 q.k (q.n - 1)) else none
 | 9 => ze7 q c
 | 10 => if c = 48 then some (to q 11) else if digit c then some (to q 12) else none
 | 11 => if c = 46 then some (to q 13) else if c = 101 ∨ c = 69 then some (to q 15) else zbq q c
 | 12 => if digit c then some (to q 12) else if c = 46 then some (to q 13) else if c = 101 ∨ c = 69 then some (to q 15) else zbq q c
 | 13 => if digit c then some (to q 14) else none
 | 14 => if digit c then some (to q 14) else if c = 101 ∨ c = 69 then some (to q 15) else zbq q c
 | 15 => if c = 43 ∨ c = 45 then some (to q 16) else if digit c then some (to q 17) else none
 | 16 => if digit c then some (to q 17) else none
 | 17 => if digit c then some (to q 17) else zbq q c
 | _ => none
def fin (q : St) : Bool := q.st.isEmpty && (q.m == 5 || q.m == 11 || q.m == 12 || q.m == 14 || q.m == 17)
def drive : St → List Nat → Option St
 | q, [] => some q
 | q, c :: l => match delta q c with
   | none => none
   | some q' => drive q' l
def start : St := ⟨0, false, 0, [], [], 0⟩
end Go.Proofs.YtgpbpgpolpakjaaGreatDoor.L
set_option linter.unusedSimpArgs false
namespace Go.Proofs.YtgpbpgpolpakjaaGreatDoor.L
def at_ (l : List Nat) (i : Nat) : Nat := l[i]?.getD 0
theorem zju {l : List Nat} {i : Nat} (h : i < l.length) : l[i]? = some (at_ l i) := by
 unfold at_; rw [List.getElem?_eq_getElem h]; rfl
def Dr (l : List Nat) (q : St) (a : Nat) (q' : St) (b : Nat) : Prop := a ≤ b ∧ b ≤ l.length ∧ drive q ((l.drop a).take (b - a)) = some q'
theorem zjv (q : St) : ∀ (l m : List Nat) , drive q (l ++ m) = (drive q l).bind fun q' => drive q' m
 | [], m => rfl
 | c :: l, m => by
   simp only [List.cons_append, drive]
   cases h : delta q c with
   | none => rfl
   | some q' => exact zjv q' l m
theorem Dr.refl {l : List Nat} {q : St} {a : Nat} (h : a ≤ l.length) : Dr l q a q a := ⟨Nat.le_refl _, h, by rw [Nat.sub_self, List.take_zero]; rfl⟩
theorem Dr.trans {l : List Nat} {q q' q'' : St} {a b c : Nat} (h : Dr l q a q' b) (k : Dr l q' b q'' c) : Dr l q a q'' c := by
 refine ⟨Nat.le_trans h.1 k.1, k.2.1, ?_⟩
 have e : (l.drop a).take (c - a) = (l.drop a).take (b - a) ++ (l.drop b).take (c - b) := by
  have h1 := h.1
  have h2 := k.1
  rw [show c - a = (b - a) + (c - b) from by omega, List.take_add, List.drop_drop, show a + (b - a) = b from by omega]
 rw [e, zjv, h.2.2]; exact k.2.2
theorem Dr.step {l : List Nat} {q q' : St} {a : Nat} (h : a < l.length) (hd : delta q (at_ l a) = some q') : Dr l q a q' (a + 1) := by
 refine ⟨by omega, by omega, ?_⟩
 have e : (l.drop a).take (a + 1 - a) = [at_ l a] := by
  rw [show a + 1 - a = 1 from by omega]
  have : l.drop a = at_ l a :: l.drop (a + 1) := by
   have := zju h
   rw [List.getElem?_eq_getElem h] at this
   rw [List.drop_eq_getElem_cons h]
   injection this with this
   rw [this]
  rw [this]; rfl
 rw [e]; simp only [drive, hd]
theorem Dr.head {l : List Nat} {q q' : St} {a b : Nat} (h : Dr l q a q' b) (hab : a < b) : ∃ q1, delta q (at_ l a) = some q1 ∧ Dr l q1 (a + 1) q' b := by
 obtain ⟨h1, h2, h3⟩ := h
 have hl : l.drop a = at_ l a :: l.drop (a + 1) := by
  have h0 : a < l.length := by omega
  have := zju h0
  rw [List.getElem?_eq_getElem h0] at this
  rw [List.drop_eq_getElem_cons h0]
  injection this with this
  rw [this]
 rw [hl, show b - a = (b - (a + 1)) + 1 from by omega, List.take_succ_cons] at h3
 simp only [drive] at h3
 cases hd : delta q (at_ l a) with
 | none => rw [hd] at h3; cases h3
 | some q1 => rw [hd] at h3; exact ⟨q1, rfl, by omega, h2, h3⟩
def Like (l : List Nat) (b : Nat) (q q' : St) : Prop := (b < l.length → delta q (at_ l b) = delta q' (at_ l b)) ∧ fin q = fin q' ∧ q.most = q'.most
theorem Like.refl (l : List Nat) (b : Nat) (q : St) : Like l b q q := ⟨fun _ => rfl, rfl, rfl⟩
theorem Like.trans {l : List Nat} {b : Nat} {q q' q'' : St} (h : Like l b q q') (k : Like l b q' q'') : Like l b q q'' := ⟨fun hb => (h.1 hb).trans (k.1 hb), h.2.1.trans k.2.1, h.2.2.trans k.2.2⟩
def R (l : List Nat) (q : St) (a : Nat) (q' : St) (b : Nat) : Prop := ∃ q0, Dr l q a q0 b ∧ Like l b q0 q'
theorem R.of {l : List Nat} {q q' : St} {a b : Nat} (h : Dr l q a q' b) : R l q a q' b := ⟨q', h, Like.refl _ _ _⟩
theorem R.refl {l : List Nat} {q : St} {a : Nat} (h : a ≤ l.length) : R l q a q a := R.of (Dr.refl h)
theorem R.like {l : List Nat} {q q' q'' : St} {a b : Nat} (h : R l q a q' b) (k : Like l b q' q'') : R l q a q'' b := by
 obtain ⟨q0, h1, h2⟩ := h
 exact ⟨q0, h1, h2.trans k⟩
theorem R.trans {l : List Nat} {q q' q'' : St} {a b c : Nat} (h : R l q a q' b) (k : R l q' b q'' c) : R l q a q'' c := by
 obtain ⟨q0, h1, h2⟩ := h
 obtain ⟨q1, k1, k2⟩ := k
 rcases Nat.eq_or_lt_of_le k1.1 with e | e
 ·subst e
  have : q' = q1 := by
   have := k1.2.2
   rw [Nat.sub_self, List.take_zero] at this
   simpa [drive] using this
  subst this
  exact ⟨q0, h1, h2.trans k2⟩
 ·obtain ⟨q2, d1, d2⟩ := k1.head e
  have hb : b < l.length := by have := k1.2.1; omega
  exact ⟨q1, h1.trans ((Dr.step hb ((h2.1 hb).trans d1)).trans d2), k2⟩
theorem R.step {l : List Nat} {q q' q'' : St} {a b : Nat} (h : R l q a q' b) (hb : b < l.length) (hd : delta q' (at_ l b) = some q'') : R l q a q'' (b + 1) := h.trans (R.of (Dr.step hb hd))
theorem R.le {l : List Nat} {q q' : St} {a b : Nat} (h : R l q a q' b) : a ≤ b ∧ b ≤ l.length := by
 obtain ⟨q0, h1, _⟩ := h
 exact ⟨h1.1, h1.2.1⟩
def Dead (l : List Nat) (q : St) (b : Nat) : Prop := (b = l.length ∧ fin q = false) ∨ (b < l.length ∧ delta q (at_ l b) = none)
theorem Dead.like {l : List Nat} {q q' : St} {b : Nat} (h : Dead l q' b) (k : Like l b q q') : Dead l q b := by
 rcases h with ⟨h1, h2⟩ | ⟨h1, h2⟩
 ·exact Or.inl ⟨h1, k.2.1.trans h2⟩
 ·exact Or.inr ⟨h1, (k.1 h1).trans h2⟩
def goA : St → List Nat → Nat → St × Nat
 | q, [], p => (q, p)
 | q, c :: l, p => match delta q c with
   | none => (q, p)
   | some q' => goA q' l (p + 1)
theorem zjw : ∀ (l m : List Nat) (q q' : St) (p : Nat), drive q l = some q' → goA q (l ++ m) p = goA q' m (p + l.length)
 | [], m, q, q', p, h => by simp [drive] at h; subst h; rfl
 | c :: l, m, q, q', p, h => by
   simp only [drive] at h
   simp only [List.cons_append, goA]
   cases hd : delta q c with
   | none => rw [hd] at h; cases h
   | some q1 =>
     rw [hd] at h
     simp only []
     rw [zjw l m q1 q' (p + 1) h, List.length_cons, show p + 1 + l.length = p + (l.length + 1) from by omega]
theorem zrp {l : List Nat} {q : St} {b : Nat} (h : R l start 0 q b) (hd : Dead l q b) : ∃ q0, goA start l 0 = (q0, b) ∧ ¬ (b = l.length ∧ fin q0 = true) := by
 obtain ⟨q0, h1, h2⟩ := h
 have hd0 := hd.like h2
 refine ⟨q0, ?_, ?_⟩
 ·have e : l = (l.drop 0).take (b - 0) ++ l.drop b := by rw [List.drop_zero, Nat.sub_zero, List.take_append_drop]
  have hl : ((l.drop 0).take (b - 0)).length = b := by have := h1.2.1; rw [List.length_take, List.length_drop]; omega
  have := zjw _ (l.drop b) start q0 0 h1.2.2
  rw [← e, hl, Nat.zero_add] at this
  rw [this]
  rcases hd0 with ⟨e1, _⟩ | ⟨e1, e2⟩
  ·rw [List.drop_of_length_le (by omega)]; rfl
  ·have hdr : l.drop b = at_ l b :: l.drop (b + 1) := by
    have := zju e1
    rw [List.getElem?_eq_getElem e1] at this
    rw [List.drop_eq_getElem_cons e1]
    injection this with this
    rw [this]
   rw [hdr]; simp only [goA, e2]
 ·rintro ⟨e1, e2⟩
  rcases hd0 with ⟨_, h3⟩ | ⟨h3, _⟩
  ·rw [e2] at h3; cases h3
  ·omega
theorem zvz {l : List Nat} {q : St} (h : R l start 0 q l.length) (hf : fin q = true) : ∃ q0, goA start l 0 = (q0, l.length) ∧ fin q0 = true ∧ q0.most = q.most := by
 obtain ⟨q0, h1, h2⟩ := h
 refine ⟨q0, ?_, h2.2.1.trans hf, h2.2.2⟩
 have e : l = (l.drop 0).take (l.length - 0) ++ l.drop l.length := by rw [List.drop_zero, Nat.sub_zero, List.take_append_drop]
 have hl : ((l.drop 0).take (l.length - 0)).length = l.length := by rw [List.length_take, List.length_drop]; omega
 have := zjw _ (l.drop l.length) start q0 0 h1.2.2
 rw [← e, hl, Nat.zero_add, List.drop_length] at this
 exact this
end Go.Proofs.YtgpbpgpolpakjaaGreatDoor.L
namespace Go.Proofs.YtgpbpgpolpakjaaGreatDoor.L
def Goes (l : List Nat) (q : St) (k : Nat) (ok : Bool) (q' : St) (k' : Nat) : Prop := (ok = true ∧ R l q k q' k') ∨ (ok = false ∧ ∃ q'', R l q k q'' k' ∧ Dead l q'' k')
theorem Goes.done {l : List Nat} {q q' : St} {k k' : Nat} (h : R l q k q' k') : Goes l q k true q' k' := Or.inl ⟨rfl, h⟩
theorem Goes.fail {l : List Nat} {q q'' : St} {k k' : Nat} (q' : St) (h : R l q k q'' k') (hd : Dead l q'' k') : Goes l q k false q' k' := Or.inr ⟨rfl, q'', h, hd⟩
theorem Goes.pre {l : List Nat} {q q1 q' : St} {k k1 k' : Nat} {ok : Bool} (h : R l q k q1 k1) (g : Goes l q1 k1 ok q' k') : Goes l q k ok q' k' := by
 rcases g with ⟨e, r⟩ | ⟨e, q'', r, d⟩
 ·exact Or.inl ⟨e, h.trans r⟩
 ·exact Or.inr ⟨e, q'', h.trans r, d⟩
theorem Goes.le {l : List Nat} {q q' : St} {k k' : Nat} {ok : Bool} (g : Goes l q k ok q' k') : k ≤ k' ∧ k' ≤ l.length := by
 rcases g with ⟨_, r⟩ | ⟨_, _, r, _⟩
 ·exact r.le
 ·exact r.le
theorem zcs {l : List Nat} {q : St} {k : Nat} (hk : k ≤ l.length) (h1 : k < l.length → delta q (at_ l k) = none) (h2 : fin q = false) : Dead l q k := by
 rcases Nat.lt_or_ge k l.length with h | h
 ·exact Or.inr ⟨h, h1 h⟩
 ·exact Or.inl ⟨by omega, h2⟩
theorem zgz {l : List Nat} {q q' : St} {k : Nat} (h1 : k < l.length → delta q (at_ l k) = delta q' (at_ l k)) (h2 : fin q = fin q') (h3 : q.most = q'.most) : Like l k q q' := ⟨h1, h2, h3⟩
theorem zb3 {l : List Nat} {k : Nat} (h : at_ l k ≠ 0) : k < l.length := by
 rcases Nat.lt_or_ge k l.length with h1 | h1
 ·exact h1
 ·exact absurd (by unfold at_; rw [List.getElem?_eq_none h1]; rfl) h
theorem zjx {l : List Nat} {q1 : St} (hd : ∀ c, digit c = true → delta q1 c = some q1) {a b : Nat} (hab : a ≤ b) (hb : b ≤ l.length) (h : ∀ i, a ≤ i → i < b → digit (at_ l i) = true) : Dr l q1 a q1 b := by
 obtain ⟨n, rfl⟩ : ∃ n, b = a + n := ⟨b - a, by omega⟩
 induction n with
 | zero => exact Dr.refl (by omega)
 | succ n ih =>
   have h1 := ih (by omega) (by omega) (fun i h2 h3 => h i h2 (by omega))
   exact h1.trans (Dr.step (by omega) (hd _ (h _ (by omega) (by omega))))
theorem zuq {l : List Nat} {q q1 : St} (h0 : ∀ c, digit c = true → (c = 48 → False) → delta q c = some q1) (hd : ∀ c, digit c = true → delta q1 c = some q1) {a b : Nat} (hab : a < b) (hb : b ≤ l.length) (h : ∀ i, a ≤ i → i < b → digit (at_ l i) = true) (hz : at_ l a ≠ 48) : R l q a q1 b :=
 (R.of (Dr.step (by omega) (h0 _ (h a (Nat.le_refl _) hab) hz))).trans (R.of (zjx hd (by omega) hb (fun i h1 h2 => h i (by omega) h2)))
theorem zjy {l : List Nat} {q q1 : St} (h0 : ∀ c, digit c = true → delta q c = some q1) (hd : ∀ c, digit c = true → delta q1 c = some q1) {a b : Nat} (hab : a < b) (hb : b ≤ l.length) (h : ∀ i, a ≤ i → i < b → digit (at_ l i) = true) : R l q a q1 b :=
 (R.of (Dr.step (by omega) (h0 _ (h a (Nat.le_refl _) hab)))).trans (R.of (zjx hd (by omega) hb (fun i h1 h2 => h i (by omega) h2)))
theorem zf7 (c : Nat) : digit c = true ↔ 48 ≤ c ∧ c ≤ 57 := by unfold digit; simp
theorem zjz (c : Nat) : digit c = false ↔ c < 48 ∨ 57 < c := by
 unfold digit
 rw [Bool.and_eq_false_iff, decide_eq_false_iff_not, decide_eq_false_iff_not]; omega
theorem zpo (c : Nat) : blank c = true ↔ c = 32 ∨ c = 9 ∨ c = 10 ∨ c = 13 := by unfold blank; simp [or_assoc]
theorem zpp (c : Nat) : blank c = false ↔ c ≠ 32 ∧ c ≠ 9 ∧ c ≠ 10 ∧ c ≠ 13 := by unfold blank; simp [and_assoc]
def numb (c : Nat) : Prop := blank c = false ∧ c ≠ 91 ∧ c ≠ 123 ∧ c ≠ 34 ∧ c ≠ 110 ∧ c ≠ 116 ∧ c ≠ 102
theorem zit {c : Nat} (q : St) (h : numb c) : zb9 q c = if c = 45 then some (to q 10) else if c = 48 then some (to q 11) else if digit c then some (to q 12) else none := by
 obtain ⟨h1, h2, h3, h4, h5, h6, h7⟩ := h
 unfold zb9
 rw [h1, if_neg (by simp), if_neg h2, if_neg h3, if_neg h4, if_neg h5, if_neg h6, if_neg h7]
theorem zm1 {c : Nat} (h : digit c = true) : numb c := by
 have := (zf7 c).1 h
 refine ⟨(zpp c).2 ⟨?_, ?_, ?_, ?_⟩, ?_, ?_, ?_, ?_, ?_, ?_⟩ <;> omega
theorem z4x : numb 45 := by refine ⟨by decide, ?_, ?_, ?_, ?_, ?_, ?_⟩ <;> omega
theorem zj0 {l : List Nat} {q : St} {p : Nat} (h : at_ l p = 45) : R l (to q 0) p (to q 10) (p + 1) := by
 refine R.of (Dr.step (zb3 (by omega)) ?_)
 show zb9 _ _ = _
 rw [h, zit _ z4x]; rfl
theorem zmc {l : List Nat} {q : St} {p M : Nat} (hM : M = 0 ∨ M = 10) (h : at_ l p = 48) : R l (to q M) p (to q 11) (p + 1) := by
 refine R.of (Dr.step (zb3 (by omega)) ?_)
 rcases hM with rfl | rfl
 ·show zb9 _ _ = _
  rw [h, zit _ (zm1 (by decide))]; rfl
 ·show (if at_ l p = 48 then some _ else _) = _
  rw [if_pos h]; rfl
theorem zom {l : List Nat} {q : St} {p p' M : Nat} (hM : M = 0 ∨ M = 10) (hz : at_ l p ≠ 48) (hpp : p < p') (hp' : p' ≤ l.length) (h : ∀ i, p ≤ i → i < p' → digit (at_ l i) = true) : R l (to q M) p (to q 12) p' := by
 refine zuq (q1 := to q 12) (fun c hc hz => ?_) (fun c hc => ?_) hpp hp' h hz
 ·rcases hM with rfl | rfl
  ·show zb9 _ _ = _
   have h45 : ¬ c = 45 := by have := (zf7 c).1 hc; omega
   rw [zit _ (zm1 hc), if_neg h45, if_neg hz, if_pos hc]; rfl
  ·show (if c = 48 then some _ else if digit c then some _ else none) = _
   rw [if_neg hz, if_pos hc]; rfl
 ·show (if digit c then some _ else _) = _
  rw [if_pos hc]; rfl
theorem zmd {l : List Nat} {q : St} {p M : Nat} (hM : (M = 0 ∧ at_ l p ≠ 45 ∧ numb (at_ l p)) ∨ M = 10) (hp : p ≤ l.length) (h : digit (at_ l p) = false) : Dead l (to q M) p := by
 have hz : at_ l p ≠ 48 := by have := (zjz _).1 h; omega
 refine zcs hp (fun _ => ?_) (by rcases hM with ⟨rfl, _⟩ | rfl <;> exact Bool.and_false _)
 rcases hM with ⟨rfl, h45, hn⟩ | rfl
 ·show zb9 _ _ = _
  rw [zit _ hn, if_neg h45, if_neg hz, if_neg (by rw [h]; simp)]
 ·show (if at_ l p = 48 then some _ else if digit (at_ l p) then some _ else none) = _
  rw [if_neg hz, if_neg (by rw [h]; simp)]
theorem zh5 {l : List Nat} {q : St} {p M : Nat} (hM : M = 11 ∨ M = 12) (h : at_ l p = 46) : R l (to q M) p (to q 13) (p + 1) := by
 refine R.of (Dr.step (zb3 (by omega)) ?_)
 rw [h]
 rcases hM with rfl | rfl <;> rfl
theorem zg2 {l : List Nat} {q : St} {p p' : Nat} (hpp : p < p') (hp' : p' ≤ l.length) (h : ∀ i, p ≤ i → i < p' → digit (at_ l i) = true) : R l (to q 13) p (to q 14) p' := by
 refine zjy (q1 := to q 14) (fun c hc => ?_) (fun c hc => ?_) hpp hp' h
 ·show (if digit c then some _ else _) = _
  rw [if_pos hc]; rfl
 ·show (if digit c then some _ else _) = _
  rw [if_pos hc]; rfl
theorem zds {l : List Nat} {q : St} {p : Nat} (hp : p ≤ l.length) (h : digit (at_ l p) = false) : Dead l (to q 13) p := by
 refine zcs hp (fun _ => ?_) (Bool.and_false _)
 show (if digit (at_ l p) then some _ else none) = _
 rw [if_neg (by rw [h]; simp)]
theorem zei {l : List Nat} {q : St} {p M : Nat} (hM : M = 11 ∨ M = 12 ∨ M = 14) (h : at_ l p = 101 ∨ at_ l p = 69) : R l (to q M) p (to q 15) (p + 1) := by
 refine R.of (Dr.step (zb3 (by omega)) ?_)
 rcases hM with rfl | rfl | rfl <;> rcases h with h | h <;> rw [h] <;> rfl
theorem zdn {l : List Nat} {q : St} {p : Nat} (h : at_ l p = 43 ∨ at_ l p = 45) : R l (to q 15) p (to q 16) (p + 1) := by
 refine R.of (Dr.step (zb3 (by omega)) ?_)
 rcases h with h | h <;> rw [h] <;> rfl
theorem zbp {l : List Nat} {q : St} {p p' M : Nat} (hM : M = 15 ∨ M = 16) (hpp : p < p') (hp' : p' ≤ l.length) (h : ∀ i, p ≤ i → i < p' → digit (at_ l i) = true) : R l (to q M) p (to q 17) p' := by
 refine zjy (q1 := to q 17) (fun c hc => ?_) (fun c hc => ?_) hpp hp' h
 ·have h2 := (zf7 c).1 hc
  rcases hM with rfl | rfl
  ·show (if c = 43 ∨ c = 45 then some _ else if digit c then some _ else none) = _
   rw [if_neg (by omega), if_pos hc]; rfl
  ·show (if digit c then some _ else none) = _
   rw [if_pos hc]; rfl
 ·show (if digit c then some _ else _) = _
  rw [if_pos hc]; rfl
theorem zal {l : List Nat} {q : St} {p M : Nat} (hM : (M = 15 ∧ at_ l p ≠ 43 ∧ at_ l p ≠ 45) ∨ M = 16) (hp : p ≤ l.length) (h : digit (at_ l p) = false) : Dead l (to q M) p := by
 refine zcs hp (fun _ => ?_) (by rcases hM with ⟨rfl, _⟩ | rfl <;> exact Bool.and_false _)
 rcases hM with ⟨rfl, h1, h2⟩ | rfl
 ·show (if at_ l p = 43 ∨ at_ l p = 45 then some _ else if digit (at_ l p) then some _ else none) = _
  rw [if_neg (by omega), if_neg (by rw [h]; simp)]
 ·show (if digit (at_ l p) then some _ else none) = _
  rw [if_neg (by rw [h]; simp)]
theorem za2 {l : List Nat} {q : St} {p M : Nat} (h : (M = 11 ∧ at_ l p ≠ 46 ∧ at_ l p ≠ 101 ∧ at_ l p ≠ 69) ∨ (M = 12 ∧ digit (at_ l p) = false ∧ at_ l p ≠ 46 ∧ at_ l p ≠ 101 ∧ at_ l p ≠ 69) ∨ (M = 14 ∧ digit (at_ l p) = false ∧ at_ l p ≠ 101 ∧ at_ l p ≠ 69) ∨ (M = 17 ∧ digit (at_ l p) = false)) :
  Like l p (to q M) (to q 5) := by
 rcases h with ⟨rfl, h1, h2, h3⟩ | ⟨rfl, h0, h1, h2, h3⟩ | ⟨rfl, h0, h2, h3⟩ | ⟨rfl, h0⟩
 ·refine zgz (fun _ => ?_) rfl rfl
  show (if at_ l p = 46 then some _ else if at_ l p = 101 ∨ at_ l p = 69 then some _ else zbq _ _) = _
  rw [if_neg h1, if_neg (by omega)]; rfl
 ·refine zgz (fun _ => ?_) rfl rfl
  show (if digit (at_ l p) then some _ else if at_ l p = 46 then some _ else if at_ l p = 101 ∨ at_ l p = 69 then some _ else zbq _ _) = _
  rw [if_neg (by rw [h0]; simp), if_neg h1, if_neg (by omega)]; rfl
 ·refine zgz (fun _ => ?_) rfl rfl
  show (if digit (at_ l p) then some _ else if at_ l p = 101 ∨ at_ l p = 69 then some _ else zbq _ _) = _
  rw [if_neg (by rw [h0]; simp), if_neg (by omega)]; rfl
 ·refine zgz (fun _ => ?_) rfl rfl
  show (if digit (at_ l p) then some _ else zbq _ _) = _
  rw [if_neg (by rw [h0]; simp)]; rfl
theorem zrq {l r : List Nat} {q : St} (k : Nat) (x : Nat) (us : List Nat) (hx : at_ l k = x) (hk : k < l.length) (h0 : us ≠ []) (hd : delta q x = some (toL q us)) : ∀ j, j ≤ us.length → (∀ i, i < j → k + 1 + i < l.length ∧ at_ l (k + 1 + i) = us[i]?.getD 0) → R l q k (if j = us.length then to q 5 else toL q (us.drop j)) (k + 1 + j)
 | 0, h1, h2 => by
   rw [if_neg (by intro e; exact h0 (List.eq_nil_of_length_eq_zero e.symm)), List.drop_zero]
   exact R.of (Dr.step hk (by rw [hx]; exact hd))
 | j + 1, h1, h2 => by
   have h3 := zrq (r := r) k x us hx hk h0 hd j (by omega) (fun i hi => h2 i (by omega))
   obtain ⟨h4, h5⟩ := h2 j (by omega)
   rw [if_neg (by omega)] at h3
   refine h3.step h4 ?_
   show ze7 _ _ = _
   have e : us.drop j = us[j]'(by omega) :: us.drop (j + 1) := List.drop_eq_getElem_cons (by omega)
   unfold ze7
   show (match (us.drop j) with | [] => none | x :: r => if at_ l (k + 1 + j) = x then some (if r = [] then to (toL q (us.drop j)) 5 else toL (toL q (us.drop j)) r) else none) = _
   rw [e]
   simp only []
   rw [h5, List.getElem?_eq_getElem (show j < us.length by omega), Option.getD_some, if_pos rfl]
   by_cases hj : j + 1 = us.length
   ·rw [if_pos hj, if_pos (List.drop_eq_nil_of_le (by omega))]; rfl
   ·rw [if_neg hj, if_neg (by intro e2; have := congrArg List.length e2; rw [List.length_drop] at this; simp at this; omega)]; rfl
theorem z1f {l : List Nat} {q : St} (k : Nat) (us : List Nat) {j : Nat} (hj : j < us.length) (hk : k ≤ l.length) (h : at_ l k ≠ us[j]?.getD 0) : Dead l (toL q (us.drop j)) k := by
 refine zcs hk (fun _ => ?_) (Bool.and_false _)
 show ze7 _ _ = _
 have e : us.drop j = us[j]'(by omega) :: us.drop (j + 1) := List.drop_eq_getElem_cons (by omega)
 unfold ze7
 show (match (us.drop j) with | [] => none | x :: r => if at_ l k = x then some (if r = [] then to (toL q (us.drop j)) 5 else toL (toL q (us.drop j)) r) else none) = _
 rw [e]
 simp only []
 rw [List.getElem?_eq_getElem hj, Option.getD_some] at h
 rw [if_neg h]
end Go.Proofs.YtgpbpgpolpakjaaGreatDoor.L
namespace Go.Proofs.YtgpbpgpolpakjaaGreatDoor.L
def Q (M : Nat) (st : List Bool) (m : Nat) : St := ⟨M, false, 0, [], st, m⟩
theorem zw8 {l : List Nat} {q1 : St} (P : Nat → Bool) (hd : ∀ c, P c = true → delta q1 c = some q1) {a b : Nat} (hab : a ≤ b) (hb : b ≤ l.length) (h : ∀ i, a ≤ i → i < b → P (at_ l i) = true) : Dr l q1 a q1 b := by
 obtain ⟨n, rfl⟩ : ∃ n, b = a + n := ⟨b - a, by omega⟩
 induction n with
 | zero => exact Dr.refl (by omega)
 | succ n ih =>
   have h1 := ih (by omega) (by omega) (fun i h2 h3 => h i h2 (by omega))
   exact h1.trans (Dr.step (by omega) (hd _ (h _ (by omega) (by omega))))
theorem zur {M : Nat} (hM : M ≤ 5) (st : List Bool) (m c : Nat) (h : blank c = true) : delta (Q M st m) c = some (Q M st m) := by
 have hc : M = 0 ∨ M = 1 ∨ M = 2 ∨ M = 3 ∨ M = 4 ∨ M = 5 := by omega
 rcases hc with rfl | rfl | rfl | rfl | rfl | rfl
 ·show zb9 _ _ = _
  unfold zb9; rw [if_pos h]; rfl
 ·show (if blank c then _ else _) = _
  rw [if_pos h]; rfl
 ·show (if blank c then _ else _) = _
  rw [if_pos h]; rfl
 ·show zc1 _ _ = _
  unfold zc1; rw [if_pos h]; rfl
 ·show (if blank c then _ else _) = _
  rw [if_pos h]; rfl
 ·show zbq _ _ = _
  unfold zbq; rw [if_pos h]; rfl
theorem zcm {l : List Nat} {M k k' : Nat} (hM : M ≤ 5) (st : List Bool) (m : Nat) (h1 : k ≤ k') (h2 : k' ≤ l.length) (h : ∀ i, k ≤ i → i < k' → blank (at_ l i) = true) : R l (Q M st m) k (Q M st m) k' :=
 R.of (zw8 blank (fun c hc => zur hM st m c hc) h1 h2 h)
section
variable {l : List Nat} {k k' : Nat} {st : List Bool} {m : Nat} {ok : Bool}
theorem open_arr (h : at_ l k = 91) : R l (Q 0 st m) k (Q 1 (false :: st) (max m (st.length + 1))) (k + 1) := R.of (Dr.step (zb3 (by omega)) (by rw [h]; rfl))
theorem zrr (h : at_ l k = 123) : R l (Q 0 st m) k (Q 2 (true :: st) (max m (st.length + 1))) (k + 1) := R.of (Dr.step (zb3 (by omega)) (by rw [h]; rfl))
theorem zm2 (hb : blank (at_ l k) = false) (h : at_ l k ≠ 93) : Like l k (Q 1 st m) (Q 0 st m) := by
 refine zgz (fun _ => ?_) ?_ rfl
 ·show (if blank (at_ l k) then _ else if at_ l k = 93 then _ else zb9 _ _) = zb9 _ _
  rw [if_neg (by rw [hb]; simp), if_neg h]; rfl
 ·show (_ && false) = (_ && false); rw [Bool.and_false, Bool.and_false]
theorem zlq (hb : blank (at_ l k) = false) (h : at_ l k ≠ 125) : Like l k (Q 2 st m) (Q 3 st m) := by
 refine zgz (fun _ => ?_) ?_ rfl
 ·show (if blank (at_ l k) then _ else if at_ l k = 125 then _ else zc1 _ _) = zc1 _ _
  rw [if_neg (by rw [hb]; simp), if_neg h]; rfl
 ·show (_ && false) = (_ && false); rw [Bool.and_false, Bool.and_false]
theorem zlr (t : Bool) (h : at_ l k = 93) : delta (Q 1 (t :: st) m) (at_ l k) = some (Q 5 st m) := by rw [h]; rfl
theorem zj1 (t : Bool) (h : at_ l k = 125) : delta (Q 2 (t :: st) m) (at_ l k) = some (Q 5 st m) := by rw [h]; rfl
theorem zrs (hk : k ≤ l.length) (hb : blank (at_ l k) = false) (h : at_ l k ≠ 34) : Dead l (Q 3 st m) k := by
 refine zcs hk (fun _ => ?_) (Bool.and_false _)
 show zc1 _ _ = _
 unfold zc1
 rw [if_neg (by rw [hb]; simp), if_neg h]
theorem zrt (h : at_ l k = 34) : R l (Q 3 st m) k (toS (Q 3 st m) 6 true 0) (k + 1) := R.of (Dr.step (zb3 (by omega)) (by rw [h]; rfl))
theorem zv0 (h : at_ l k = 58) : R l (Q 4 st m) k (Q 0 st m) (k + 1) := R.of (Dr.step (zb3 (by omega)) (by rw [h]; rfl))
theorem zm3 (hk : k ≤ l.length) (hb : blank (at_ l k) = false) (h : at_ l k ≠ 58) : Dead l (Q 4 st m) k := by
 refine zcs hk (fun _ => ?_) (Bool.and_false _)
 show (if blank (at_ l k) then _ else if at_ l k = 58 then _ else none) = _
 rw [if_neg (by rw [hb]; simp), if_neg h]
theorem zv1 (m : Nat) : fin (Q 5 [] m) = true := rfl
theorem zpq (hk : k < l.length) (hb : blank (at_ l k) = false) : Dead l (Q 5 [] m) k := by
 refine Or.inr ⟨hk, ?_⟩
 show zbq _ _ = _
 unfold zbq
 rw [if_neg (by rw [hb]; simp)]; rfl
theorem z1g (t : Bool) (c : Nat) (hb : blank c = false) : delta (Q 5 (t :: st) m) c = (if c = 44 then some (Q (if t then 3 else 0) (t :: st) m) else if (c = 93 ∧ t = false) ∨ (c = 125 ∧ t = true) then some (Q 5 st m) else none) := by
 show zbq _ _ = _
 unfold zbq
 rw [if_neg (by rw [hb]; simp)]; rfl
theorem zv2 (h : at_ l k = 44) : R l (Q 5 (true :: st) m) k (Q 3 (true :: st) m) (k + 1) := R.of (Dr.step (zb3 (by omega)) (by rw [h]; rfl))
theorem zv3 (h : at_ l k = 44) : R l (Q 5 (false :: st) m) k (Q 0 (false :: st) m) (k + 1) := R.of (Dr.step (zb3 (by omega)) (by rw [h]; rfl))
theorem zj2 {t : Bool} (h : (at_ l k = 93 ∧ t = false) ∨ (at_ l k = 125 ∧ t = true)) : delta (Q 5 (t :: st) m) (at_ l k) = some (Q 5 st m) := by
 rcases h with ⟨h, rfl⟩ | ⟨h, rfl⟩ <;> (rw [h]; rfl)
theorem ziu {t : Bool} (hk : k ≤ l.length) (hb : blank (at_ l k) = false) (h1 : at_ l k ≠ 44) (h2 : ¬ ((at_ l k = 93 ∧ t = false) ∨ (at_ l k = 125 ∧ t = true))) : Dead l (Q 5 (t :: st) m) k := by
 refine zcs hk (fun _ => ?_) rfl
 rw [z1g t _ hb, if_neg h1, if_neg h2]
end
end Go.Proofs.YtgpbpgpolpakjaaGreatDoor.L
namespace Go.Proofs.YtgpbpgpolpakjaaGreatDoor.L
theorem zru : ∀ (l : List Nat) (q : St) (a : Nat), a ≤ (goA q l a).2 ∧ (goA q l a).2 ≤ a + l.length
 | [], q, a => by simp [goA]
 | c :: l, q, a => by
   simp only [goA]
   cases h : delta q c with
   | none => simp
   | some q' =>
     have := zru l q' (a + 1)
     simp only [List.length_cons]; omega
def zbx (q : St) (n : Nat) : Prop := q.st.length ≤ n ∧ q.most ≤ n ∧ (∀ x ∈ q.rest, 97 ≤ x)
theorem zct {q : St} {n m : Nat} (h : zbx q n) : zbx (to q m) (n + 1) := ⟨by have := h.1; show q.st.length ≤ _; omega, by have := h.2.1; show q.most ≤ _; omega, fun x hx => by cases hx⟩
theorem ze8 {q : St} {n m u : Nat} {k : Bool} (h : zbx q n) : zbx (toS q m k u) (n + 1) := ⟨by have := h.1; show q.st.length ≤ _; omega, by have := h.2.1; show q.most ≤ _; omega, fun x hx => by cases hx⟩
theorem zpr {q : St} {n : Nat} {r : List Nat} (h : zbx q n) (hr : ∀ x ∈ r, 97 ≤ x) : zbx (toL q r) (n + 1) := ⟨by have := h.1; show q.st.length ≤ _; omega, by have := h.2.1; show q.most ≤ _; omega, hr⟩
theorem zw9 {q : St} {n : Nat} {t : Bool} (h : zbx q n) : zbx (zrh q t) (n + 1) := by
 refine ⟨?_, ?_, fun x hx => by cases hx⟩
 ·show (t :: q.st).length ≤ _
  rw [List.length_cons]; have := h.1; omega
 ·show max q.most (q.st.length + 1) ≤ _
  have := h.1; have := h.2.1; omega
theorem zhx {q : St} {n : Nat} (h : zbx q n) : zbx (zh4 q) (n + 1) := by
 refine ⟨?_, by have := h.2.1; show q.most ≤ _; omega, fun x hx => by cases hx⟩
 show q.st.tail.length ≤ _
 rw [List.length_tail]; have := h.1; omega
theorem zps {q q' : St} {n c : Nat} (h : zbx q n) (hd : zbq q c = some q') : zbx q' (n + 1) := by
 unfold zbq at hd
 split at hd
 ·obtain rfl := Option.some.inj hd; exact zct h
 ·split at hd
  ·cases hd
  ·split at hd
   ·obtain rfl := Option.some.inj hd; exact zct h
   ·split at hd
    ·obtain rfl := Option.some.inj hd; exact zhx h
    ·cases hd
theorem zpt {q q' : St} {n c : Nat} (h : zbx q n) (hd : zb9 q c = some q') : zbx q' (n + 1) := by
 unfold zb9 at hd
 repeat' split at hd
 all_goals first
  | (cases hd; done)
  | (obtain rfl := Option.some.inj hd
     first
     | exact zct h
     | exact ze8 h
     | exact zw9 h
     | exact zpr h (by decide))
theorem zpu {q q' : St} {n c : Nat} (h : zbx q n) (hd : zc1 q c = some q') : zbx q' (n + 1) := by
 unfold zc1 at hd
 repeat' split at hd
 all_goals first
  | (cases hd; done)
  | (obtain rfl := Option.some.inj hd
     first
     | exact zct h
     | exact ze8 h)
theorem zxa {q q' : St} {n c : Nat} (h : zbx q n) (hd : delta q c = some q') : zbx q' (n + 1) := by
 unfold delta at hd
 split at hd
 ·exact zpt h hd
 ·split at hd
  ·obtain rfl := Option.some.inj hd; exact zct h
  ·split at hd
   ·obtain rfl := Option.some.inj hd; exact zhx h
   ·exact zpt h hd
 ·split at hd
  ·obtain rfl := Option.some.inj hd; exact zct h
  ·split at hd
   ·obtain rfl := Option.some.inj hd; exact zhx h
   ·exact zpu h hd
 ·exact zpu h hd
 ·split at hd
  ·obtain rfl := Option.some.inj hd; exact zct h
  ·split at hd
   ·obtain rfl := Option.some.inj hd; exact zct h
   ·cases hd
 ·exact zps h hd
 ·unfold zlb at hd
  repeat' split at hd
  all_goals first
   | (cases hd; done)
   | (obtain rfl := Option.some.inj hd
      first
      | exact zct h
      | exact ze8 h)
 ·unfold zlc at hd
  repeat' split at hd
  all_goals first
   | (cases hd; done)
   | (obtain rfl := Option.some.inj hd; exact ze8 h)
 ·split at hd
  ·obtain rfl := Option.some.inj hd
   split
   ·exact ze8 h
   ·exact ze8 h
  ·cases hd
 ·unfold ze7 at hd
  split at hd
  ·cases hd
  ·rename_i x r hr
   split at hd
   ·obtain rfl := Option.some.inj hd
    split
    ·exact zct h
    ·exact zpr h (fun y hy => h.2.2 y (by rw [hr]; exact List.mem_cons_of_mem _ hy))
   ·cases hd
 all_goals
  (repeat' split at hd)
  all_goals first
   | (cases hd; done)
   | exact zps h hd
   | (obtain rfl := Option.some.inj hd; exact zct h)
theorem zrv : ∀ (l : List Nat) (q : St) (a : Nat), zbx q a → zbx (goA q l a).1 (goA q l a).2
 | [], q, a, h => h
 | c :: l, q, a, h => by
   simp only [goA]
   cases hd : delta q c with
   | none => exact h
   | some q' => exact zrv l q' (a + 1) (zxa h hd)
theorem zus : zbx start 0 := ⟨Nat.le_refl _, Nat.le_refl _, fun x hx => by cases hx⟩
theorem zut {c : Nat} (h : blank c = true) : c = 32 ∨ c = 9 ∨ c = 10 ∨ c = 13 := (zpo c).1 h
theorem z4y (q : St) : fin q = true ↔ q.st = [] ∧ (q.m = 5 ∨ q.m = 11 ∨ q.m = 12 ∨ q.m = 14 ∨ q.m = 17) := by
 unfold fin
 rw [Bool.and_eq_true, List.isEmpty_iff]
 simp [or_assoc]
end Go.Proofs.YtgpbpgpolpakjaaGreatDoor.L
namespace Go.Proofs.YtgpbpgpolpakjaaGreatDoor.L
theorem zj3 : ∀ (l : List Nat) (q : St) (a : Nat), (goA q l a).2 = a + l.length → drive q l = some (goA q l a).1
 | [], q, a, h => rfl
 | c :: l, q, a, h => by
   simp only [goA, drive] at h ⊢
   cases hd : delta q c with
   | none => rw [hd] at h; simp at h
   | some q' =>
     rw [hd] at h
     simp only [List.length_cons] at h ⊢
     exact zj3 l q' (a + 1) (by omega)
end Go.Proofs.YtgpbpgpolpakjaaGreatDoor.L
