/- Plain laws of the automaton of JSON texts: how far it goes, composing stretches, states that are alike. No program in sight. -/
import Derived.Test.YtacllonekidocaaDoorAuto
set_option linter.unusedVariables false
set_option linter.unusedSimpArgs false
namespace Go.Proofs.YtacllonekidocaaDoor.L

/-- The byte at a place; 0 behind the end. -/
def at_ (l : List Nat) (i : Nat) : Nat := l[i]?.getD 0
theorem at_get {l : List Nat} {i : Nat} (h : i < l.length) : l[i]? = some (at_ l i) := by
  unfold at_; rw [List.getElem?_eq_getElem h]; rfl

/-- The bytes from a on, ahead of b, lead from q to q'. -/
def Dr (l : List Nat) (q : St) (a : Nat) (q' : St) (b : Nat) : Prop := a ≤ b ∧ b ≤ l.length ∧ drive q ((l.drop a).take (b - a)) = some q'
theorem drive_append (q : St) : ∀ (l m : List Nat) , drive q (l ++ m) = (drive q l).bind fun q' => drive q' m
  | [], m => rfl
  | c :: l, m => by
    simp only [List.cons_append, drive]
    cases h : delta q c with
    | none => rfl
    | some q' => exact drive_append q' l m
theorem Dr.refl {l : List Nat} {q : St} {a : Nat} (h : a ≤ l.length) : Dr l q a q a := ⟨Nat.le_refl _, h, by rw [Nat.sub_self, List.take_zero]; rfl⟩
theorem Dr.trans {l : List Nat} {q q' q'' : St} {a b c : Nat} (h : Dr l q a q' b) (k : Dr l q' b q'' c) : Dr l q a q'' c := by
  refine ⟨Nat.le_trans h.1 k.1, k.2.1, ?_⟩
  have e : (l.drop a).take (c - a) = (l.drop a).take (b - a) ++ (l.drop b).take (c - b) := by
    have h1 := h.1
    have h2 := k.1
    rw [show c - a = (b - a) + (c - b) from by omega, List.take_add, List.drop_drop, show a + (b - a) = b from by omega]
  rw [e, drive_append, h.2.2]; exact k.2.2
theorem Dr.step {l : List Nat} {q q' : St} {a : Nat} (h : a < l.length) (hd : delta q (at_ l a) = some q') : Dr l q a q' (a + 1) := by
  refine ⟨by omega, by omega, ?_⟩
  have e : (l.drop a).take (a + 1 - a) = [at_ l a] := by
    rw [show a + 1 - a = 1 from by omega]
    have : l.drop a = at_ l a :: l.drop (a + 1) := by
      have := at_get h
      rw [List.getElem?_eq_getElem h] at this
      rw [List.drop_eq_getElem_cons h]
      injection this with this
      rw [this]
    rw [this]; rfl
  rw [e]; simp only [drive, hd]
/-- The first byte of a stretch. -/
theorem Dr.head {l : List Nat} {q q' : St} {a b : Nat} (h : Dr l q a q' b) (hab : a < b) : ∃ q1, delta q (at_ l a) = some q1 ∧ Dr l q1 (a + 1) q' b := by
  obtain ⟨h1, h2, h3⟩ := h
  have hl : l.drop a = at_ l a :: l.drop (a + 1) := by
    have h0 : a < l.length := by omega
    have := at_get h0
    rw [List.getElem?_eq_getElem h0] at this
    rw [List.drop_eq_getElem_cons h0]
    injection this with this
    rw [this]
  rw [hl, show b - a = (b - (a + 1)) + 1 from by omega, List.take_succ_cons] at h3
  simp only [drive] at h3
  cases hd : delta q (at_ l a) with
  | none => rw [hd] at h3; cases h3
  | some q1 => rw [hd] at h3; exact ⟨q1, rfl, by omega, h2, h3⟩

/-- Two states that do the same at a place. -/
def Like (l : List Nat) (b : Nat) (q q' : St) : Prop := (b < l.length → delta q (at_ l b) = delta q' (at_ l b)) ∧ fin q = fin q' ∧ q.most = q'.most
theorem Like.refl (l : List Nat) (b : Nat) (q : St) : Like l b q q := ⟨fun _ => rfl, rfl, rfl⟩
theorem Like.trans {l : List Nat} {b : Nat} {q q' q'' : St} (h : Like l b q q') (k : Like l b q' q'') : Like l b q q'' := ⟨fun hb => (h.1 hb).trans (k.1 hb), h.2.1.trans k.2.1, h.2.2.trans k.2.2⟩
/-- The bytes lead to a state that is alike. -/
def R (l : List Nat) (q : St) (a : Nat) (q' : St) (b : Nat) : Prop := ∃ q0, Dr l q a q0 b ∧ Like l b q0 q'
theorem R.of {l : List Nat} {q q' : St} {a b : Nat} (h : Dr l q a q' b) : R l q a q' b := ⟨q', h, Like.refl _ _ _⟩
theorem R.refl {l : List Nat} {q : St} {a : Nat} (h : a ≤ l.length) : R l q a q a := R.of (Dr.refl h)
theorem R.like {l : List Nat} {q q' q'' : St} {a b : Nat} (h : R l q a q' b) (k : Like l b q' q'') : R l q a q'' b := by
  obtain ⟨q0, h1, h2⟩ := h
  exact ⟨q0, h1, h2.trans k⟩
theorem R.trans {l : List Nat} {q q' q'' : St} {a b c : Nat} (h : R l q a q' b) (k : R l q' b q'' c) : R l q a q'' c := by
  obtain ⟨q0, h1, h2⟩ := h
  obtain ⟨q1, k1, k2⟩ := k
  rcases Nat.eq_or_lt_of_le k1.1 with e | e
  · subst e
    have : q' = q1 := by
      have := k1.2.2
      rw [Nat.sub_self, List.take_zero] at this
      simpa [drive] using this
    subst this
    exact ⟨q0, h1, h2.trans k2⟩
  · obtain ⟨q2, d1, d2⟩ := k1.head e
    have hb : b < l.length := by have := k1.2.1; omega
    exact ⟨q1, h1.trans ((Dr.step hb ((h2.1 hb).trans d1)).trans d2), k2⟩
theorem R.step {l : List Nat} {q q' q'' : St} {a b : Nat} (h : R l q a q' b) (hb : b < l.length) (hd : delta q' (at_ l b) = some q'') : R l q a q'' (b + 1) := h.trans (R.of (Dr.step hb hd))
theorem R.le {l : List Nat} {q q' : St} {a b : Nat} (h : R l q a q' b) : a ≤ b ∧ b ≤ l.length := by
  obtain ⟨q0, h1, _⟩ := h
  exact ⟨h1.1, h1.2.1⟩
/-- No way on. -/
def Dead (l : List Nat) (q : St) (b : Nat) : Prop := (b = l.length ∧ fin q = false) ∨ (b < l.length ∧ delta q (at_ l b) = none)
theorem Dead.like {l : List Nat} {q q' : St} {b : Nat} (h : Dead l q' b) (k : Like l b q q') : Dead l q b := by
  rcases h with ⟨h1, h2⟩ | ⟨h1, h2⟩
  · exact Or.inl ⟨h1, k.2.1.trans h2⟩
  · exact Or.inr ⟨h1, (k.1 h1).trans h2⟩

/-- How far the automaton goes. -/
def goA : St → List Nat → Nat → St × Nat
  | q, [], p => (q, p)
  | q, c :: l, p => match delta q c with
    | none => (q, p)
    | some q' => goA q' l (p + 1)
theorem goA_drive : ∀ (l m : List Nat) (q q' : St) (p : Nat), drive q l = some q' → goA q (l ++ m) p = goA q' m (p + l.length)
  | [], m, q, q', p, h => by simp [drive] at h; subst h; rfl
  | c :: l, m, q, q', p, h => by
    simp only [drive] at h
    simp only [List.cons_append, goA]
    cases hd : delta q c with
    | none => rw [hd] at h; cases h
    | some q1 =>
      rw [hd] at h
      simp only []
      rw [goA_drive l m q1 q' (p + 1) h, List.length_cons, show p + 1 + l.length = p + (l.length + 1) from by omega]
theorem goA_dead {l : List Nat} {q : St} {b : Nat} (h : R l start 0 q b) (hd : Dead l q b) : ∃ q0, goA start l 0 = (q0, b) ∧ ¬ (b = l.length ∧ fin q0 = true) := by
  obtain ⟨q0, h1, h2⟩ := h
  have hd0 := hd.like h2
  refine ⟨q0, ?_, ?_⟩
  · have e : l = (l.drop 0).take (b - 0) ++ l.drop b := by rw [List.drop_zero, Nat.sub_zero, List.take_append_drop]
    have hl : ((l.drop 0).take (b - 0)).length = b := by have := h1.2.1; rw [List.length_take, List.length_drop]; omega
    have := goA_drive _ (l.drop b) start q0 0 h1.2.2
    rw [← e, hl, Nat.zero_add] at this
    rw [this]
    rcases hd0 with ⟨e1, _⟩ | ⟨e1, e2⟩
    · rw [List.drop_of_length_le (by omega)]; rfl
    · have hdr : l.drop b = at_ l b :: l.drop (b + 1) := by
        have := at_get e1
        rw [List.getElem?_eq_getElem e1] at this
        rw [List.drop_eq_getElem_cons e1]
        injection this with this
        rw [this]
      rw [hdr]; simp only [goA, e2]
  · rintro ⟨e1, e2⟩
    rcases hd0 with ⟨_, h3⟩ | ⟨h3, _⟩
    · rw [e2] at h3; cases h3
    · omega
theorem goA_fin {l : List Nat} {q : St} (h : R l start 0 q l.length) (hf : fin q = true) : ∃ q0, goA start l 0 = (q0, l.length) ∧ fin q0 = true ∧ q0.most = q.most := by
  obtain ⟨q0, h1, h2⟩ := h
  refine ⟨q0, ?_, h2.2.1.trans hf, h2.2.2⟩
  have e : l = (l.drop 0).take (l.length - 0) ++ l.drop l.length := by rw [List.drop_zero, Nat.sub_zero, List.take_append_drop]
  have hl : ((l.drop 0).take (l.length - 0)).length = l.length := by rw [List.length_take, List.length_drop]; omega
  have := goA_drive _ (l.drop l.length) start q0 0 h1.2.2
  rw [← e, hl, Nat.zero_add, List.drop_length] at this
  exact this

end Go.Proofs.YtacllonekidocaaDoor.L
