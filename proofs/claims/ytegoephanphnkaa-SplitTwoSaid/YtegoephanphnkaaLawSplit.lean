/- Plain laws of a file's records: where they lie. No program in sight. -/
import Derived.Test.YtegoephanphnkaaAutoB
import Derived.Lib.Bytealg
set_option linter.unusedVariables false
set_option linter.unusedSimpArgs false
namespace Go.Proofs.Ytegoephanphnkaa.L

/-- Where the first line end is; how many bytes there are, if there is none. -/
def ix : List Nat → Nat
  | [] => 0
  | c :: l => if c = 10 then 0 else ix l + 1
theorem ix_le : ∀ l, ix l ≤ l.length
  | [] => Nat.le_refl _
  | c :: l => by
    have := ix_le l
    unfold ix
    split
    · omega
    · simp only [List.length_cons]; omega
/-- What strings.IndexByte tells. -/
theorem ix_byte : ∀ l : List UInt8, (Lib.indexByte l 10 = -1 ∧ ix (l.map UInt8.toNat) = l.length) ∨ (Lib.indexByte l 10 = (ix (l.map UInt8.toNat) : Nat) ∧ ix (l.map UInt8.toNat) < l.length)
  | [] => Or.inl ⟨rfl, rfl⟩
  | c :: l => by
    have ih := ix_byte l
    simp only [Lib.indexByte, List.map_cons, ix, List.length_cons]
    have hc : (c == 10) = decide (c.toNat = 10) := by
      apply Bool.eq_iff_iff.2
      rw [beq_iff_eq, decide_eq_true_eq]
      constructor
      · intro h; rw [h]; rfl
      · intro h; exact UInt8.toNat_inj.1 h
    rw [hc]
    by_cases h : c.toNat = 10
    · rw [decide_eq_true h, if_pos rfl, if_pos h]
      exact Or.inr ⟨rfl, by omega⟩
    · rw [decide_eq_false h, if_neg (by simp), if_neg h]
      rcases ih with ⟨e1, e2⟩ | ⟨e1, e2⟩
      · rw [e1, e2]
        exact Or.inl ⟨rfl, rfl⟩
      · rw [e1]
        have hn : ((((ix (l.map UInt8.toNat) : Nat) : Int)) == -1) = false := by rw [beq_eq_false_iff_ne]; omega
        rw [hn]
        refine Or.inr ⟨?_, by omega⟩
        rw [if_neg (by simp)]; omega

/-- The end of the record that begins at a place. -/
def nlx (l : List Nat) (a : Nat) : Nat := a + ix (l.drop a)
theorem nlx_le {l : List Nat} {a : Nat} (h : a ≤ l.length) : a ≤ nlx l a ∧ nlx l a ≤ l.length := by
  have := ix_le (l.drop a)
  rw [List.length_drop] at this
  unfold nlx; omega
/-- The records from a place on. -/
def spn (l : List Nat) : Nat → Nat → List (Nat × Nat)
  | 0, _ => []
  | f + 1, a => if a < l.length then (a, nlx l a) :: spn l f (nlx l a + 1) else []
theorem spn_more (l : List Nat) : ∀ f g a, l.length ≤ a + f → l.length ≤ a + g → spn l f a = spn l g a
  | 0, 0, a, _, _ => rfl
  | 0, g + 1, a, h, _ => by unfold spn; rw [if_neg (by omega)]
  | f + 1, 0, a, _, h => by unfold spn; rw [if_neg (by omega)]
  | f + 1, g + 1, a, h1, h2 => by
    unfold spn
    split
    · rename_i h
      have := (nlx_le (l := l) (a := a) (by omega)).1
      rw [spn_more l f g (nlx l a + 1) (by omega) (by omega)]
    · rfl
def spans (l : List Nat) : List (Nat × Nat) := spn l l.length 0
/-- The records from a place on, told by that place alone. -/
def spnA (l : List Nat) (a : Nat) : List (Nat × Nat) := spn l l.length a
theorem spnA_end {l : List Nat} {a : Nat} (h : l.length ≤ a) : spnA l a = [] := by
  unfold spnA
  rw [spn_more l l.length 0 a (by omega) (by omega)]; rfl
theorem spnA_step {l : List Nat} {a : Nat} (h : a < l.length) : spnA l a = (a, nlx l a) :: spnA l (nlx l a + 1) := by
  unfold spnA
  rw [spn_more l l.length (l.length + 1) a (by omega) (by omega)]
  show (if a < l.length then _ else _) = _
  rw [if_pos h]
theorem spans_eq (l : List Nat) : spans l = spnA l 0 := rfl
theorem spn_length (l : List Nat) : ∀ f a, (spn l f a).length ≤ l.length - a
  | 0, a => Nat.zero_le _
  | f + 1, a => by
    unfold spn
    split
    · rename_i h
      have h1 := (nlx_le (l := l) (a := a) (by omega)).1
      have h2 := spn_length l f (nlx l a + 1)
      simp only [List.length_cons]; omega
    · simp
theorem spans_length (l : List Nat) : (spans l).length ≤ l.length := by have := spn_length l l.length 0; rwa [Nat.sub_zero] at this
theorem spn_in (l : List Nat) : ∀ f a, ∀ p ∈ spn l f a, a ≤ p.1 ∧ p.1 ≤ p.2 ∧ p.2 ≤ l.length
  | 0, a, p, h => by cases h
  | f + 1, a, p, h => by
    unfold spn at h
    split at h
    · rename_i ha
      have h1 := nlx_le (l := l) (a := a) (by omega)
      rcases List.mem_cons.1 h with rfl | h
      · exact ⟨Nat.le_refl _, h1⟩
      · have := spn_in l f (nlx l a + 1) p h
        omega
    · cases h
theorem spans_in {l : List Nat} {p : Nat × Nat} (h : p ∈ spans l) : p.1 ≤ p.2 ∧ p.2 ≤ l.length := (spn_in l l.length 0 p h).2

end Go.Proofs.Ytegoephanphnkaa.L
