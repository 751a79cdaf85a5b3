/- Plain laws of a file's records: two files in one; the records, one behind the other, are the file. No program in sight. -/
import Derived.Test.YtegoephanphnkaaLawSplit
set_option linter.unusedVariables false
set_option linter.unusedSimpArgs false
namespace Go.Proofs.Ytegoephanphnkaa.L

theorem ix_app : ∀ (x y : List Nat), ix (x ++ 10 :: y) = ix x
  | [], y => by show (if 10 = 10 then 0 else _) = 0; rw [if_pos rfl]
  | c :: x, y => by
    simp only [List.cons_append, ix]
    rw [ix_app x y]
theorem ix_get : ∀ (x : List Nat), ix x < x.length → at_ x (ix x) = 10
  | [], h => by simp at h
  | c :: x, h => by
    unfold ix at h ⊢
    by_cases hc : c = 10
    · rw [if_pos hc]; exact hc
    · rw [if_neg hc] at h ⊢
      have := ix_get x (by simpa using h)
      exact this
theorem ix_none : ∀ (x : List Nat) (i : Nat), i < ix x → at_ x i ≠ 10
  | [], i, h => by simp [ix] at h
  | c :: x, i, h => by
    unfold ix at h
    by_cases hc : c = 10
    · rw [if_pos hc] at h; omega
    · rw [if_neg hc] at h
      cases i with
      | zero => exact hc
      | succ i => exact ix_none x i (by omega)
theorem at_dropI (l : List Nat) (p i : Nat) : at_ (l.drop p) i = at_ l (p + i) := by unfold at_; rw [List.getElem?_drop]
/-- A record ends at a line end, or at the end; there is none within. -/
theorem nlx_get {l : List Nat} {a : Nat} (h : nlx l a < l.length) : at_ l (nlx l a) = 10 := by
  have := ix_get (l.drop a) (by rw [List.length_drop]; unfold nlx at h; omega)
  rw [at_dropI] at this; exact this
theorem nlx_none {l : List Nat} {a i : Nat} (h1 : a ≤ i) (h2 : i < nlx l a) : at_ l i ≠ 10 := by
  have := ix_none (l.drop a) (i - a) (by unfold nlx at h2; omega)
  rw [at_dropI, show a + (i - a) = i from by omega] at this; exact this
theorem nlx_uniq {l : List Nat} {a i : Nat} (h1 : a ≤ i) (h2 : i ≤ l.length) (h3 : ∀ j, a ≤ j → j < i → at_ l j ≠ 10) (h4 : i < l.length → at_ l i = 10) : nlx l a = i := by
  have hle := nlx_le (l := l) (a := a) (by omega)
  rcases Nat.lt_trichotomy (nlx l a) i with h | h | h
  · exact absurd (nlx_get (by omega)) (h3 _ hle.1 h)
  · exact h
  · exact absurd (h4 (by omega)) (nlx_none h1 h)

section
variable {a b : List Nat}
theorem two_drop (a b : List Nat) (i : Nat) (h : i ≤ a.length) : (a ++ 10 :: b).drop i = a.drop i ++ 10 :: b := List.drop_append_of_le_length h
theorem two_nlx (a b : List Nat) (i : Nat) (h : i ≤ a.length) : nlx (a ++ 10 :: b) i = nlx a i := by unfold nlx; rw [two_drop a b i h, ix_app]
theorem two_later (a b : List Nat) (j : Nat) : (a ++ 10 :: b).drop (a.length + 1 + j) = b.drop j := by
  rw [show a.length + 1 + j = a.length + (1 + j) from by omega, ← List.drop_drop, List.drop_left, Nat.add_comm 1 j, List.drop_succ_cons]
theorem two_nlx2 (a b : List Nat) (j : Nat) : nlx (a ++ 10 :: b) (a.length + 1 + j) = a.length + 1 + nlx b j := by unfold nlx; rw [two_later]; omega
def shP (m : Nat) (p : Nat × Nat) : Nat × Nat := (p.1 + m, p.2 + m)
theorem two_len (a b : List Nat) : (a ++ 10 :: b).length = a.length + 1 + b.length := by simp; omega
theorem two_spn2 (a b : List Nat) : ∀ n j, b.length ≤ j + n → spnA (a ++ 10 :: b) (a.length + 1 + j) = (spnA b j).map (shP (a.length + 1))
  | 0, j, h => by rw [spnA_end (by rw [two_len]; omega), spnA_end (by omega)]; rfl
  | n + 1, j, h => by
    rcases Nat.lt_or_ge j b.length with h1 | h1
    · have hj := (nlx_le (l := b) (a := j) (by omega)).1
      rw [spnA_step (by rw [two_len]; omega), spnA_step h1, two_nlx2, List.map_cons, show a.length + 1 + nlx b j + 1 = a.length + 1 + (nlx b j + 1) from by omega, two_spn2 a b n (nlx b j + 1) (by omega)]
      congr 1
      unfold shP
      rw [Prod.mk.injEq]
      omega
    · rw [spnA_end (by rw [two_len]; omega), spnA_end h1]; rfl
theorem two_spn (a b : List Nat) (hl : at_ a (a.length - 1) ≠ 10) : ∀ n i, i < a.length → a.length ≤ i + n → spnA (a ++ 10 :: b) i = spnA a i ++ spnA (a ++ 10 :: b) (a.length + 1)
  | 0, i, h, h2 => by omega
  | n + 1, i, h, h2 => by
    have hle := nlx_le (l := a) (a := i) (by omega)
    rw [spnA_step (l := a ++ 10 :: b) (a := i) (by rw [two_len]; omega), spnA_step h, two_nlx a b i (by omega), List.cons_append]
    congr 1
    rcases Nat.lt_or_ge (nlx a i + 1) a.length with h3 | h3
    · exact two_spn a b hl n (nlx a i + 1) h3 (by omega)
    · rw [spnA_end (l := a) (a := nlx a i + 1) h3, List.nil_append]
      have : nlx a i = a.length := by
        rcases Nat.lt_or_ge (nlx a i) a.length with h4 | h4
        · have h5 := nlx_get h4
          rw [show nlx a i = a.length - 1 from by omega] at h5
          exact absurd h5 hl
        · omega
      rw [this]
theorem two_spans (a b : List Nat) (h0 : 0 < a.length) (hl : at_ a (a.length - 1) ≠ 10) : spans (a ++ 10 :: b) = spans a ++ (spans b).map (shP (a.length + 1)) := by
  rw [spans_eq, spans_eq, spans_eq, two_spn a b hl a.length 0 h0 (by omega)]
  have := two_spn2 a b b.length 0 (by omega)
  rw [Nat.add_zero] at this
  rw [this]

/-- More behind a file that ends with a line end. -/
theorem more_nlx (f m : List Nat) (i : Nat) (h : i < f.length) (hl : at_ f (f.length - 1) = 10) : nlx (f ++ m) i = nlx f i ∧ nlx f i < f.length := by
  have hle := nlx_le (l := f) (a := i) (by omega)
  have hlt : nlx f i < f.length := by
    rcases Nat.lt_or_ge (nlx f i) f.length with h4 | h4
    · exact h4
    · exact absurd hl (nlx_none (l := f) (a := i) (i := f.length - 1) (by omega) (by omega))
  have hat : ∀ j, j < f.length → at_ (f ++ m) j = at_ f j := fun j hj => by unfold at_; rw [List.getElem?_append_left hj]
  refine ⟨nlx_uniq hle.1 (by have := hle.2; rw [List.length_append]; omega) (fun j h1 h2 => ?_) (fun _ => ?_), hlt⟩
  · have hj : j < f.length := Nat.lt_trans h2 hlt
    rw [hat j hj]; exact nlx_none h1 h2
  · rw [hat _ hlt]; exact nlx_get hlt
theorem more_spn (f m : List Nat) (hl : at_ f (f.length - 1) = 10) : ∀ n i, i ≤ f.length → f.length ≤ i + n → spnA (f ++ m) i = spnA f i ++ spnA (f ++ m) f.length
  | 0, i, h, h2 => by
    obtain rfl : i = f.length := by omega
    rw [spnA_end (l := f) (Nat.le_refl _)]; rfl
  | n + 1, i, h, h2 => by
    rcases Nat.lt_or_ge i f.length with h3 | h3
    · obtain ⟨h4, h5⟩ := more_nlx f m i h3 hl
      have hle := nlx_le (l := f) (a := i) (by omega)
      rw [spnA_step (l := f ++ m) (a := i) (by rw [List.length_append]; omega), spnA_step h3, h4, List.cons_append, more_spn f m hl n (nlx f i + 1) (by omega) (by omega)]
    · obtain rfl : i = f.length := by omega
      rw [spnA_end (l := f) (Nat.le_refl _)]; rfl
theorem more_spans (f m : List Nat) (hl : at_ f (f.length - 1) = 10) : spans (f ++ m) = spans f ++ spnA (f ++ m) f.length := more_spn f m hl f.length 0 (Nat.zero_le _) (by omega)
end

/-- The bytes of a stretch. -/
def sub_ (l : List Nat) (a b : Nat) : List Nat := (l.drop a).take (b - a)
theorem sub_pre (x y : List Nat) (a b : Nat) (h1 : a ≤ b) (h2 : b ≤ x.length) : sub_ (x ++ y) a b = sub_ x a b := by
  unfold sub_
  rw [List.drop_append_of_le_length (by omega), List.take_append_of_le_length (by rw [List.length_drop]; omega)]
theorem sub_later (a b : List Nat) (x y : Nat) : sub_ (a ++ 10 :: b) (x + (a.length + 1)) (y + (a.length + 1)) = sub_ b x y := by
  unfold sub_
  rw [Nat.add_comm x, two_later, show y + (a.length + 1) - (a.length + 1 + x) = y - x from by omega]
theorem sub_take (l : List Nat) (a b : Nat) (h1 : a ≤ b) : l.take a ++ sub_ l a b = l.take b := by
  unfold sub_
  rw [show b = a + (b - a) from by omega, List.take_add, show a + (b - a) - a = b - a from by omega]

end Go.Proofs.Ytegoephanphnkaa.L
