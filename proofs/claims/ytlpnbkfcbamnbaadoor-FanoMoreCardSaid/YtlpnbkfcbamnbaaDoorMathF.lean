/- Plain laws of numbers that rise: the low and the high row, where a number's 1 and a part's 0 are. No program in sight. -/
import Derived.Test.YtlpnbkfcbamnbaaDoorMath12
set_option linter.unusedVariables false
set_option linter.unusedSimpArgs false
namespace Go.Proofs.YtlpnbkfcbamnbaaDoor.L

/-- How many of a kind there are, as lists tell it. -/
theorem kc_count (t : Bool) (bs : List Bool) : ∀ n, kc t bs n = (bs.take n).count t
  | 0 => by simp [kc]
  | n + 1 => by
    simp only [kc]
    rw [kc_count t bs n]
    by_cases h : n < bs.length
    · have hg := bitAt_get bs n h
      rw [List.getElem?_eq_getElem h] at hg
      injection hg with hg
      rw [List.take_succ_eq_append_getElem h, List.count_append, hg]
      have hd : decide (n < bs.length) = true := decide_eq_true h
      rw [hd, Bool.true_and]
      cases bitAt bs n <;> cases t <;> simp
    · have hd : decide (n < bs.length) = false := decide_eq_false h
      rw [hd, List.take_of_length_le (show bs.length ≤ n by omega), List.take_of_length_le (show bs.length ≤ n + 1 by omega)]; simp

/-- A bit in the midst: what it is, and how many of a kind stand ahead. -/
theorem mid_bit (p : List Bool) (b : Bool) (r : List Bool) : bitAt (p ++ b :: r) p.length = b ∧ p.length < (p ++ b :: r).length ∧ ∀ t, kc t (p ++ b :: r) p.length = p.count t := by
  refine ⟨?_, by simp, fun t => ?_⟩
  · unfold bitAt
    rw [List.getElem?_append_right (Nat.le_refl _), Nat.sub_self]; rfl
  · rw [kc_count, List.take_left]

/-- The high row of some numbers, behind a part. -/
def hiL (w : Nat) : Nat → List Nat → List Bool
  | _, [] => []
  | part, x :: l => List.replicate (x / 2 ^ w - part) false ++ true :: hiL w (x / 2 ^ w) l
def lastP (w : Nat) : Nat → List Nat → Nat
  | part, [] => part
  | _, x :: l => lastP w (x / 2 ^ w) l
/-- The parts rise. -/
def UpL (w : Nat) : Nat → List Nat → Prop
  | _, [] => True
  | part, x :: l => part ≤ x / 2 ^ w ∧ UpL w (x / 2 ^ w) l
theorem hiL_append (w : Nat) : ∀ (l m : List Nat) (p : Nat), hiL w p (l ++ m) = hiL w p l ++ hiL w (lastP w p l) m
  | [], m, p => rfl
  | x :: l, m, p => by
    simp only [List.cons_append, hiL, lastP]
    rw [hiL_append w l m]
    simp
theorem lastP_append (w : Nat) : ∀ (l m : List Nat) (p : Nat), lastP w p (l ++ m) = lastP w (lastP w p l) m
  | [], m, p => rfl
  | x :: l, m, p => by simp only [List.cons_append, lastP]; exact lastP_append w l m _
theorem UpL_append (w : Nat) : ∀ (l m : List Nat) (p : Nat), UpL w p (l ++ m) ↔ UpL w p l ∧ UpL w (lastP w p l) m
  | [], m, p => by simp [UpL, lastP]
  | x :: l, m, p => by
    simp only [List.cons_append, UpL, lastP]
    rw [UpL_append w l m]
    constructor
    · rintro ⟨a, b, c⟩; exact ⟨⟨a, b⟩, c⟩
    · rintro ⟨⟨a, b⟩, c⟩; exact ⟨a, b, c⟩
theorem UpL_le (w : Nat) : ∀ (l : List Nat) (p : Nat), UpL w p l → p ≤ lastP w p l
  | [], p, _ => Nat.le_refl _
  | x :: l, p, h => Nat.le_trans h.1 (UpL_le w l _ h.2)
theorem hiL_count (w : Nat) : ∀ (l : List Nat) (p : Nat), UpL w p l → (hiL w p l).count true = l.length ∧ (hiL w p l).count false = lastP w p l - p
  | [], p, _ => by simp [hiL, lastP]
  | x :: l, p, h => by
    obtain ⟨h1, h2⟩ := hiL_count w l (x / 2 ^ w) h.2
    have hle := UpL_le w l _ h.2
    have h0 := h.1
    constructor
    · simp only [hiL, List.count_append, List.count_cons, h1, List.count_replicate, List.length_cons]; simp
    · simp only [hiL, List.count_append, List.count_cons, h2, List.count_replicate, lastP]; simp; omega
theorem count_both (bs : List Bool) : bs.count true + bs.count false = bs.length := by
  induction bs with
  | nil => rfl
  | cons b bs ih => cases b <;> simp [List.count_cons] <;> omega
theorem hiL_length (w : Nat) (l : List Nat) (p : Nat) (h : UpL w p l) : (hiL w p l).length = l.length + (lastP w p l - p) := by
  rw [← count_both, (hiL_count w l p h).1, (hiL_count w l p h).2]

/-- The high row, the low row. top: how many 0s there are in all. -/
def high (w top : Nat) (l : List Nat) : List Bool := hiL w 0 l ++ List.replicate (top - lastP w 0 l) false
def lows (w : Nat) (l : List Nat) : List Bool := l.flatMap fun x => bitsOf (x % 2 ^ w) w
theorem high_length (w top : Nat) (l : List Nat) (h : UpL w 0 l) (ht : lastP w 0 l ≤ top) : (high w top l).length = l.length + top := by
  unfold high; rw [List.length_append, hiL_length w l 0 h, List.length_replicate]; omega
theorem lows_length (w : Nat) : ∀ l : List Nat, (lows w l).length = l.length * w
  | [] => by simp [lows]
  | x :: l => by
    have := lows_length w l
    unfold lows at *
    rw [List.flatMap_cons, List.length_append, bitsOf_length, this, List.length_cons, Nat.add_mul]; omega
theorem lows_snoc (w : Nat) (l : List Nat) (x : Nat) : lows w (l ++ [x]) = lows w l ++ bitsOf (x % 2 ^ w) w := by unfold lows; rw [List.flatMap_append]; simp
theorem lows_split (w : Nat) (l m : List Nat) : lows w (l ++ m) = lows w l ++ lows w m := by unfold lows; rw [List.flatMap_append]
/-- A number's low bits. -/
theorem low_get (w : Nat) (l1 l2 : List Nat) (x : Nat) : fld (lows w (l1 ++ x :: l2)) (l1.length * w) w = x % 2 ^ w := by
  have e : lows w (l1 ++ x :: l2) = lows w l1 ++ (bitsOf (x % 2 ^ w) w ++ lows w l2) := by rw [lows_split]; rfl
  apply Nat.eq_of_testBit_eq
  intro j
  rw [fld_testBit, e, ← lows_length, bitAt_append, if_neg (by omega), Nat.add_sub_cancel_left, bitAt_append, bitsOf_length]
  by_cases hj : j < w
  · rw [if_pos hj, bitAt_bitsOf]
    have hd : decide (j < w) = true := decide_eq_true hj
    rw [hd, Bool.true_and, Bool.true_and]
  · have hd : decide (j < w) = false := decide_eq_false hj
    rw [hd, Bool.false_and, testBit_lt (Nat.mod_lt x (Nat.two_pow_pos w)) (by omega)]

/-- A number's 1. -/
theorem one_at {w top : Nat} {l1 l2 : List Nat} {x : Nat} (h : UpL w 0 (l1 ++ x :: l2)) : bitAt (high w top (l1 ++ x :: l2)) (l1.length + x / 2 ^ w) = true ∧ l1.length + x / 2 ^ w < (high w top (l1 ++ x :: l2)).length ∧ kc true (high w top (l1 ++ x :: l2)) (l1.length + x / 2 ^ w) = l1.length := by
  obtain ⟨h1, h2⟩ := (UpL_append w l1 (x :: l2) 0).1 h
  have hx := h2.1
  have e : high w top (l1 ++ x :: l2) = (hiL w 0 l1 ++ List.replicate (x / 2 ^ w - lastP w 0 l1) false) ++ true :: (hiL w (x / 2 ^ w) l2 ++ List.replicate (top - lastP w 0 (l1 ++ x :: l2)) false) := by
    unfold high; rw [hiL_append]; simp [hiL]
  have hl : (hiL w 0 l1 ++ List.replicate (x / 2 ^ w - lastP w 0 l1) false).length = l1.length + x / 2 ^ w := by
    rw [List.length_append, hiL_length w l1 0 h1, List.length_replicate]; omega
  have hm := mid_bit (hiL w 0 l1 ++ List.replicate (x / 2 ^ w - lastP w 0 l1) false) true (hiL w (x / 2 ^ w) l2 ++ List.replicate (top - lastP w 0 (l1 ++ x :: l2)) false)
  rw [hl, ← e] at hm
  refine ⟨hm.1, hm.2.1, ?_⟩
  rw [hm.2.2 true, List.count_append, (hiL_count w l1 0 h1).1, List.count_replicate]; simp
/-- A part's 0: behind the numbers of parts that are no greater. -/
theorem zero_at {w top : Nat} {l1 l2 : List Nat} {p : Nat} (h : UpL w 0 (l1 ++ l2)) (h1 : lastP w 0 l1 ≤ p) (h2 : ∀ x ∈ l2.head?, p < x / 2 ^ w) (h3 : p < top) : bitAt (high w top (l1 ++ l2)) (l1.length + p) = false ∧ l1.length + p < (high w top (l1 ++ l2)).length ∧ kc false (high w top (l1 ++ l2)) (l1.length + p) = p := by
  obtain ⟨u1, u2⟩ := (UpL_append w l1 l2 0).1 h
  obtain ⟨R, hR⟩ : ∃ R, high w top (l1 ++ l2) = (hiL w 0 l1 ++ List.replicate (p - lastP w 0 l1) false) ++ false :: R := by
    have hrep : ∀ m, p - lastP w 0 l1 < m → ∃ k, List.replicate m false = List.replicate (p - lastP w 0 l1) false ++ false :: List.replicate k false := fun m hm =>
      ⟨m - (p - lastP w 0 l1) - 1, by rw [← List.replicate_succ, List.replicate_append_replicate]; congr 1; omega⟩
    unfold high
    rw [hiL_append]
    cases l2 with
    | nil =>
      obtain ⟨k, hk⟩ := hrep (top - lastP w 0 l1) (by omega)
      refine ⟨List.replicate k false, ?_⟩
      rw [List.append_nil, hk]; simp [hiL]
    | cons x l2 =>
      have hx := h2 x rfl
      obtain ⟨k, hk⟩ := hrep (x / 2 ^ w - lastP w 0 l1) (by omega)
      refine ⟨List.replicate k false ++ true :: hiL w (x / 2 ^ w) l2 ++ List.replicate (top - lastP w 0 (l1 ++ x :: l2)) false, ?_⟩
      simp only [hiL]
      rw [hk]; simp
  have hl : (hiL w 0 l1 ++ List.replicate (p - lastP w 0 l1) false).length = l1.length + p := by
    rw [List.length_append, hiL_length w l1 0 u1, List.length_replicate]; omega
  have hm := mid_bit (hiL w 0 l1 ++ List.replicate (p - lastP w 0 l1) false) false R
  rw [hl, ← hR] at hm
  refine ⟨hm.1, hm.2.1, ?_⟩
  rw [hm.2.2 false, List.count_append, (hiL_count w l1 0 u1).2, List.count_replicate]; simp; omega

/-- Numbers that rise. -/
def Ris (l : List Nat) : Prop := l.Pairwise (· ≤ ·)
theorem Ris.le {l : List Nat} (h : Ris l) {i j : Nat} (hij : i ≤ j) (hj : j < l.length) : l[i]'(by omega) ≤ l[j] := by
  rcases Nat.eq_or_lt_of_le hij with e | e
  · subst e; exact Nat.le_refl _
  · exact List.pairwise_iff_getElem.1 h i j (by omega) hj e
theorem div_mono (w : Nat) {x y : Nat} (h : x ≤ y) : x / 2 ^ w ≤ y / 2 ^ w := Nat.div_le_div_right h
theorem Ris.up (w : Nat) : ∀ (l : List Nat) (p : Nat), Ris l → (∀ x ∈ l, p ≤ x / 2 ^ w) → UpL w p l
  | [], _, _, _ => trivial
  | x :: l, p, h, hp => by
    have h' := List.pairwise_cons.1 h
    exact ⟨hp x (List.mem_cons_self ..), Ris.up w l _ h'.2 (fun y hy => div_mono w (h'.1 y hy))⟩
theorem lastP_le (w m : Nat) : ∀ (l : List Nat) (p : Nat), p ≤ m → (∀ x ∈ l, x / 2 ^ w ≤ m) → lastP w p l ≤ m
  | [], p, h, _ => h
  | x :: l, p, _, hl => lastP_le w m l _ (hl x (List.mem_cons_self ..)) (fun y hy => hl y (List.mem_cons_of_mem _ hy))

/-- How many are less. -/
def cl (l : List Nat) (x : Nat) : Nat := l.countP fun y => decide (y < x)
theorem cl_le (l : List Nat) (x : Nat) : cl l x ≤ l.length := List.countP_le_length
theorem cl_split {l1 l2 : List Nat} {x : Nat} (h1 : ∀ y ∈ l1, y < x) (h2 : ∀ y ∈ l2, x ≤ y) : cl (l1 ++ l2) x = l1.length := by
  unfold cl
  rw [List.countP_append, List.countP_eq_length.2 (fun y hy => decide_eq_true (h1 y hy)), List.countP_eq_zero.2 (fun y hy => by simp; exact h2 y hy), Nat.add_zero]
/-- The place that parts the lesser ones from the others. -/
theorem cl_unique {l : List Nat} (h : Ris l) {x i : Nat} (hi : i ≤ l.length) (h1 : ∀ j (hj : j < i), l[j]'(by omega) < x) (h2 : ∀ hi' : i < l.length, x ≤ l[i]) : cl l x = i := by
  have e : l = l.take i ++ l.drop i := (List.take_append_drop i l).symm
  rw [e, cl_split (l1 := l.take i) (l2 := l.drop i) ?_ ?_, List.length_take]
  · omega
  · intro y hy
    obtain ⟨j, hj, rfl⟩ := List.mem_iff_getElem.1 hy
    rw [List.length_take] at hj
    rw [List.getElem_take]
    exact h1 j (by omega)
  · intro y hy
    obtain ⟨j, hj, rfl⟩ := List.mem_iff_getElem.1 hy
    rw [List.length_drop] at hj
    rw [List.getElem_drop]
    exact Nat.le_trans (h2 (by omega)) (h.le (by omega) (by omega))
theorem cl_lt {l : List Nat} (h : Ris l) {x j : Nat} (hj : j < l.length) : l[j] < x ↔ j < cl l x := by
  -- the lesser ones stand ahead
  have key : ∀ (l : List Nat), Ris l → ∀ j (hj : j < l.length), l[j] < x ↔ j < cl l x := by
    intro l
    induction l with
    | nil => intro _ j hj; simp at hj
    | cons a l ih =>
      intro h j hj
      have h' := List.pairwise_cons.1 h
      unfold cl
      rw [List.countP_cons]
      by_cases ha : a < x
      · rw [if_pos (by simpa using ha)]
        cases j with
        | zero => simp [ha]
        | succ j =>
          have := ih h'.2 j (by simpa using hj)
          unfold cl at this
          simp only [List.getElem_cons_succ]
          omega
      · rw [if_neg (by simpa using ha)]
        have h0 : List.countP (fun y => decide (y < x)) l = 0 := List.countP_eq_zero.2 (fun y hy => by have := h'.1 y hy; simp; omega)
        rw [h0]
        cases j with
        | zero => simp; omega
        | succ j =>
          have := h'.1 _ (List.getElem_mem (show j < l.length by simpa using hj))
          simp only [List.getElem_cons_succ]
          omega
  exact key l h j hj
theorem part_lt (w x p : Nat) : x / 2 ^ w < p ↔ x < p * 2 ^ w := Nat.div_lt_iff_lt_mul (Nat.two_pow_pos w)

end Go.Proofs.YtlpnbkfcbamnbaaDoor.L
