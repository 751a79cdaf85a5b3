/- Plain laws: the list of nodes that is made by a stack of open ones. No program in sight. -/
import Derived.Test.YtacllonekidocaaDoorMathX
set_option linter.unusedVariables false
set_option linter.unusedSimpArgs false
namespace Go.Proofs.YtacllonekidocaaDoor.L

/-- A node: its place, that of its end, its parent's number, its depth. -/
structure Nd where
  at' : Int
  en : Int
  pa : Int
  dp : Int
/-- A node as it stands in the list when so many bits are read. -/
def ndAt (f : Nat → Bool) (n i v : Nat) : Nd := ⟨v, if behN f n v ≤ i then (behN f n v : Int) - 1 else 0, paN f v, e0 f v⟩
structure NInv (f : Nat → Bool) (n i : Nat) (L : List Nd) (S : List Int) : Prop where
  len : L.length = cP f i
  slen : (S.length : Int) = e0 f i
  nd : ∀ v, v < i → f v = true → L[cP f v]? = some (ndAt f n i v)
  st : ∀ j : Nat, j < S.length → ∃ q : Nat, q < i ∧ f q = true ∧ e0 f q = (j : Int) ∧ (∀ r, q < r → r ≤ i → e0 f q < e0 f r) ∧ S[j]? = some ((cP f q : Nat) : Int)
theorem NInv.start (f : Nat → Bool) (n : Nat) : NInv f n 0 [] [] := ⟨rfl, by rw [e0_zero]; rfl, fun v h => by omega, fun j h => by simp at h⟩
section
variable {f : Nat → Bool} {n i : Nat} {L : List Nd} {S : List Int}
/-- The place behind a node's end is where the excess comes back. -/
theorem behN_is (b : Bal f n) {q m : Nat} (hq : f q = true) (hqm : q < m) (hm : m ≤ n) (he : e0 f m = e0 f q) (hg : ∀ r, q < r → r < m → e0 f q < e0 f r) : behN f n q = m := by
  obtain ⟨h1, h2, h3, h4, h5, h6⟩ := b.behN hq (by omega)
  rcases Nat.lt_trichotomy (behN f n q) m with e | e | e
  · have := hg _ (by omega) e; omega
  · exact e
  · have := h4 m hqm e; omega
theorem NInv.close (h : NInv f n i L S) (b : Bal f n) (hi : i < n) (hf : f i = false) : 0 < S.length ∧ ∃ q, q < i ∧ f q = true ∧ S[S.length - 1]? = some ((cP f q : Nat) : Int) ∧ cP f q < L.length ∧ L[cP f q]? = some (ndAt f n i q) ∧ NInv f n (i + 1) (L.set (cP f q) ⟨q, i, paN f q, e0 f q⟩) (S.take (S.length - 1)) := by
  have he := e0_node f i
  rw [hf] at he
  simp at he
  have h0 := b.nonneg (i + 1) (by omega)
  have hs := h.slen
  have hpos : 0 < S.length := by omega
  obtain ⟨q, q1, q2, q3, q4, q5⟩ := h.st (S.length - 1) (by omega)
  have hb : behN f n q = i + 1 := behN_is b q2 (by omega) (by omega) (by omega) (fun r r1 r2 => q4 r r1 (by omega))
  have hk : cP f q < L.length := by rw [h.len]; exact cP_step f q2 q1
  refine ⟨hpos, q, q1, q2, q5, hk, h.nd q q1 q2, ?_⟩
  refine ⟨?_, ?_, ?_, ?_⟩
  · rw [List.length_set, h.len]
    show _ = cP f i + _
    rw [hf]; rfl
  · rw [List.length_take]; omega
  · intro v v1 v2
    have hv : v < i := by
      rcases Nat.eq_or_lt_of_le (show v ≤ i by omega) with e | e
      · rw [e, hf] at v2; cases v2
      · exact e
    by_cases e : v = q
    · subst e
      rw [List.getElem?_set_self hk]
      unfold ndAt
      rw [hb, if_pos (Nat.le_refl _)]
      congr 2
      omega
    · rw [List.getElem?_set_ne (fun e2 => e (cP_inj f v2 q2 e2.symm)), h.nd v hv v2]
      unfold ndAt
      have hne : behN f n v ≠ i + 1 := fun e2 => by
        obtain ⟨h1, h2, h3, h4, h5, h6⟩ := b.behN v2 (by omega)
        rw [e2] at h3 h4
        rcases Nat.lt_or_ge v q with e3 | e3
        · have := h4 q e3 (by omega); omega
        · have := q4 v (by omega) (by omega); omega
      by_cases e3 : behN f n v ≤ i
      · rw [if_pos e3, if_pos (show behN f n v ≤ i + 1 by omega)]
      · rw [if_neg e3, if_neg (show ¬ behN f n v ≤ i + 1 by omega)]
  · intro j hj
    rw [List.length_take] at hj
    obtain ⟨r, r1, r2, r3, r4, r5⟩ := h.st j (by omega)
    refine ⟨r, by omega, r2, r3, fun t t1 t2 => ?_, by rw [List.getElem?_take_of_lt (by omega)]; exact r5⟩
    rcases Nat.eq_or_lt_of_le t2 with e | e
    · subst e; omega
    · exact r4 t t1 (by omega)
theorem NInv.opens (h : NInv f n i L S) (b : Bal f n) (hi : i < n) (hf : f i = true) : (S.length = 0 → paN f i = -1) ∧ (0 < S.length → S[S.length - 1]? = some (paN f i)) ∧ NInv f n (i + 1) (L ++ [⟨i, 0, paN f i, e0 f i⟩]) (S ++ [((cP f i : Nat) : Int)]) := by
  have he := e0_node f i
  rw [hf] at he
  simp at he
  have hs := h.slen
  have hc : cP f (i + 1) = cP f i + 1 := by show cP f i + _ = _; rw [hf]; rfl
  refine ⟨fun h0 => ?_, fun hp => ?_, ?_, ?_, ?_, ?_⟩
  · rcases b.parent hf hi with ⟨g1, g2⟩ | ⟨j, g1, g2, g3, g4, g5⟩
    · exact paN_none g1
    · have := b.nonneg j (by omega); omega
  · obtain ⟨q, q1, q2, q3, q4, q5⟩ := h.st (S.length - 1) (by omega)
    rw [q5, paN_at (back_is f i q 1 q1 (by rw [eb_e0 f q i (by omega)]; omega) (fun r r1 r2 => by
      rw [eb_e0 f r i (by omega)]
      have := q4 r r1 (by omega); omega))]
  · rw [List.length_append, h.len, hc]; rfl
  · rw [List.length_append]; simp; omega
  · intro v v1 v2
    rcases Nat.eq_or_lt_of_le (show v ≤ i by omega) with e | e
    · subst e
      rw [List.getElem?_append_right (by rw [h.len]; exact Nat.le_refl _), h.len, Nat.sub_self]
      obtain ⟨h1, _⟩ := b.behN hf hi
      unfold ndAt
      rw [if_neg (show ¬ behN f n v ≤ v + 1 by omega)]
      rfl
    · rw [List.getElem?_append_left (by rw [h.len]; exact cP_step f v2 e), h.nd v e v2]
      unfold ndAt
      have hne : behN f n v ≠ i + 1 := fun e2 => by
        obtain ⟨h1, h2, h3, h4, h5, h6⟩ := b.behN v2 (by omega)
        rw [e2, Nat.add_sub_cancel, hf] at h5; cases h5
      by_cases e3 : behN f n v ≤ i
      · rw [if_pos e3, if_pos (show behN f n v ≤ i + 1 by omega)]
      · rw [if_neg e3, if_neg (show ¬ behN f n v ≤ i + 1 by omega)]
  · intro j hj
    rw [List.length_append] at hj
    simp only [List.length_cons, List.length_nil] at hj
    rcases Nat.eq_or_lt_of_le (show j ≤ S.length by omega) with e | e
    · subst e
      refine ⟨i, by omega, hf, by omega, fun r r1 r2 => ?_, by rw [List.getElem?_append_right (Nat.le_refl _), Nat.sub_self]; rfl⟩
      rw [show r = i + 1 from by omega]; omega
    · obtain ⟨r, r1, r2, r3, r4, r5⟩ := h.st j e
      refine ⟨r, by omega, r2, r3, fun t t1 t2 => ?_, by rw [List.getElem?_append_left e]; exact r5⟩
      rcases Nat.eq_or_lt_of_le t2 with e2 | e2
      · subst e2
        have := r4 i r1 (Nat.le_refl _); omega
      · exact r4 t t1 (by omega)
/-- A node, all read. -/
def ndOf (f : Nat → Bool) (n v : Nat) : Nd := ⟨v, (behN f n v : Int) - 1, paN f v, e0 f v⟩
theorem NInv.done (h : NInv f n n L S) (b : Bal f n) {v : Nat} (hv : v < n) (hf : f v = true) : L[cP f v]? = some (ndOf f n v) := by
  rw [h.nd v hv hf]
  unfold ndAt ndOf
  rw [if_pos (b.behN hf hv).2.1]
end
end Go.Proofs.YtacllonekidocaaDoor.L
