/- Plain laws: children of nodes of a balanced row. No program in sight. -/
import Derived.Test.YtacllonekidocaaDoorMathV
import Derived.Test.YtacllonekidocaaDoorMaths
set_option linter.unusedVariables false
set_option linter.unusedSimpArgs false
namespace Go.Proofs.YtacllonekidocaaDoor.L

/-- How many of the first numbers are so. -/
def cP (p : Nat → Bool) : Nat → Nat
  | 0 => 0
  | n + 1 => cP p n + (p n).toNat
theorem cP_le (p : Nat → Bool) : ∀ n, cP p n ≤ n
  | 0 => Nat.le_refl _
  | n + 1 => by have := cP_le p n; have := Bool.toNat_le (p n); unfold cP; omega
theorem cP_mono (p : Nat → Bool) (a : Nat) : ∀ k, cP p a ≤ cP p (a + k)
  | 0 => Nat.le_refl _
  | k + 1 => by have := cP_mono p a k; rw [← Nat.add_assoc]; show _ ≤ cP p (a + k) + _; omega
theorem cP_gap (p : Nat → Bool) (a : Nat) : ∀ k, (∀ q, a ≤ q → q < a + k → p q = false) → cP p (a + k) = cP p a
  | 0, _ => rfl
  | k + 1, h => by
    rw [← Nat.add_assoc]; show cP p (a + k) + _ = _
    rw [cP_gap p a k (fun q q1 q2 => h q q1 (by omega)), h (a + k) (by omega) (by omega)]; rfl
theorem cP_skip (p : Nat → Bool) {a b : Nat} (hab : a ≤ b) (h : ∀ q, a ≤ q → q < b → p q = false) : cP p b = cP p a := by
  have := cP_gap p a (b - a) (fun q q1 q2 => h q q1 (by omega))
  rwa [show a + (b - a) = b from by omega] at this
theorem cP_or (p q : Nat → Bool) : ∀ n, (∀ i, i < n → ¬ (p i = true ∧ q i = true)) → cP (fun i => p i || q i) n = cP p n + cP q n
  | 0, _ => rfl
  | n + 1, h => by
    show cP _ n + _ = cP p n + _ + (cP q n + _)
    rw [cP_or p q n (fun i hi => h i (by omega))]
    have := h n (by omega)
    cases hp : p n <;> cases hq : q n <;> simp_all <;> omega
theorem cP_congr {p q : Nat → Bool} : ∀ n, (∀ i, i < n → p i = q i) → cP p n = cP q n
  | 0, _ => rfl
  | n + 1, h => by
    show cP p n + _ = cP q n + _
    rw [cP_congr n (fun i hi => h i (by omega)), h n (by omega)]
theorem cP_none (p : Nat → Bool) (n : Nat) (h : ∀ i, i < n → p i = false) : cP p n = 0 := by
  have := cP_skip p (Nat.zero_le n) (fun q _ q2 => h q q2)
  rw [this]; rfl

/-- The place behind a node's close; a node's k-th child. -/
def behN (f : Nat → Bool) (n a : Nat) : Nat := (forthN f a n 0).toNat + 1
def kid (f : Nat → Bool) (n u : Nat) : Nat → Nat
  | 0 => u + 1
  | k + 1 => behN f n (kid f n u k)
/-- A node's children; how many they are. -/
def isKid (f : Nat → Bool) (u v : Nat) : Bool := f v && decide (backN f 0 v 1 = (u : Int))
def kids (f : Nat → Bool) (n u : Nat) : Nat := cP (isKid f u) n
section
variable {f : Nat → Bool} {n : Nat}
theorem Bal.behN (b : Bal f n) {u : Nat} (hu : f u = true) (hn : u < n) : u + 1 < behN f n u ∧ behN f n u ≤ n ∧ e0 f (behN f n u) = e0 f u ∧ (∀ q, u < q → q < behN f n u → e0 f u < e0 f q) ∧ f (behN f n u - 1) = false ∧ forthN f u n 0 = (L.behN f n u : Int) - 1 := by
  obtain ⟨m, h1, h2, h3, h4, h5, h6, _⟩ := b.close hu hn
  have e : L.behN f n u = m := by unfold L.behN; rw [h3]; omega
  rw [e]; exact ⟨h1, h2, h4, h5, h6, h3⟩
theorem isKid_told {u v : Nat} (b : Bal f n) (hv : v < n) (h : isKid f u v = true) : f v = true ∧ u < v ∧ f u = true ∧ e0 f v = e0 f u + 1 ∧ ∀ q, u < q → q ≤ v → e0 f v ≤ e0 f q := by
  unfold isKid at h
  simp only [Bool.and_eq_true, decide_eq_true_eq] at h
  rcases b.parent h.1 hv with ⟨h1, _⟩ | ⟨j, h1, h2, h3, h4, h5⟩
  · rw [h1] at h; omega
  · obtain rfl : j = u := by have := h.2; rw [h2] at this; omega
    exact ⟨h.1, h1, h3, h4, h5⟩
theorem isKid_is {u v : Nat} (hv : f v = true) (huv : u < v) (he : e0 f v = e0 f u + 1) (hq : ∀ q, u < q → q < v → e0 f u < e0 f q) : isKid f u v = true := by
  unfold isKid
  rw [hv, back_is f v u 1 huv (by rw [eb_e0 f u v (by omega)]; omega) (fun q q1 q2 => by rw [eb_e0 f q v (by omega)]; have := hq q q1 q2; omega)]
  simp
theorem kid_inv (b : Bal f n) {u : Nat} (hu : f u = true) (hn : u < n) : ∀ k, (∀ j, j < k → f (kid f n u j) = true) → u < kid f n u k ∧ kid f n u k < behN f n u ∧ e0 f (kid f n u k) = e0 f u + 1 ∧ cP (isKid f u) (kid f n u k) = k
  | 0, _ => by
    obtain ⟨h1, h2, h3, h4, h5, h6⟩ := b.behN hu hn
    refine ⟨Nat.lt_succ_self _, h1, ?_, cP_none _ _ (fun i hi => ?_)⟩
    · show e0 f (u + 1) = _
      rw [e0_node, hu]; rfl
    · cases hk : isKid f u i with
      | false => rfl
      | true => have := (isKid_told b (show i < n by have : i < u + 1 := hi; omega) hk).2.1; have : i < u + 1 := hi; omega
  | k + 1, h => by
    obtain ⟨h1, h2, h3, h4, h5, h6⟩ := b.behN hu hn
    obtain ⟨i1, i2, i3, i4⟩ := kid_inv b hu hn k (fun j hj => h j (by omega))
    have ha := h k (by omega)
    obtain ⟨a1, a2, a3, a4, a5, a6⟩ := b.behN ha (by omega)
    show u < behN f n (kid f n u k) ∧ behN f n (kid f n u k) < _ ∧ _
    rw [show kid f n u (k + 1) = behN f n (kid f n u k) from rfl]
    generalize kid f n u k = a at *
    generalize behN f n a = ma at *
    generalize behN f n u = mu at *
    have hlt : ma < mu := by
      refine Classical.byContradiction fun hc => ?_
      rcases Nat.eq_or_lt_of_le (show mu ≤ ma by omega) with e | e
      · subst e; omega
      · have := a4 mu (by omega) e; omega
    refine ⟨by omega, hlt, by omega, ?_⟩
    have hA : isKid f u a = true := isKid_is ha i1 (by omega) (fun q q1 q2 => h4 q q1 (by omega))
    have hg := cP_skip (isKid f u) (a := a + 1) (b := ma) (by omega) (fun q q1 q2 => by
      cases hk : isKid f u q with
      | false => rfl
      | true =>
        have h7 := (isKid_told b (by omega) hk).2.2.2.1
        have h8 := a4 q (by omega) q2
        omega)
    rw [hg]
    show cP (isKid f u) a + _ = _
    rw [i4, hA]; rfl
theorem kid_end (b : Bal f n) {u : Nat} (hu : f u = true) (hn : u < n) (k : Nat) (h : ∀ j, j < k → f (kid f n u j) = true) (hk : f (kid f n u k) = false) : kids f n u = k := by
  obtain ⟨h1, h2, h3, h4, h5, h6⟩ := b.behN hu hn
  obtain ⟨i1, i2, i3, i4⟩ := kid_inv b hu hn k h
  have hm : behN f n u = kid f n u k + 1 := by
    rcases Nat.lt_or_ge (kid f n u k + 1) (behN f n u) with e | e
    · have h7 := h4 (kid f n u k + 1) (by omega) e
      rw [e0_node, hk, i3] at h7
      simp at h7; omega
    · omega
  unfold kids
  rw [cP_skip (isKid f u) (a := kid f n u k) (b := n) (by omega) (fun q q1 q2 => by
    cases hq : isKid f u q with
    | false => rfl
    | true =>
      obtain ⟨g1, g2, g3, g4, g5⟩ := isKid_told b q2 hq
      rcases Nat.eq_or_lt_of_le q1 with e | e
      · rw [← e, hk] at g1; cases g1
      · have := g5 (behN f n u) (by omega) (by omega)
        omega), i4]
theorem kids_le (f : Nat → Bool) (n u : Nat) : kids f n u ≤ n := cP_le _ _
theorem kid_true (b : Bal f n) {u : Nat} (hu : f u = true) (hn : u < n) : ∀ k, k < kids f n u → f (kid f n u k) = true := by
  intro k
  induction k using Nat.strongRecOn with
  | _ k ih =>
    intro hk
    cases hf : f (kid f n u k) with
    | true => rfl
    | false =>
      have := kid_end b hu hn k (fun j hj => ih j hj (by omega)) hf
      omega
theorem kid_false (b : Bal f n) {u : Nat} (hu : f u = true) (hn : u < n) : f (kid f n u (kids f n u)) = false := by
  cases hf : f (kid f n u (kids f n u)) with
  | false => rfl
  | true =>
    have h := kid_inv b hu hn (kids f n u + 1) (fun j hj => by
      rcases Nat.eq_or_lt_of_le (show j ≤ kids f n u by omega) with e | e
      · rw [e]; exact hf
      · exact kid_true b hu hn j e)
    have h2 := (b.behN hu hn).2.1
    have h3 := cP_mono (isKid f u) (kid f n u (kids f n u + 1)) (n - kid f n u (kids f n u + 1))
    rw [h.2.2.2, show kid f n u (kids f n u + 1) + (n - kid f n u (kids f n u + 1)) = n from by omega] at h3
    have h4 : kids f n u = cP (isKid f u) n := rfl
    omega
theorem kid_lt (b : Bal f n) {u : Nat} (hu : f u = true) (hn : u < n) (k : Nat) (hk : k ≤ kids f n u) : u < kid f n u k ∧ kid f n u k < n := by
  have h := kid_inv b hu hn k (fun j hj => kid_true b hu hn j (by omega))
  have := (b.behN hu hn).2.1
  omega
/-- A node's children, with their numbers. -/
def chl (f : Nat → Bool) (n u : Nat) : List (Nat × Nat) := (List.range (kids f n u)).map fun k => (k, kid f n u k)
theorem chl_length (f : Nat → Bool) (n u : Nat) : (chl f n u).length = kids f n u := by simp [chl]
theorem chl_succ (f : Nat → Bool) (n u : Nat) {k : Nat} (h : k < kids f n u) : (chl f n u).take (k + 1) = (chl f n u).take k ++ [(k, kid f n u k)] := by
  rw [List.take_succ_eq_append_getElem (by rw [chl_length]; exact h)]
  congr 2
  unfold chl
  rw [List.getElem_map, List.getElem_range]
theorem chl_all (f : Nat → Bool) (n u : Nat) : (chl f n u).take (kids f n u) = chl f n u := List.take_of_length_le (by rw [chl_length]; exact Nat.le_refl _)

/-- The nodes whose parent is ahead of a place. -/
def cU (f : Nat → Bool) (n p : Nat) : Nat := cP (fun v => f v && (decide (0 ≤ backN f 0 v 1) && decide (backN f 0 v 1 < (p : Int)))) n
/-- The nodes at the top ahead of a place. -/
def cT (f : Nat → Bool) (p : Nat) : Nat := cP (fun v => f v && decide (e0 f v = 0)) p
theorem cU_zero (f : Nat → Bool) (n : Nat) : cU f n 0 = 0 := cP_none _ _ (fun i _ => by
  cases h1 : f i <;> simp only [Bool.false_and, Bool.true_and]
  by_cases h2 : 0 ≤ backN f 0 i 1
  · rw [decide_eq_false (show ¬ backN f 0 i 1 < ((0 : Nat) : Int) by omega), Bool.and_false]
  · rw [decide_eq_false h2, Bool.false_and])
theorem cU_succ (f : Nat → Bool) (n p : Nat) : cU f n (p + 1) = cU f n p + kids f n p := by
  unfold cU kids
  rw [← cP_or]
  · refine cP_congr _ (fun i _ => ?_)
    unfold isKid
    cases f i with
    | false => rfl
    | true =>
      rw [Bool.eq_iff_iff]
      simp only [Bool.true_and, Bool.and_eq_true, decide_eq_true_eq, Bool.or_eq_true]
      omega
  · intro i _ h
    unfold isKid at h
    simp only [Bool.and_eq_true, decide_eq_true_eq] at h
    omega
theorem kids_not (b : Bal f n) {p : Nat} (h : f p = false) : kids f n p = 0 := cP_none _ _ (fun i hi => by
  cases hk : isKid f p i with
  | false => rfl
  | true => have := (isKid_told b hi hk).2.2.1; rw [h] at this; cases this)
theorem cU_all (b : Bal f n) : cU f n n + cT f n = cP f n := by
  unfold cU cT
  rw [← cP_or]
  · refine cP_congr _ (fun i hi => ?_)
    cases hf : f i with
    | false => rfl
    | true =>
      rcases b.parent hf hi with ⟨h1, h2⟩ | ⟨j, h1, h2, h3, h4, h5⟩
      · rw [h1, h2]; rfl
      · rw [h2, decide_eq_true (show (0 : Int) ≤ (j : Int) by omega), decide_eq_true (show (j : Int) < (n : Int) by omega)]; rfl
  · intro i hi h
    simp only [Bool.and_eq_true, decide_eq_true_eq] at h
    rcases b.parent h.1.1 hi with ⟨h1, h2⟩ | ⟨j, h1, h2, h3, h4, h5⟩
    · rw [h1] at h; omega
    · have := b.nonneg j (by omega); omega
theorem e0_cP (f : Nat → Bool) : ∀ p, e0 f p = 2 * (cP f p : Nat) - p
  | 0 => by rw [e0_zero]; rfl
  | p + 1 => by
    rw [e0_node, e0_cP f p]
    show _ = 2 * ((cP f p + (f p).toNat : Nat) : Int) - _
    cases f p <;> simp <;> omega
end
theorem kc_cP (bs : List Bool) : ∀ p, p ≤ bs.length → kc true bs p = cP (bitAt bs) p
  | 0, _ => rfl
  | p + 1, h => by
    rw [kc_next true bs p (by omega), kc_cP bs p (by omega)]
    show _ = cP (bitAt bs) p + _
    cases bitAt bs p <;> rfl
end Go.Proofs.YtacllonekidocaaDoor.L
