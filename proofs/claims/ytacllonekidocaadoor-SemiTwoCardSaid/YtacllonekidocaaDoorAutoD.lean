/- Plain laws of the automaton: brackets, blanks, keys, commas. No program in sight. -/
import Derived.Test.YtacllonekidocaaDoorAutoC
set_option linter.unusedVariables false
set_option linter.unusedSimpArgs false
namespace Go.Proofs.YtacllonekidocaaDoor.L

/-- A state between values. -/
def Q (M : Nat) (st : List Bool) (m : Nat) : St := ⟨M, false, 0, [], st, m⟩

theorem same_drive {l : List Nat} {q1 : St} (P : Nat → Bool) (hd : ∀ c, P c = true → delta q1 c = some q1) {a b : Nat} (hab : a ≤ b) (hb : b ≤ l.length) (h : ∀ i, a ≤ i → i < b → P (at_ l i) = true) : Dr l q1 a q1 b := by
  obtain ⟨n, rfl⟩ : ∃ n, b = a + n := ⟨b - a, by omega⟩
  induction n with
  | zero => exact Dr.refl (by omega)
  | succ n ih =>
    have h1 := ih (by omega) (by omega) (fun i h2 h3 => h i h2 (by omega))
    exact h1.trans (Dr.step (by omega) (hd _ (h _ (by omega) (by omega))))
theorem delta_blank {M : Nat} (hM : M ≤ 5) (st : List Bool) (m c : Nat) (h : blank c = true) : delta (Q M st m) c = some (Q M st m) := by
  have hc : M = 0 ∨ M = 1 ∨ M = 2 ∨ M = 3 ∨ M = 4 ∨ M = 5 := by omega
  rcases hc with rfl | rfl | rfl | rfl | rfl | rfl
  · show stepVal _ _ = _
    unfold stepVal; rw [if_pos h]; rfl
  · show (if blank c then _ else _) = _
    rw [if_pos h]; rfl
  · show (if blank c then _ else _) = _
    rw [if_pos h]; rfl
  · show stepKey _ _ = _
    unfold stepKey; rw [if_pos h]; rfl
  · show (if blank c then _ else _) = _
    rw [if_pos h]; rfl
  · show stepBeh _ _ = _
    unfold stepBeh; rw [if_pos h]; rfl
theorem blanks_R {l : List Nat} {M k k' : Nat} (hM : M ≤ 5) (st : List Bool) (m : Nat) (h1 : k ≤ k') (h2 : k' ≤ l.length) (h : ∀ i, k ≤ i → i < k' → blank (at_ l i) = true) : R l (Q M st m) k (Q M st m) k' :=
  R.of (same_drive blank (fun c hc => delta_blank hM st m c hc) h1 h2 h)

section
variable {l : List Nat} {k k' : Nat} {st : List Bool} {m : Nat} {ok : Bool}
theorem open_arr (h : at_ l k = 91) : R l (Q 0 st m) k (Q 1 (false :: st) (max m (st.length + 1))) (k + 1) := R.of (Dr.step (at_ne (by omega)) (by rw [h]; rfl))
theorem open_obj (h : at_ l k = 123) : R l (Q 0 st m) k (Q 2 (true :: st) (max m (st.length + 1))) (k + 1) := R.of (Dr.step (at_ne (by omega)) (by rw [h]; rfl))
theorem like_first (hb : blank (at_ l k) = false) (h : at_ l k ≠ 93) : Like l k (Q 1 st m) (Q 0 st m) := by
  refine like_of (fun _ => ?_) ?_ rfl
  · show (if blank (at_ l k) then _ else if at_ l k = 93 then _ else stepVal _ _) = stepVal _ _
    rw [if_neg (by rw [hb]; simp), if_neg h]; rfl
  · show (_ && false) = (_ && false); rw [Bool.and_false, Bool.and_false]
theorem like_firstk (hb : blank (at_ l k) = false) (h : at_ l k ≠ 125) : Like l k (Q 2 st m) (Q 3 st m) := by
  refine like_of (fun _ => ?_) ?_ rfl
  · show (if blank (at_ l k) then _ else if at_ l k = 125 then _ else stepKey _ _) = stepKey _ _
    rw [if_neg (by rw [hb]; simp), if_neg h]; rfl
  · show (_ && false) = (_ && false); rw [Bool.and_false, Bool.and_false]
theorem close_first (t : Bool) (h : at_ l k = 93) : delta (Q 1 (t :: st) m) (at_ l k) = some (Q 5 st m) := by rw [h]; rfl
theorem close_firstk (t : Bool) (h : at_ l k = 125) : delta (Q 2 (t :: st) m) (at_ l k) = some (Q 5 st m) := by rw [h]; rfl
theorem key_dead (hk : k ≤ l.length) (hb : blank (at_ l k) = false) (h : at_ l k ≠ 34) : Dead l (Q 3 st m) k := by
  refine dead_of hk (fun _ => ?_) (Bool.and_false _)
  show stepKey _ _ = _
  unfold stepKey
  rw [if_neg (by rw [hb]; simp), if_neg h]
theorem key_open (h : at_ l k = 34) : R l (Q 3 st m) k (toS (Q 3 st m) 6 true 0) (k + 1) := R.of (Dr.step (at_ne (by omega)) (by rw [h]; rfl))
theorem colon_R (h : at_ l k = 58) : R l (Q 4 st m) k (Q 0 st m) (k + 1) := R.of (Dr.step (at_ne (by omega)) (by rw [h]; rfl))
theorem colon_dead (hk : k ≤ l.length) (hb : blank (at_ l k) = false) (h : at_ l k ≠ 58) : Dead l (Q 4 st m) k := by
  refine dead_of hk (fun _ => ?_) (Bool.and_false _)
  show (if blank (at_ l k) then _ else if at_ l k = 58 then _ else none) = _
  rw [if_neg (by rw [hb]; simp), if_neg h]
theorem beh_fin (m : Nat) : fin (Q 5 [] m) = true := rfl
theorem beh_dead0 (hk : k < l.length) (hb : blank (at_ l k) = false) : Dead l (Q 5 [] m) k := by
  refine Or.inr ⟨hk, ?_⟩
  show stepBeh _ _ = _
  unfold stepBeh
  rw [if_neg (by rw [hb]; simp)]; rfl
theorem beh_step (t : Bool) (c : Nat) (hb : blank c = false) : delta (Q 5 (t :: st) m) c = (if c = 44 then some (Q (if t then 3 else 0) (t :: st) m) else if (c = 93 ∧ t = false) ∨ (c = 125 ∧ t = true) then some (Q 5 st m) else none) := by
  show stepBeh _ _ = _
  unfold stepBeh
  rw [if_neg (by rw [hb]; simp)]; rfl
theorem beh_key (h : at_ l k = 44) : R l (Q 5 (true :: st) m) k (Q 3 (true :: st) m) (k + 1) := R.of (Dr.step (at_ne (by omega)) (by rw [h]; rfl))
theorem beh_val (h : at_ l k = 44) : R l (Q 5 (false :: st) m) k (Q 0 (false :: st) m) (k + 1) := R.of (Dr.step (at_ne (by omega)) (by rw [h]; rfl))
theorem beh_close {t : Bool} (h : (at_ l k = 93 ∧ t = false) ∨ (at_ l k = 125 ∧ t = true)) : delta (Q 5 (t :: st) m) (at_ l k) = some (Q 5 st m) := by
  rcases h with ⟨h, rfl⟩ | ⟨h, rfl⟩ <;> (rw [h]; rfl)
theorem beh_dead {t : Bool} (hk : k ≤ l.length) (hb : blank (at_ l k) = false) (h1 : at_ l k ≠ 44) (h2 : ¬ ((at_ l k = 93 ∧ t = false) ∨ (at_ l k = 125 ∧ t = true))) : Dead l (Q 5 (t :: st) m) k := by
  refine dead_of hk (fun _ => ?_) rfl
  rw [beh_step t _ hb, if_neg h1, if_neg h2]
end

end Go.Proofs.YtacllonekidocaaDoor.L
