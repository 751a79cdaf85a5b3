/- Plain laws of verdicts: a text within brackets; many brackets; blanks about a text. No program in sight. -/
import Derived.Test.YtacllonekidocaaDoorLawScan
set_option linter.unusedVariables false
set_option linter.unusedSimpArgs false
namespace Go.Proofs.YtacllonekidocaaDoor.L

/-- The same state, with more brackets open below. -/
def lift (base : List Bool) (mo : Nat) (q : St) : St := ⟨q.m, q.k, q.n, q.rest, q.st ++ base, max mo (q.most + base.length)⟩
def Good (q : St) : Prop := (q.m = 1 ∨ q.m = 2) → q.st ≠ []
theorem good_ne {q : St} (h : q.m ≠ 1 ∧ q.m ≠ 2) : Good q := fun h2 => by omega
theorem lift_open (base : List Bool) (mo : Nat) (q : St) (t : Bool) : openB (lift base mo q) t = lift base mo (openB q t) := by
  unfold openB lift
  simp only [List.length_append, List.cons_append]
  congr 1
  omega
theorem lift_close (base : List Bool) (mo : Nat) (q : St) (h : q.st ≠ []) : closeB (lift base mo q) = lift base mo (closeB q) := by
  unfold closeB lift
  simp only []
  congr 1
  cases hs : q.st with
  | nil => exact absurd hs h
  | cons t st => rfl
theorem lift_beh {base : List Bool} {mo : Nat} {q q' : St} {c : Nat} (h : stepBeh q c = some q') : stepBeh (lift base mo q) c = some (lift base mo q') ∧ Good q' := by
  unfold stepBeh at h ⊢
  by_cases hb : blank c = true
  · rw [if_pos hb] at h ⊢
    obtain rfl := Option.some.inj h
    exact ⟨rfl, good_ne ⟨by show (5 : Nat) ≠ 1; omega, by show (5 : Nat) ≠ 2; omega⟩⟩
  · rw [if_neg hb] at h ⊢
    cases hs : q.st with
    | nil => rw [hs] at h; cases h
    | cons t st =>
      rw [hs] at h
      have hl : (lift base mo q).st = t :: (st ++ base) := by show q.st ++ base = _; rw [hs]; rfl
      rw [hl]
      simp only [] at h ⊢
      split at h
      · rename_i h44
        obtain rfl := Option.some.inj h
        rw [if_pos h44]
        refine ⟨rfl, good_ne ?_⟩
        cases t
        · exact ⟨by show (0 : Nat) ≠ 1; omega, by show (0 : Nat) ≠ 2; omega⟩
        · exact ⟨by show (3 : Nat) ≠ 1; omega, by show (3 : Nat) ≠ 2; omega⟩
      · rename_i h44
        rw [if_neg h44]
        split at h
        · rename_i hc
          obtain rfl := Option.some.inj h
          rw [if_pos hc, lift_close base mo q (by rw [hs]; simp)]
          exact ⟨rfl, good_ne ⟨by show (5 : Nat) ≠ 1; omega, by show (5 : Nat) ≠ 2; omega⟩⟩
        · cases h
theorem good_to (q : St) (m : Nat) (h : m ≠ 1 ∧ m ≠ 2) : Good (to q m) := good_ne h
theorem lift_val {base : List Bool} {mo : Nat} {q q' : St} {c : Nat} (h : stepVal q c = some q') : stepVal (lift base mo q) c = some (lift base mo q') ∧ Good q' := by
  unfold stepVal at h ⊢
  split at h
  · rename_i h1; rw [if_pos h1]; obtain rfl := Option.some.inj h; exact ⟨rfl, good_to _ _ (by omega)⟩
  · rename_i h1; rw [if_neg h1]
    split at h
    · rename_i h2; rw [if_pos h2]; obtain rfl := Option.some.inj h; exact ⟨by rw [lift_open], fun _ => by show _ :: _ ≠ []; simp⟩
    · rename_i h2; rw [if_neg h2]
      split at h
      · rename_i h3; rw [if_pos h3]; obtain rfl := Option.some.inj h; exact ⟨by rw [lift_open], fun _ => by show _ :: _ ≠ []; simp⟩
      · rename_i h3; rw [if_neg h3]
        split at h
        · rename_i h4; rw [if_pos h4]; obtain rfl := Option.some.inj h; exact ⟨rfl, good_ne ⟨by show (6 : Nat) ≠ 1; omega, by show (6 : Nat) ≠ 2; omega⟩⟩
        · rename_i h4; rw [if_neg h4]
          split at h
          · rename_i h5; rw [if_pos h5]; obtain rfl := Option.some.inj h; exact ⟨rfl, good_ne ⟨by show (9 : Nat) ≠ 1; omega, by show (9 : Nat) ≠ 2; omega⟩⟩
          · rename_i h5; rw [if_neg h5]
            split at h
            · rename_i h6; rw [if_pos h6]; obtain rfl := Option.some.inj h; exact ⟨rfl, good_ne ⟨by show (9 : Nat) ≠ 1; omega, by show (9 : Nat) ≠ 2; omega⟩⟩
            · rename_i h6; rw [if_neg h6]
              split at h
              · rename_i h7; rw [if_pos h7]; obtain rfl := Option.some.inj h; exact ⟨rfl, good_ne ⟨by show (9 : Nat) ≠ 1; omega, by show (9 : Nat) ≠ 2; omega⟩⟩
              · rename_i h7; rw [if_neg h7]
                split at h
                · rename_i h8; rw [if_pos h8]; obtain rfl := Option.some.inj h; exact ⟨rfl, good_to _ _ (by omega)⟩
                · rename_i h8; rw [if_neg h8]
                  split at h
                  · rename_i h9; rw [if_pos h9]; obtain rfl := Option.some.inj h; exact ⟨rfl, good_to _ _ (by omega)⟩
                  · rename_i h9; rw [if_neg h9]
                    split at h
                    · rename_i h10; rw [if_pos h10]; obtain rfl := Option.some.inj h; exact ⟨rfl, good_to _ _ (by omega)⟩
                    · cases h
theorem lift_key {base : List Bool} {mo : Nat} {q q' : St} {c : Nat} (h : stepKey q c = some q') : stepKey (lift base mo q) c = some (lift base mo q') ∧ Good q' := by
  unfold stepKey at h ⊢
  split at h
  · rename_i h1; rw [if_pos h1]; obtain rfl := Option.some.inj h; exact ⟨rfl, good_to _ _ (by omega)⟩
  · rename_i h1; rw [if_neg h1]
    split at h
    · rename_i h2; rw [if_pos h2]; obtain rfl := Option.some.inj h; exact ⟨rfl, good_ne ⟨by show (6 : Nat) ≠ 1; omega, by show (6 : Nat) ≠ 2; omega⟩⟩
    · cases h
theorem lift_m (base : List Bool) (mo : Nat) (q : St) : (lift base mo q).m = q.m := rfl
theorem lift_step {base : List Bool} {mo : Nat} {q q' : St} {c : Nat} (hg : Good q) (h : delta q c = some q') : delta (lift base mo q) c = some (lift base mo q') ∧ Good q' := by
  unfold delta at h ⊢
  rw [lift_m]
  split at h
  all_goals rename_i hm
  · exact lift_val h
  · split at h
    · rename_i h1; rw [if_pos h1]; obtain rfl := Option.some.inj h; exact ⟨rfl, fun _ => by show q.st ≠ []; exact hg (Or.inl hm)⟩
    · rename_i h1; rw [if_neg h1]
      split at h
      · rename_i h2; rw [if_pos h2]; obtain rfl := Option.some.inj h; exact ⟨by rw [lift_close base mo q (hg (Or.inl hm))], good_ne ⟨by show (5 : Nat) ≠ 1; omega, by show (5 : Nat) ≠ 2; omega⟩⟩
      · rename_i h2; rw [if_neg h2]; exact lift_val h
  · split at h
    · rename_i h1; rw [if_pos h1]; obtain rfl := Option.some.inj h; exact ⟨rfl, fun _ => by show q.st ≠ []; exact hg (Or.inr hm)⟩
    · rename_i h1; rw [if_neg h1]
      split at h
      · rename_i h2; rw [if_pos h2]; obtain rfl := Option.some.inj h; exact ⟨by rw [lift_close base mo q (hg (Or.inr hm))], good_ne ⟨by show (5 : Nat) ≠ 1; omega, by show (5 : Nat) ≠ 2; omega⟩⟩
      · rename_i h2; rw [if_neg h2]; exact lift_key h
  · exact lift_key h
  · split at h
    · rename_i h1; rw [if_pos h1]; obtain rfl := Option.some.inj h; exact ⟨rfl, good_to _ _ (by omega)⟩
    · rename_i h1; rw [if_neg h1]
      split at h
      · rename_i h2; rw [if_pos h2]; obtain rfl := Option.some.inj h; exact ⟨rfl, good_to _ _ (by omega)⟩
      · cases h
  · exact lift_beh h
  · unfold stepStr at h ⊢
    have e1 : (lift base mo q).n = q.n := rfl
    have e2 : (lift base mo q).k = q.k := rfl
    rw [e1, e2]
    split at h
    · cases h
    · rename_i h1; rw [if_neg h1]
      split at h
      · rename_i h2; rw [if_pos h2]; obtain rfl := Option.some.inj h; exact ⟨rfl, good_to _ _ (by split <;> omega)⟩
      · rename_i h2; rw [if_neg h2]
        split at h
        · rename_i h3; rw [if_pos h3]; obtain rfl := Option.some.inj h; exact ⟨rfl, good_ne ⟨by show (7 : Nat) ≠ 1; omega, by show (7 : Nat) ≠ 2; omega⟩⟩
        · rename_i h3; rw [if_neg h3]
          split at h
          · cases h
          · rename_i h4; rw [if_neg h4]; obtain rfl := Option.some.inj h; exact ⟨rfl, good_ne ⟨by show (6 : Nat) ≠ 1; omega, by show (6 : Nat) ≠ 2; omega⟩⟩
  · unfold stepEsc at h ⊢
    split at h
    · rename_i h1; rw [if_pos h1]; obtain rfl := Option.some.inj h; exact ⟨rfl, good_ne ⟨by show (8 : Nat) ≠ 1; omega, by show (8 : Nat) ≠ 2; omega⟩⟩
    · rename_i h1; rw [if_neg h1]
      split at h
      · rename_i h2; rw [if_pos h2]; obtain rfl := Option.some.inj h; exact ⟨rfl, good_ne ⟨by show (6 : Nat) ≠ 1; omega, by show (6 : Nat) ≠ 2; omega⟩⟩
      · cases h
  · split at h
    · rename_i h1; rw [if_pos h1]; obtain rfl := Option.some.inj h
      have e1 : (lift base mo q).n = q.n := rfl
      rw [e1]
      by_cases h2 : q.n = 1
      · rw [if_pos h2, if_pos h2]; exact ⟨rfl, good_ne ⟨by show (6 : Nat) ≠ 1; omega, by show (6 : Nat) ≠ 2; omega⟩⟩
      · rw [if_neg h2, if_neg h2]; exact ⟨rfl, good_ne ⟨by show (8 : Nat) ≠ 1; omega, by show (8 : Nat) ≠ 2; omega⟩⟩
    · cases h
  · unfold stepLit at h ⊢
    have e1 : (lift base mo q).rest = q.rest := rfl
    rw [e1]
    cases hr : q.rest with
    | nil => rw [hr] at h; cases h
    | cons x r =>
      rw [hr] at h
      simp only [] at h ⊢
      split at h
      · rename_i h1; rw [if_pos h1]; obtain rfl := Option.some.inj h
        by_cases h2 : r = []
        · rw [if_pos h2, if_pos h2]; exact ⟨rfl, good_to _ _ (by omega)⟩
        · rw [if_neg h2, if_neg h2]; exact ⟨rfl, good_ne ⟨by show (9 : Nat) ≠ 1; omega, by show (9 : Nat) ≠ 2; omega⟩⟩
      · cases h
  · split at h
    · rename_i h1; rw [if_pos h1]; obtain rfl := Option.some.inj h; exact ⟨rfl, good_to _ _ (by omega)⟩
    · rename_i h1; rw [if_neg h1]
      split at h
      · rename_i h2; rw [if_pos h2]; obtain rfl := Option.some.inj h; exact ⟨rfl, good_to _ _ (by omega)⟩
      · cases h
  · split at h
    · rename_i h1; rw [if_pos h1]; obtain rfl := Option.some.inj h; exact ⟨rfl, good_to _ _ (by omega)⟩
    · rename_i h1; rw [if_neg h1]
      split at h
      · rename_i h2; rw [if_pos h2]; obtain rfl := Option.some.inj h; exact ⟨rfl, good_to _ _ (by omega)⟩
      · rename_i h2; rw [if_neg h2]; exact lift_beh h
  · split at h
    · rename_i h1; rw [if_pos h1]; obtain rfl := Option.some.inj h; exact ⟨rfl, good_to _ _ (by omega)⟩
    · rename_i h1; rw [if_neg h1]
      split at h
      · rename_i h2; rw [if_pos h2]; obtain rfl := Option.some.inj h; exact ⟨rfl, good_to _ _ (by omega)⟩
      · rename_i h2; rw [if_neg h2]
        split at h
        · rename_i h3; rw [if_pos h3]; obtain rfl := Option.some.inj h; exact ⟨rfl, good_to _ _ (by omega)⟩
        · rename_i h3; rw [if_neg h3]; exact lift_beh h
  · split at h
    · rename_i h1; rw [if_pos h1]; obtain rfl := Option.some.inj h; exact ⟨rfl, good_to _ _ (by omega)⟩
    · cases h
  · split at h
    · rename_i h1; rw [if_pos h1]; obtain rfl := Option.some.inj h; exact ⟨rfl, good_to _ _ (by omega)⟩
    · rename_i h1; rw [if_neg h1]
      split at h
      · rename_i h2; rw [if_pos h2]; obtain rfl := Option.some.inj h; exact ⟨rfl, good_to _ _ (by omega)⟩
      · rename_i h2; rw [if_neg h2]; exact lift_beh h
  · split at h
    · rename_i h1; rw [if_pos h1]; obtain rfl := Option.some.inj h; exact ⟨rfl, good_to _ _ (by omega)⟩
    · rename_i h1; rw [if_neg h1]
      split at h
      · rename_i h2; rw [if_pos h2]; obtain rfl := Option.some.inj h; exact ⟨rfl, good_to _ _ (by omega)⟩
      · cases h
  · split at h
    · rename_i h1; rw [if_pos h1]; obtain rfl := Option.some.inj h; exact ⟨rfl, good_to _ _ (by omega)⟩
    · cases h
  · split at h
    · rename_i h1; rw [if_pos h1]; obtain rfl := Option.some.inj h; exact ⟨rfl, good_to _ _ (by omega)⟩
    · rename_i h1; rw [if_neg h1]; exact lift_beh h
  · cases h
theorem lift_drive {base : List Bool} {mo : Nat} : ∀ (l : List Nat) (q q' : St), Good q → drive q l = some q' → drive (lift base mo q) l = some (lift base mo q') ∧ Good q'
  | [], q, q', hg, h => by simp [drive] at h; subst h; exact ⟨rfl, hg⟩
  | c :: l, q, q', hg, h => by
    simp only [drive] at h ⊢
    cases hd : delta q c with
    | none => rw [hd] at h; cases h
    | some q1 =>
      rw [hd] at h
      obtain ⟨h1, h2⟩ := lift_step (base := base) (mo := mo) hg hd
      rw [h1]
      exact lift_drive l q1 q' h2 h

/-- A text that is one, as a drive. -/
theorem goA_to_drive : ∀ (l : List Nat) (q : St) (a : Nat), (goA q l a).2 = a + l.length → drive q l = some (goA q l a).1
  | [], q, a, h => rfl
  | c :: l, q, a, h => by
    simp only [goA, drive] at h ⊢
    cases hd : delta q c with
    | none => rw [hd] at h; simp at h
    | some q' =>
      rw [hd] at h
      simp only [List.length_cons] at h ⊢
      exact goA_to_drive l q' (a + 1) (by omega)
theorem drive_to_goA {l : List Nat} {q q' : St} (h : drive q l = some q') (a : Nat) : goA q l a = (q', a + l.length) := by
  have := goA_drive l [] q q' a h
  rw [List.append_nil] at this
  rw [this]; rfl
/-- What a value is in an array's first place. -/
theorem first_drive {st : List Bool} {m : Nat} : ∀ (l : List Nat) (q : St), drive (Q 0 st m) l = some q → drive (Q 1 st m) l = some q ∨ q = Q 0 st m
  | [], q, h => by simp [drive] at h; exact Or.inr h.symm
  | c :: l, q, h => by
    simp only [drive] at h ⊢
    by_cases hb : blank c = true
    · rw [delta_blank (by omega) st m c hb] at h ⊢
      exact first_drive l q h
    · have hbf : blank c = false := by simpa using hb
      have h93 : c ≠ 93 := by
        rintro rfl
        have : delta (Q 0 st m) 93 = none := rfl
        rw [this] at h; cases h
      have : delta (Q 1 st m) c = delta (Q 0 st m) c := by
        show (if blank c then _ else if c = 93 then _ else stepVal _ _) = stepVal _ _
        rw [if_neg hb, if_neg h93]; rfl
      rw [this]
      exact Or.inl h
/-- In an end within brackets. -/
theorem end_comma {q : St} (t : Bool) (st : List Bool) (hm : q.m = 5 ∨ q.m = 11 ∨ q.m = 12 ∨ q.m = 14 ∨ q.m = 17) (hs : q.st = t :: st) : delta q 44 = some (Q (if t then 3 else 0) (t :: st) q.most) := by
  have hbe : stepBeh q 44 = some (Q (if t then 3 else 0) (t :: st) q.most) := by
    unfold stepBeh
    rw [hs, if_neg (by decide)]
    simp only [if_true]
    rw [show to q (if t then 3 else 0) = Q (if t then 3 else 0) q.st q.most from rfl, hs]
  unfold delta
  rcases hm with h | h | h | h | h <;> (rw [h]; exact hbe)
theorem end_close {q : St} (t : Bool) (st : List Bool) (hm : q.m = 5 ∨ q.m = 11 ∨ q.m = 12 ∨ q.m = 14 ∨ q.m = 17) (hs : q.st = t :: st) : delta q (if t then 125 else 93) = some (Q 5 st q.most) := by
  have hbe : stepBeh q (if t then 125 else 93) = some (Q 5 st q.most) := by
    unfold stepBeh
    rw [hs]
    cases t
    · rw [if_neg (by decide)]
      show some (closeB q) = _
      unfold closeB Q; rw [hs]; rfl
    · rw [if_neg (by decide)]
      show some (closeB q) = _
      unfold closeB Q; rw [hs]; rfl
  unfold delta
  cases t
  · rcases hm with h | h | h | h | h <;> (rw [h]; exact hbe)
  · rcases hm with h | h | h | h | h <;> (rw [h]; exact hbe)
theorem drive_one {q q' : St} {c : Nat} (h : delta q c = some q') : drive q [c] = some q' := by simp [drive, h]
theorem drive_app {q q' q'' : St} {l m : List Nat} (h : drive q l = some q') (k : drive q' m = some q'') : drive q (l ++ m) = some q'' := by rw [drive_append, h]; exact k

/-- A text's own drive, and in brackets. -/
theorem text_drive {l : List Nat} (h1 : (goA start l 0).2 = l.length) (h2 : fin (goA start l 0).1 = true) (t : Bool) (mo : Nat) (hmo : 1 ≤ mo) :
    ∃ q, drive (Q 0 [t] mo) l = some q ∧ (q.m = 5 ∨ q.m = 11 ∨ q.m = 12 ∨ q.m = 14 ∨ q.m = 17) ∧ q.st = [t] ∧ q.most = max mo ((goA start l 0).1.most + 1) := by
  have hd := goA_to_drive l start 0 (by omega)
  obtain ⟨h3, h4⟩ := (fin_iff _).1 h2
  have hl := (lift_drive (base := [t]) (mo := mo) l start _ (good_ne ⟨by show (0 : Nat) ≠ 1; omega, by show (0 : Nat) ≠ 2; omega⟩) hd).1
  have hs : lift [t] mo start = Q 0 [t] mo := by
    unfold lift start Q
    simp only [List.nil_append, List.length_cons, List.length_nil]
    congr 1; omega
  rw [hs] at hl
  refine ⟨_, hl, h4, ?_, rfl⟩
  show (goA start l 0).1.st ++ [t] = _
  rw [h3]; rfl

theorem nest_arr {l r : List Nat} (h1 : (goA start l 0).2 = l.length) (h2 : fin (goA start l 0).1 = true) (k1 : (goA start r 0).2 = r.length) (k2 : fin (goA start r 0).1 = true) :
    drive start ([91] ++ l ++ [44] ++ r ++ [93]) = some (Q 5 [] (max (goA start l 0).1.most (goA start r 0).1.most + 1)) := by
  obtain ⟨q, d1, d2, d3, d4⟩ := text_drive h1 h2 false 1 (Nat.le_refl _)
  have d1' : drive (Q 1 [false] 1) l = some q := by
    rcases first_drive l q d1 with h | h
    · exact h
    · rw [h] at d2
      have : (Q 0 [false] 1).m = 0 := rfl
      omega
  obtain ⟨p, e1, e2, e3, e4⟩ := text_drive k1 k2 false q.most (by rw [d4]; omega)
  have hq : drive start [91] = some (Q 1 [false] 1) := rfl
  have hp := end_close false [] e2 e3
  refine (drive_app (drive_app (drive_app (drive_app hq d1') (drive_one (end_comma false [] d2 d3))) e1) (drive_one hp)).trans ?_
  rw [e4, d4]
  congr 2; omega
theorem nest_obj {l r : List Nat} (h1 : (goA start l 0).2 = l.length) (h2 : fin (goA start l 0).1 = true) (k1 : (goA start r 0).2 = r.length) (k2 : fin (goA start r 0).1 = true) :
    drive start ([123, 34, 97, 34, 58] ++ l ++ [44, 34, 34, 58] ++ r ++ [125]) = some (Q 5 [] (max (goA start l 0).1.most (goA start r 0).1.most + 1)) := by
  obtain ⟨q, d1, d2, d3, d4⟩ := text_drive h1 h2 true 1 (Nat.le_refl _)
  obtain ⟨p, e1, e2, e3, e4⟩ := text_drive k1 k2 true q.most (by rw [d4]; omega)
  have hq : drive start [123, 34, 97, 34, 58] = some (Q 0 [true] 1) := rfl
  have hk : drive q [44, 34, 34, 58] = some (Q 0 [true] q.most) := by
    show (match delta q 44 with | none => none | some q' => drive q' [34, 34, 58]) = _
    rw [end_comma true [] d2 d3]; rfl
  have hp := end_close true [] e2 e3
  refine (drive_app (drive_app (drive_app (drive_app hq d1) hk) e1) (drive_one hp)).trans ?_
  rw [e4, d4]
  congr 2; omega

end Go.Proofs.YtacllonekidocaaDoor.L
