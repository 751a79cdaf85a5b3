/- Plain laws: the marks of a text, their places and bits; of a JSON text the bits are balanced. No program in sight. -/
import Derived.Test.YtacllonekidocaaDoorLawScanB
import Derived.Test.YtacllonekidocaaDoorMaths
set_option linter.unusedVariables false
set_option linter.unusedSimpArgs false
namespace Go.Proofs.YtacllonekidocaaDoor.L

/-- Outside a string (0), in one (1), behind its backslash (2): the state behind a byte. -/
def mstep (s c : Nat) : Nat := if s = 0 then (if c = 34 then 1 else 0) else if s = 1 then (if c = 34 then 0 else if c = 92 then 2 else 1) else 1
def isM (c : Nat) : Bool := c == 91 || c == 93 || c == 123 || c == 125 || c == 58 || c == 44
def isMk (s c : Nat) : Bool := s == 0 && isM c
/-- The marks, with their places. -/
def mkGo : Nat → List Nat → Nat → List (Nat × Nat)
  | _, [], _ => []
  | s, c :: l, p => (if isMk s c then [(p, c)] else []) ++ mkGo (mstep s c) l (p + 1)
def mrun (s : Nat) (l : List Nat) : Nat := l.foldl mstep s
theorem mkGo_append : ∀ (l m : List Nat) (s p : Nat), mkGo s (l ++ m) p = mkGo s l p ++ mkGo (mrun s l) m (p + l.length)
  | [], m, s, p => by simp [mkGo, mrun]
  | c :: l, m, s, p => by
    rw [List.cons_append]
    show _ ++ mkGo (mstep s c) (l ++ m) (p + 1) = _ ++ mkGo (mstep s c) l (p + 1) ++ mkGo (mrun (mstep s c) l) m _
    rw [mkGo_append l m (mstep s c) (p + 1), List.append_assoc, show p + 1 + l.length = p + (c :: l).length from by simp; omega]
theorem mkGo_shift : ∀ (l : List Nat) (s p q : Nat), mkGo s l (p + q) = (mkGo s l p).map fun x => (x.1 + q, x.2)
  | [], s, p, q => rfl
  | c :: l, s, p, q => by
    show _ ++ mkGo (mstep s c) l (p + q + 1) = (_ ++ mkGo (mstep s c) l (p + 1)).map _
    rw [List.map_append, ← mkGo_shift l (mstep s c) (p + 1) q, show p + q + 1 = p + 1 + q from by omega]
    congr 1
    cases isMk s c <;> rfl
theorem mkGo_ge : ∀ (l : List Nat) (s p : Nat), ∀ x ∈ mkGo s l p, p ≤ x.1 ∧ x.1 < p + l.length
  | [], s, p, x, h => by cases h
  | c :: l, s, p, x, h => by
    rcases List.mem_append.1 (show x ∈ (if isMk s c then [(p, c)] else []) ++ mkGo (mstep s c) l (p + 1) from h) with h1 | h1
    · cases hm : isMk s c with
      | false => rw [hm] at h1; cases h1
      | true =>
        rw [hm] at h1
        rcases List.mem_cons.1 h1 with rfl | h2
        · simp
        · cases h2
    · have := mkGo_ge l (mstep s c) (p + 1) x h1
      simp; omega
/-- The places rise. -/
theorem mkGo_rise : ∀ (l : List Nat) (s p : Nat), (mkGo s l p).Pairwise fun x y => x.1 < y.1
  | [], s, p => List.Pairwise.nil
  | c :: l, s, p => by
    refine List.pairwise_append.2 ⟨?_, mkGo_rise l (mstep s c) (p + 1), fun x hx y hy => ?_⟩
    · cases isMk s c
      · exact List.Pairwise.nil
      · exact List.pairwise_singleton _ _
    · have h2 := mkGo_ge l (mstep s c) (p + 1) y hy
      cases hm : isMk s c with
      | false => rw [hm] at hx; cases hx
      | true =>
        rw [hm] at hx
        rcases List.mem_cons.1 hx with rfl | h3
        · show p < y.1; omega
        · cases h3
def mks (l : List Nat) : List (Nat × Nat) := mkGo 0 l 0
def places (l : List Nat) : List Nat := (mks l).map Prod.fst
def bits2 (c : Nat) : List Bool := if c = 91 ∨ c = 123 then [true, true] else if c = 93 ∨ c = 125 then [false, false] else [false, true]
def parens (l : List Nat) : List Bool := (mks l).flatMap fun x => bits2 x.2
theorem bits2_length (c : Nat) : (bits2 c).length = 2 := by unfold bits2; split <;> (try split) <;> rfl
theorem places_length (l : List Nat) : (places l).length = (mks l).length := by unfold places; rw [List.length_map]
theorem parens_two (m : List (Nat × Nat)) : (m.flatMap fun x => bits2 x.2).length = 2 * m.length := by
  induction m with
  | nil => rfl
  | cons x m ih => rw [List.flatMap_cons, List.length_append, ih, bits2_length, List.length_cons]; omega
theorem parens_length (l : List Nat) : (parens l).length = 2 * (mks l).length := parens_two _
theorem mkGo_length : ∀ (l : List Nat) (s p : Nat), (mkGo s l p).length ≤ l.length
  | [], s, p => Nat.le_refl _
  | c :: l, s, p => by
    have := mkGo_length l (mstep s c) (p + 1)
    show (_ ++ mkGo (mstep s c) l (p + 1)).length ≤ _
    rw [List.length_append, List.length_cons]
    cases isMk s c <;> simp <;> omega
theorem mks_length (l : List Nat) : (mks l).length ≤ l.length := mkGo_length l 0 0
theorem places_lt (l : List Nat) : ∀ x ∈ places l, x < l.length := fun x h => by
  obtain ⟨y, h1, rfl⟩ := List.mem_map.1 h
  have := mkGo_ge l 0 0 y h1; omega
theorem places_rise (l : List Nat) : (places l).Pairwise (· < ·) := by
  unfold places
  rw [List.pairwise_map]
  exact mkGo_rise l 0 0

/-- A row that isn't below 0 anywhere, with that excess in all. -/
def NN (bs : List Bool) (d : Int) : Prop := ex (bitAt bs) bs.length = d ∧ ∀ q, q ≤ bs.length → 0 ≤ ex (bitAt bs) q
theorem NN.nil : NN [] 0 := ⟨rfl, fun q h => by
  have h0 : q = 0 := Nat.le_zero.1 h
  rw [h0]; exact Int.le_refl _⟩
theorem NN.snoc {bs : List Bool} {d : Int} (h : NN bs d) (b : Bool) {d' : Int} (hd : d' = d + sgn b) (h0 : 0 ≤ d') : NN (bs ++ [b]) d' := by
  have h1 : ∀ q, q ≤ bs.length → ex (bitAt (bs ++ [b])) q = ex (bitAt bs) q := fun q hq => ex_congr q (fun i hi => by rw [bitAt_append, if_pos (by omega)])
  have h2 : ex (bitAt (bs ++ [b])) (bs ++ [b]).length = d' := by
    rw [List.length_append]
    show ex (bitAt (bs ++ [b])) (bs.length + 1) = d'
    have : ex (bitAt (bs ++ [b])) (bs.length + 1) = ex (bitAt (bs ++ [b])) bs.length + sgn (bitAt (bs ++ [b]) bs.length) := rfl
    rw [this, h1 _ (Nat.le_refl _), h.1, bitAt_append, if_neg (by omega), Nat.sub_self, hd]
    rfl
  refine ⟨h2, fun q hq => ?_⟩
  rcases Nat.eq_or_lt_of_le hq with e | e
  · rw [e, h2]; exact h0
  · rw [List.length_append] at e
    rw [h1 q (by simp at e; omega)]
    exact h.2 q (by simp at e; omega)
theorem NN.bal {bs : List Bool} (h : NN bs 0) : bal (bitAt bs) bs.length = true := (bal_iff _ _).2 h
theorem NN.up {bs : List Bool} {n : Nat} (h : NN bs (2 * n : Nat)) : NN (bs ++ [true, true]) (2 * (n + 1) : Nat) := by
  have := (h.snoc true (d' := 2 * n + 1) (by simp [sgn]) (by omega)).snoc true (d' := (2 * (n + 1) : Nat)) (by simp [sgn]; omega) (by omega)
  rwa [List.append_assoc] at this
theorem NN.down {bs : List Bool} {n : Nat} (h : NN bs (2 * (n + 1) : Nat)) : NN (bs ++ [false, false]) (2 * n : Nat) := by
  have := (h.snoc false (d' := 2 * n + 1) (by simp [sgn]; omega) (by omega)).snoc false (d' := (2 * n : Nat)) (by simp [sgn]; omega) (by omega)
  rwa [List.append_assoc] at this
theorem NN.stay {bs : List Bool} {n : Nat} (h : NN bs (2 * (n + 1) : Nat)) : NN (bs ++ [false, true]) (2 * (n + 1) : Nat) := by
  have := (h.snoc false (d' := 2 * n + 1) (by simp [sgn]; omega) (by omega)).snoc true (d' := (2 * (n + 1) : Nat)) (by simp [sgn]; omega) (by omega)
  rwa [List.append_assoc] at this

/-- The scanner's state, as to strings. -/
def cls (q : St) : Nat := if q.m = 6 ∨ q.m = 8 then 1 else if q.m = 7 then 2 else 0
/-- Where there is a key, or a colon, or a bracket just opened, a bracket is open; words are of letters. -/
def Kept (q : St) : Prop := ((q.m = 1 ∨ q.m = 2 ∨ q.m = 3 ∨ q.m = 4 ∨ ((q.m = 6 ∨ q.m = 7 ∨ q.m = 8) ∧ q.k = true)) → q.st ≠ []) ∧ ∀ x ∈ q.rest, 97 ≤ x ∧ x ≤ 122
/-- A byte's effect on the open brackets. -/
def Eff (q q' : St) (c : Nat) : Prop :=
  cls q' = mstep (cls q) c ∧ Kept q' ∧
  if isMk (cls q) c then (if c = 91 ∨ c = 123 then q'.st.length = q.st.length + 1 else if c = 93 ∨ c = 125 then q.st.length = q'.st.length + 1 else q'.st.length = q.st.length ∧ 0 < q.st.length)
  else q'.st.length = q.st.length
theorem kept_to {q : St} {m : Nat} (h : (m = 1 ∨ m = 2 ∨ m = 3 ∨ m = 4) → q.st ≠ []) (hm : m ≠ 6 ∧ m ≠ 7 ∧ m ≠ 8) : Kept (to q m) := by
  refine ⟨fun h1 => ?_, fun x hx => by cases hx⟩
  show q.st ≠ []
  refine h ?_
  rcases h1 with h1 | h1 | h1 | h1 | ⟨h1, _⟩
  · exact Or.inl h1
  · exact Or.inr (Or.inl h1)
  · exact Or.inr (Or.inr (Or.inl h1))
  · exact Or.inr (Or.inr (Or.inr h1))
  · have : m = 6 ∨ m = 7 ∨ m = 8 := h1
    omega
theorem isM_not {c : Nat} (h : c ≠ 91 ∧ c ≠ 93 ∧ c ≠ 123 ∧ c ≠ 125 ∧ c ≠ 58 ∧ c ≠ 44) : isM c = false := by
  unfold isM
  simp only [Bool.or_eq_false_iff, beq_eq_false_iff_ne]
  exact ⟨⟨⟨⟨⟨h.1, h.2.1⟩, h.2.2.1⟩, h.2.2.2.1⟩, h.2.2.2.2.1⟩, h.2.2.2.2.2⟩
theorem mk_not {s c : Nat} (h : s ≠ 0 ∨ isM c = false) : isMk s c = false := by
  unfold isMk
  rcases h with h | h
  · rw [beq_eq_false_iff_ne.2 h]; rfl
  · rw [h, Bool.and_false]
theorem cls_to {q : St} {m : Nat} (hm : m ≠ 6 ∧ m ≠ 7 ∧ m ≠ 8) : cls (to q m) = 0 := by
  unfold cls
  rw [if_neg (show ¬ ((to q m).m = 6 ∨ (to q m).m = 8) from by show ¬ (m = 6 ∨ m = 8); omega), if_neg (show ¬ (to q m).m = 7 from by show ¬ m = 7; omega)]
theorem mstep_0 {c : Nat} (h : c ≠ 34) : mstep 0 c = 0 := by unfold mstep; rw [if_pos rfl, if_neg h]
theorem eff_to {q : St} {c m : Nat} (hc : cls q = 0) (hm : m ≠ 6 ∧ m ≠ 7 ∧ m ≠ 8) (h34 : c ≠ 34) (hM : isM c = false) (hk : (m = 1 ∨ m = 2 ∨ m = 3 ∨ m = 4) → q.st ≠ []) : Eff q (to q m) c :=
  ⟨by rw [cls_to hm, hc, mstep_0 h34], kept_to hk hm, by rw [mk_not (Or.inr hM)]; rfl⟩
theorem eff_sep {q : St} {c m : Nat} (hc : cls q = 0) (hm : m ≠ 6 ∧ m ≠ 7 ∧ m ≠ 8) (h : c = 44 ∨ c = 58) (hs : q.st ≠ []) : Eff q (to q m) c := by
  refine ⟨by rw [cls_to hm, hc, mstep_0 (by omega)], kept_to (fun _ => hs) hm, ?_⟩
  have h1 : isMk (cls q) c = true := by rw [hc]; rcases h with rfl | rfl <;> rfl
  rw [h1, if_pos rfl, if_neg (by omega), if_neg (by omega)]
  exact ⟨rfl, List.length_pos_iff.2 hs⟩
theorem eff_open {q : St} {c : Nat} {t : Bool} (hc : cls q = 0) (h : c = 91 ∨ c = 123) : Eff q (openB q t) c := by
  have h1 : isMk (cls q) c = true := by rw [hc]; rcases h with rfl | rfl <;> rfl
  refine ⟨?_, ⟨fun _ => by show (t :: q.st) ≠ []; simp, fun x hx => by cases hx⟩, ?_⟩
  · rw [hc, mstep_0 (by omega)]; cases t <;> rfl
  · rw [h1, if_pos rfl, if_pos h]; rfl
theorem eff_close {q : St} {c : Nat} (hc : cls q = 0) (h : c = 93 ∨ c = 125) (hs : q.st ≠ []) : Eff q (closeB q) c := by
  have h1 : isMk (cls q) c = true := by rw [hc]; rcases h with rfl | rfl <;> rfl
  refine ⟨?_, ⟨fun h2 => ?_, fun x hx => by cases hx⟩, ?_⟩
  · rw [hc, mstep_0 (by omega)]; rfl
  · exfalso
    have : (closeB q).m = 5 := rfl
    omega
  · rw [h1, if_pos rfl, if_neg (by omega), if_pos h]
    show q.st.length = q.st.tail.length + 1
    rw [List.length_tail]
    have := List.length_pos_iff.2 hs
    omega
theorem eff_str {q : St} {c : Nat} {k : Bool} (hc : cls q = 0) (h : c = 34) (hk : k = true → q.st ≠ []) : Eff q (toS q 6 k 0) c := by
  subst h
  refine ⟨by rw [hc]; rfl, ⟨fun h2 => ?_, fun x hx => by cases hx⟩, ?_⟩
  · show q.st ≠ []
    rcases h2 with h2 | h2 | h2 | h2 | ⟨_, h2⟩
    · cases h2
    · cases h2
    · cases h2
    · cases h2
    · exact hk h2
  · rw [mk_not (Or.inr rfl)]; rfl
theorem eff_lit {q : St} {c : Nat} {r : List Nat} (hc : cls q = 0) (h34 : c ≠ 34) (hM : isM c = false) (hr : ∀ x ∈ r, 97 ≤ x ∧ x ≤ 122) : Eff q (toL q r) c := by
  refine ⟨by rw [hc, mstep_0 h34]; rfl, ⟨fun h2 => ?_, hr⟩, by rw [mk_not (Or.inr hM)]; rfl⟩
  exfalso
  have : (toL q r).m = 9 := rfl
  omega
theorem blank_mk {c : Nat} (h : blank c = true) : c ≠ 34 ∧ isM c = false := by
  have := blank_cases h
  exact ⟨by omega, isM_not (by omega)⟩
theorem digit_mk {c : Nat} (h : digit c = true) : c ≠ 34 ∧ isM c = false := by
  have := (digit_iff c).1 h
  exact ⟨by omega, isM_not (by omega)⟩
theorem eff_beh {q q' : St} {c : Nat} (hc : cls q = 0) (h : stepBeh q c = some q') : Eff q q' c := by
  unfold stepBeh at h
  split at h
  · rename_i hb
    cases h
    exact eff_to hc (by omega) (blank_mk hb).1 (blank_mk hb).2 (fun h => by omega)
  · split at h
    · cases h
    · rename_i t st hst
      have hs : q.st ≠ [] := by rw [hst]; simp
      split at h
      · rename_i h44
        cases h
        cases t
        · exact eff_sep hc (by simp) (Or.inl h44) hs
        · exact eff_sep hc (by simp) (Or.inl h44) hs
      · split at h
        · rename_i hcl
          cases h
          exact eff_close hc (by omega) hs
        · cases h
theorem eff_val {q q' : St} {c : Nat} (hc : cls q = 0) (h : stepVal q c = some q') : Eff q q' c := by
  unfold stepVal at h
  split at h
  · rename_i hb
    cases h
    exact eff_to hc (by omega) (blank_mk hb).1 (blank_mk hb).2 (fun h => by omega)
  split at h
  · rename_i hb; cases h; exact eff_open hc (Or.inl hb)
  split at h
  · rename_i hb; cases h; exact eff_open hc (Or.inr hb)
  split at h
  · rename_i hb; cases h; exact eff_str hc hb (fun h => by cases h)
  split at h
  · rename_i hb; cases h; exact eff_lit hc (by omega) (isM_not (by omega)) (by decide)
  split at h
  · rename_i hb; cases h; exact eff_lit hc (by omega) (isM_not (by omega)) (by decide)
  split at h
  · rename_i hb; cases h; exact eff_lit hc (by omega) (isM_not (by omega)) (by decide)
  split at h
  · rename_i hb; cases h; exact eff_to hc (by omega) (by omega) (isM_not (by omega)) (fun h => by omega)
  split at h
  · rename_i hb; cases h; exact eff_to hc (by omega) (by omega) (isM_not (by omega)) (fun h => by omega)
  split at h
  · rename_i hb; cases h; exact eff_to hc (by omega) (digit_mk hb).1 (digit_mk hb).2 (fun h => by omega)
  · cases h
theorem eff_key {q q' : St} {c : Nat} (hc : cls q = 0) (hs : q.st ≠ []) (h : stepKey q c = some q') : Eff q q' c := by
  unfold stepKey at h
  split at h
  · rename_i hb
    cases h
    exact eff_to hc (by omega) (blank_mk hb).1 (blank_mk hb).2 (fun _ => hs)
  split at h
  · rename_i hb; cases h; exact eff_str hc hb (fun _ => hs)
  · cases h
theorem eff_in {q q' : St} {c : Nat} (hc : cls q ≠ 0) (h1 : cls q' = mstep (cls q) c) (hk : Kept q') (hs : q'.st = q.st) : Eff q q' c :=
  ⟨h1, hk, by rw [mk_not (Or.inl hc), hs]; rfl⟩
theorem kept_toS {q : St} {m n : Nat} (hk : q.k = true → q.st ≠ []) (hm : m = 6 ∨ m = 7 ∨ m = 8) : Kept (toS q m q.k n) := by
  refine ⟨fun h2 => ?_, fun x hx => by cases hx⟩
  show q.st ≠ []
  have e1 : (toS q m q.k n).m = m := rfl
  have e2 : (toS q m q.k n).k = q.k := rfl
  rw [e1, e2] at h2
  rcases h2 with h2 | h2 | h2 | h2 | ⟨_, h2⟩
  · omega
  · omega
  · omega
  · omega
  · exact hk h2
theorem cls_0 {q : St} (h : q.m ≠ 6 ∧ q.m ≠ 7 ∧ q.m ≠ 8) : cls q = 0 := by unfold cls; rw [if_neg (by omega), if_neg (by omega)]
theorem cls_1 {q : St} (h : q.m = 6 ∨ q.m = 8) : cls q = 1 := by unfold cls; rw [if_pos h]
theorem cls_2 {q : St} (h : q.m = 7) : cls q = 2 := by unfold cls; rw [if_neg (by omega), if_pos h]
theorem eff_str6 {q q' : St} {c : Nat} (hm : q.m = 6) (hk : Kept q) (h : stepStr q c = some q') : Eff q q' c := by
  have hc := cls_1 (Or.inl hm)
  have hks : q.k = true → q.st ≠ [] := fun h => hk.1 (Or.inr (Or.inr (Or.inr (Or.inr ⟨Or.inl hm, h⟩))))
  unfold stepStr at h
  split at h
  · cases h
  split at h
  · rename_i h1 h2
    cases h
    refine eff_in (by omega) ?_ ?_ rfl
    · rw [hc, h2.2]; cases q.k <;> rfl
    · cases hkk : q.k with
      | true => exact kept_to (fun _ => hks hkk) (by simp)
      | false => exact kept_to (fun h => by simp at h) (by simp)
  split at h
  · rename_i h1 h2 h3
    cases h
    exact eff_in (by omega) (by rw [hc, h3.2]; rfl) (kept_toS hks (by omega)) rfl
  split at h
  · cases h
  · rename_i h1 h2 h3 h4
    cases h
    refine eff_in (by omega) ?_ (kept_toS hks (by omega)) rfl
    rw [hc, cls_1 (Or.inl rfl)]
    have h5 : c ≠ 34 ∧ c ≠ 92 := by
      by_cases hn : q.n = 0
      · exact ⟨fun e => h2 ⟨hn, e⟩, fun e => h3 ⟨hn, e⟩⟩
      · have h6 : ¬ c < 128 := fun h7 => h4 (by
          unfold ustep
          rw [if_neg hn]
          have : c < ulow q.n := by unfold ulow; split <;> (try split) <;> omega
          rw [if_pos (Or.inl this)]; omega)
        exact ⟨by omega, by omega⟩
    unfold mstep
    rw [if_neg (by omega), if_pos rfl, if_neg h5.1, if_neg h5.2]
theorem eff_esc {q q' : St} {c : Nat} (hm : q.m = 7) (hk : Kept q) (h : stepEsc q c = some q') : Eff q q' c := by
  have hc := cls_2 hm
  have hks : q.k = true → q.st ≠ [] := fun h => hk.1 (Or.inr (Or.inr (Or.inr (Or.inr ⟨Or.inr (Or.inl hm), h⟩))))
  have hs : mstep 2 c = 1 := rfl
  unfold stepEsc at h
  split at h
  · cases h
    exact eff_in (by omega) (by rw [hc, hs, cls_1 (Or.inr rfl)]) (kept_toS hks (by omega)) rfl
  split at h
  · cases h
    exact eff_in (by omega) (by rw [hc, hs, cls_1 (Or.inl rfl)]) (kept_toS hks (by omega)) rfl
  · cases h
theorem eff_hex {q q' : St} {c : Nat} (hm : q.m = 8) (hk : Kept q) (hx : hexd c = true) (h : (if q.n = 1 then toS q 6 q.k 0 else toS q 8 q.k (q.n - 1)) = q') : Eff q q' c := by
  have hc := cls_1 (Or.inr hm)
  have hks : q.k = true → q.st ≠ [] := fun h => hk.1 (Or.inr (Or.inr (Or.inr (Or.inr ⟨Or.inr (Or.inr hm), h⟩))))
  have hs : mstep 1 c = 1 := by
    unfold hexd at hx
    simp only [Bool.or_eq_true, Bool.and_eq_true, decide_eq_true_eq] at hx
    unfold mstep
    rw [if_neg (by omega), if_pos rfl, if_neg (by omega), if_neg (by omega)]
  subst h
  split
  · exact eff_in (by omega) (by rw [hc, hs, cls_1 (Or.inl rfl)]) (kept_toS hks (by omega)) rfl
  · exact eff_in (by omega) (by rw [hc, hs, cls_1 (Or.inr rfl)]) (kept_toS hks (by omega)) rfl
theorem eff_litS {q q' : St} {c : Nat} (hm : q.m = 9) (hk : Kept q) (h : stepLit q c = some q') : Eff q q' c := by
  have hc := cls_0 (q := q) (by omega)
  unfold stepLit at h
  split at h
  · cases h
  · rename_i x r hr
    split at h
    · rename_i hcx
      have hx := hk.2 x (by rw [hr]; exact List.mem_cons_self)
      have hM : isM c = false := isM_not (by omega)
      split at h
      · cases h; exact eff_to hc (by omega) (by omega) hM (fun h => by omega)
      · cases h; exact eff_lit hc (by omega) hM (fun y hy => hk.2 y (by rw [hr]; exact List.mem_cons_of_mem _ hy))
    · cases h
/-- A byte that is taken: what it does to the brackets. -/
theorem eff_delta {q q' : St} {c : Nat} (hk : Kept q) (h : delta q c = some q') : Eff q q' c := by
  have e1 : q.m = 1 ∨ q.m = 2 ∨ q.m = 3 ∨ q.m = 4 → q.st ≠ [] := fun h => hk.1 (by omega)
  unfold delta at h
  split at h <;> rename_i hm
  · exact eff_val (cls_0 (by omega)) h
  · split at h
    · rename_i hb; cases h; exact eff_to (cls_0 (by omega)) (by omega) (blank_mk hb).1 (blank_mk hb).2 (fun _ => e1 (by omega))
    split at h
    · rename_i hb; cases h; exact eff_close (cls_0 (by omega)) (Or.inl hb) (e1 (by omega))
    · exact eff_val (cls_0 (by omega)) h
  · split at h
    · rename_i hb; cases h; exact eff_to (cls_0 (by omega)) (by omega) (blank_mk hb).1 (blank_mk hb).2 (fun _ => e1 (by omega))
    split at h
    · rename_i hb; cases h; exact eff_close (cls_0 (by omega)) (Or.inr hb) (e1 (by omega))
    · exact eff_key (cls_0 (by omega)) (e1 (by omega)) h
  · exact eff_key (cls_0 (by omega)) (e1 (by omega)) h
  · split at h
    · rename_i hb; cases h; exact eff_to (cls_0 (by omega)) (by omega) (blank_mk hb).1 (blank_mk hb).2 (fun _ => e1 (by omega))
    split at h
    · rename_i hb; cases h; exact eff_sep (cls_0 (by omega)) (by omega) (Or.inr hb) (e1 (by omega))
    · cases h
  · exact eff_beh (cls_0 (by omega)) h
  · exact eff_str6 hm hk h
  · exact eff_esc hm hk h
  · split at h
    · rename_i hx; injection h with h; exact eff_hex hm hk hx h
    · cases h
  · exact eff_litS hm hk h
  · split at h
    · rename_i hb; cases h; exact eff_to (cls_0 (by omega)) (by omega) (by omega) (isM_not (by omega)) (fun h => by omega)
    split at h
    · rename_i hb; cases h; exact eff_to (cls_0 (by omega)) (by omega) (digit_mk hb).1 (digit_mk hb).2 (fun h => by omega)
    · cases h
  · split at h
    · rename_i hb; cases h; exact eff_to (cls_0 (by omega)) (by omega) (by omega) (isM_not (by omega)) (fun h => by omega)
    split at h
    · rename_i hb; cases h; exact eff_to (cls_0 (by omega)) (by omega) (by omega) (isM_not (by omega)) (fun h => by omega)
    · exact eff_beh (cls_0 (by omega)) h
  · split at h
    · rename_i hb; cases h; exact eff_to (cls_0 (by omega)) (by omega) (digit_mk hb).1 (digit_mk hb).2 (fun h => by omega)
    split at h
    · rename_i hb; cases h; exact eff_to (cls_0 (by omega)) (by omega) (by omega) (isM_not (by omega)) (fun h => by omega)
    split at h
    · rename_i hb; cases h; exact eff_to (cls_0 (by omega)) (by omega) (by omega) (isM_not (by omega)) (fun h => by omega)
    · exact eff_beh (cls_0 (by omega)) h
  · split at h
    · rename_i hb; cases h; exact eff_to (cls_0 (by omega)) (by omega) (digit_mk hb).1 (digit_mk hb).2 (fun h => by omega)
    · cases h
  · split at h
    · rename_i hb; cases h; exact eff_to (cls_0 (by omega)) (by omega) (digit_mk hb).1 (digit_mk hb).2 (fun h => by omega)
    split at h
    · rename_i hb; cases h; exact eff_to (cls_0 (by omega)) (by omega) (by omega) (isM_not (by omega)) (fun h => by omega)
    · exact eff_beh (cls_0 (by omega)) h
  · split at h
    · rename_i hb; cases h; exact eff_to (cls_0 (by omega)) (by omega) (by omega) (isM_not (by omega)) (fun h => by omega)
    split at h
    · rename_i hb; cases h; exact eff_to (cls_0 (by omega)) (by omega) (digit_mk hb).1 (digit_mk hb).2 (fun h => by omega)
    · cases h
  · split at h
    · rename_i hb; cases h; exact eff_to (cls_0 (by omega)) (by omega) (digit_mk hb).1 (digit_mk hb).2 (fun h => by omega)
    · cases h
  · split at h
    · rename_i hb; cases h; exact eff_to (cls_0 (by omega)) (by omega) (digit_mk hb).1 (digit_mk hb).2 (fun h => by omega)
    · exact eff_beh (cls_0 (by omega)) h
  · cases h
/-- What is read leaves a row that isn't below 0, twice as high as brackets are open. -/
theorem drive_NN : ∀ (l : List Nat) (q q' : St) (p : Nat) (bs : List Bool), Kept q → NN bs (2 * q.st.length : Nat) → drive q l = some q' → Kept q' ∧ cls q' = mrun (cls q) l ∧ NN (bs ++ (mkGo (cls q) l p).flatMap fun x => bits2 x.2) (2 * q'.st.length : Nat)
  | [], q, q', p, bs, hk, hn, h => by
    simp only [drive] at h
    cases h
    exact ⟨hk, rfl, by simpa [mkGo] using hn⟩
  | c :: l, q, q', p, bs, hk, hn, h => by
    simp only [drive] at h
    cases hd : delta q c with
    | none => rw [hd] at h; cases h
    | some q1 =>
      rw [hd] at h
      obtain ⟨f1, f2, f3⟩ := eff_delta hk hd
      have hn1 : NN (bs ++ (if isMk (cls q) c then bits2 c else [])) (2 * q1.st.length : Nat) := by
        cases hm : isMk (cls q) c with
        | false =>
          rw [hm] at f3
          have f3' : q1.st.length = q.st.length := f3
          rw [f3']; simpa using hn
        | true =>
          rw [hm, if_pos rfl] at f3
          rw [if_pos rfl]
          unfold bits2
          split at f3
          · rename_i hc
            rw [if_pos hc, f3]; exact hn.up
          · rename_i hc
            rw [if_neg hc]
            split at f3
            · rename_i hc2
              rw [f3] at hn
              rw [if_pos hc2]; exact hn.down
            · rename_i hc2
              rw [if_neg hc2, f3.1]
              obtain ⟨n, hnn⟩ : ∃ n, q.st.length = n + 1 := ⟨q.st.length - 1, by have := f3.2; omega⟩
              rw [hnn] at hn ⊢
              exact hn.stay
      obtain ⟨g1, g2, g3⟩ := drive_NN l q1 q' (p + 1) _ f2 hn1 h
      rw [f1] at g2 g3
      refine ⟨g1, g2, ?_⟩
      show NN (bs ++ ((if isMk (cls q) c then [(p, c)] else []) ++ mkGo (mstep (cls q) c) l (p + 1)).flatMap fun x => bits2 x.2) _
      rw [List.flatMap_append, ← List.append_assoc]
      have e : (if isMk (cls q) c then [(p, c)] else []).flatMap (fun x : Nat × Nat => bits2 x.2) = if isMk (cls q) c then bits2 c else [] := by
        cases isMk (cls q) c <;> simp
      rw [e]; exact g3
/-- A JSON text's bits are balanced. -/
theorem text_bal {l : List Nat} (h1 : (goA start l 0).2 = l.length) (h2 : fin (goA start l 0).1 = true) : bal (bitAt (parens l)) (parens l).length = true := by
  have hd := goA_to_drive l start 0 (by rw [h1, Nat.zero_add])
  obtain ⟨g1, g2, g3⟩ := drive_NN l start _ 0 [] ⟨fun h => by
    have e : start.m = 0 := rfl
    omega, fun x hx => by cases hx⟩ (by simpa [start] using NN.nil) hd
  have hs := ((fin_iff _).1 h2).1
  rw [hs] at g3
  have hs2 : cls start = 0 := rfl
  rw [hs2, List.nil_append] at g3
  exact NN.bal g3
end Go.Proofs.YtacllonekidocaaDoor.L
