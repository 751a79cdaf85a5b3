/- Proof text. -/
import Derived.Test.YtgpbpgpolpakjaaGreatDoorAutoP
import Derived.Test.YtgpbpgpolpakjaaGreatDoorMaths
import Derived.Test.YtgpbpgpolpakjaaGreatDoorScanP
import Derived.RangeFuncNested
import Derived.RangeFuncBox
import Derived.RangeFuncBound
import Derived.RangeFuncCalls
import Derived.RangeFuncLeaves
import Derived.Shelf.Abstract
import Derived.Shelf.RegionOpen
import Derived.WalkKit
import Derived.OwnWalkIn
import Derived.TacticsInMore
import Derived.LoopNIn
import Derived.LoopIn
import Derived.Test.YtgpbpgpolpakjaaGreatDoorChooseP
import Derived.Test.YtgpbpgpolpakjaaGreatDoorBitsP
set_option maxHeartbeats 4000000
set_option linter.unusedVariables false
set_option linter.unusedSimpArgs false
namespace Go.Proofs.YtgpbpgpolpakjaaGreatDoor.L
def zbm (s c : Nat) : Nat := if s = 0 then (if c = 34 then 1 else 0) else if s = 1 then (if c = 34 then 0 else if c = 92 then 2 else 1) else 1
def isM (c : Nat) : Bool := c == 91 || c == 93 || c == 123 || c == 125 || c == 58 || c == 44
def isMk (s c : Nat) : Bool := s == 0 && isM c
def mkGo : Nat → List Nat → Nat → List (Nat × Nat)
 | _, [], _ => []
 | s, c :: l, p => (if isMk s c then [(p, c)] else []) ++ mkGo (zbm s c) l (p + 1)
def mrun (s : Nat) (l : List Nat) : Nat := l.foldl zbm s
theorem zo2 : ∀ (l : List Nat) (s p : Nat), ∀ x ∈ mkGo s l p, p ≤ x.1 ∧ x.1 < p + l.length
 | [], s, p, x, h => by cases h
 | c :: l, s, p, x, h => by
   rcases List.mem_append.1 (show x ∈ (if isMk s c then [(p, c)] else []) ++ mkGo (zbm s c) l (p + 1) from h) with h1 | h1
   ·cases hm : isMk s c with
    | false => rw [hm] at h1; cases h1
    | true =>
      rw [hm] at h1
      rcases List.mem_cons.1 h1 with rfl | h2
      ·simp
      ·cases h2
   ·have := zo2 l (zbm s c) (p + 1) x h1
    simp; omega
theorem zp8 : ∀ (l : List Nat) (s p : Nat), (mkGo s l p).Pairwise fun x y => x.1 < y.1
 | [], s, p => List.Pairwise.nil
 | c :: l, s, p => by
   refine List.pairwise_append.2 ⟨?_, zp8 l (zbm s c) (p + 1), fun x hx y hy => ?_⟩
   ·cases isMk s c
    ·exact List.Pairwise.nil
    ·exact List.pairwise_singleton _ _
   ·have h2 := zo2 l (zbm s c) (p + 1) y hy
    cases hm : isMk s c with
    | false => rw [hm] at hx; cases hx
    | true =>
      rw [hm] at hx
      rcases List.mem_cons.1 hx with rfl | h3
      ·show p < y.1; omega
      ·cases h3
def mks (l : List Nat) : List (Nat × Nat) := mkGo 0 l 0
def places (l : List Nat) : List Nat := (mks l).map Prod.fst
def zbc (c : Nat) : List Bool := if c = 91 ∨ c = 123 then [true, true] else if c = 93 ∨ c = 125 then [false, false] else [false, true]
def zl (l : List Nat) : List Bool := (mks l).flatMap fun x => zbc x.2
theorem zkh (c : Nat) : (zbc c).length = 2 := by unfold zbc; split <;> (try split) <;> rfl
theorem zah (l : List Nat) : (places l).length = (mks l).length := by unfold places; rw [List.length_map]
theorem zns (m : List (Nat × Nat)) : (m.flatMap fun x => zbc x.2).length = 2 * m.length := by
 induction m with
 | nil => rfl
 | cons x m ih => rw [List.flatMap_cons, List.length_append, ih, zkh, List.length_cons]; omega
theorem zbz (l : List Nat) : (zl l).length = 2 * (mks l).length := zns _
theorem zl2 : ∀ (l : List Nat) (s p : Nat), (mkGo s l p).length ≤ l.length
 | [], s, p => Nat.le_refl _
 | c :: l, s, p => by
   have := zl2 l (zbm s c) (p + 1)
   show (_ ++ mkGo (zbm s c) l (p + 1)).length ≤ _
   rw [List.length_append, List.length_cons]
   cases isMk s c <;> simp <;> omega
theorem zbg (l : List Nat) : (mks l).length ≤ l.length := zl2 l 0 0
theorem zki (l : List Nat) : ∀ x ∈ places l, x < l.length := fun x h => by
 obtain ⟨y, h1, rfl⟩ := List.mem_map.1 h
 have := zo2 l 0 0 y h1; omega
theorem zl3 (l : List Nat) : (places l).Pairwise (· < ·) := by
 unfold places
 rw [List.pairwise_map]
 exact zp8 l 0 0
def NN (bs : List Bool) (d : Int) : Prop := ex (zb bs) bs.length = d ∧ ∀ q, q ≤ bs.length → 0 ≤ ex (zb bs) q
theorem NN.nil : NN [] 0 := ⟨rfl, fun q h => by
 have h0 : q = 0 := Nat.le_zero.1 h
 rw [h0]; exact Int.le_refl _⟩
theorem NN.snoc {bs : List Bool} {d : Int} (h : NN bs d) (b : Bool) {d' : Int} (hd : d' = d + sgn b) (h0 : 0 ≤ d') : NN (bs ++ [b]) d' := by
 have h1 : ∀ q, q ≤ bs.length → ex (zb (bs ++ [b])) q = ex (zb bs) q := fun q hq => zd9 q (fun i hi => by rw [zdd, if_pos (by omega)])
 have h2 : ex (zb (bs ++ [b])) (bs ++ [b]).length = d' := by
  rw [List.length_append]
  show ex (zb (bs ++ [b])) (bs.length + 1) = d'
  have : ex (zb (bs ++ [b])) (bs.length + 1) = ex (zb (bs ++ [b])) bs.length + sgn (zb (bs ++ [b]) bs.length) := rfl
  rw [this, h1 _ (Nat.le_refl _), h.1, zdd, if_neg (by omega), Nat.sub_self, hd]
  rfl
 refine ⟨h2, fun q hq => ?_⟩
 rcases Nat.eq_or_lt_of_le hq with e | e
 ·rw [e, h2]; exact h0
 ·rw [List.length_append] at e
  rw [h1 q (by simp at e; omega)]
  exact h.2 q (by simp at e; omega)
theorem NN.bal {bs : List Bool} (h : NN bs 0) : bal (zb bs) bs.length = true := (z5f _ _).2 h
theorem NN.up {bs : List Bool} {n : Nat} (h : NN bs (2 * n : Nat)) : NN (bs ++ [true, true]) (2 * (n + 1) : Nat) := by
 have := (h.snoc true (d' := 2 * n + 1) (by simp [sgn]) (by omega)).snoc true (d' := (2 * (n + 1) : Nat)) (by simp [sgn]; omega) (by omega)
 rwa [List.append_assoc] at this
theorem NN.down {bs : List Bool} {n : Nat} (h : NN bs (2 * (n + 1) : Nat)) : NN (bs ++ [false, false]) (2 * n : Nat) := by
 have := (h.snoc false (d' := 2 * n + 1) (by simp [sgn]; omega) (by omega)).snoc false (d' := (2 * n : Nat)) (by simp [sgn]; omega) (by omega)
 rwa [List.append_assoc] at this
theorem NN.stay {bs : List Bool} {n : Nat} (h : NN bs (2 * (n + 1) : Nat)) : NN (bs ++ [false, true]) (2 * (n + 1) : Nat) := by
 have := (h.snoc false (d' := 2 * n + 1) (by simp [sgn]; omega) (by omega)).snoc true (d' := (2 * (n + 1) : Nat)) (by simp [sgn]; omega) (by omega)
 rwa [List.append_assoc] at this
def cls (q : St) : Nat := if q.m = 6 ∨ q.m = 8 then 1 else if q.m = 7 then 2 else 0
def Kept (q : St) : Prop := ((q.m = 1 ∨ q.m = 2 ∨ q.m = 3 ∨ q.m = 4 ∨ ((q.m = 6 ∨ q.m = 7 ∨ q.m = 8) ∧ q.k = true)) → q.st ≠ []) ∧ ∀ x ∈ q.rest, 97 ≤ x ∧ x ≤ 122
def Eff (q q' : St) (c : Nat) : Prop :=
 cls q' = zbm (cls q) c ∧ Kept q' ∧
 if isMk (cls q) c then (if c = 91 ∨ c = 123 then q'.st.length = q.st.length + 1 else if c = 93 ∨ c = 125 then q.st.length = q'.st.length + 1 else q'.st.length = q.st.length ∧ 0 < q.st.length)
 else q'.st.length = q.st.length
theorem zlh {q : St} {m : Nat} (h : (m = 1 ∨ m = 2 ∨ m = 3 ∨ m = 4) → q.st ≠ []) (hm : m ≠ 6 ∧ m ≠ 7 ∧ m ≠ 8) : Kept (to q m) := by
 refine ⟨fun h1 => ?_, fun x hx => by cases hx⟩
 show q.st ≠ []
 refine h ?_
 rcases h1 with h1 | h1 | h1 | h1 | ⟨h1, _⟩
 ·exact Or.inl h1
 ·exact Or.inr (Or.inl h1)
 ·exact Or.inr (Or.inr (Or.inl h1))
 ·exact Or.inr (Or.inr (Or.inr h1))
 ·have : m = 6 ∨ m = 7 ∨ m = 8 := h1
  omega
theorem zb0 {c : Nat} (h : c ≠ 91 ∧ c ≠ 93 ∧ c ≠ 123 ∧ c ≠ 125 ∧ c ≠ 58 ∧ c ≠ 44) : isM c = false := by
 unfold isM
 simp only [Bool.or_eq_false_iff, beq_eq_false_iff_ne]
 exact ⟨⟨⟨⟨⟨h.1, h.2.1⟩, h.2.2.1⟩, h.2.2.2.1⟩, h.2.2.2.2.1⟩, h.2.2.2.2.2⟩
theorem zkj {s c : Nat} (h : s ≠ 0 ∨ isM c = false) : isMk s c = false := by
 unfold isMk
 rcases h with h | h
 ·rw [beq_eq_false_iff_ne.2 h]; rfl
 ·rw [h, Bool.and_false]
theorem zzt {q : St} {m : Nat} (hm : m ≠ 6 ∧ m ≠ 7 ∧ m ≠ 8) : cls (to q m) = 0 := by
 unfold cls
 rw [if_neg (show ¬ ((to q m).m = 6 ∨ (to q m).m = 8) from by show ¬ (m = 6 ∨ m = 8); omega), if_neg (show ¬ (to q m).m = 7 from by show ¬ m = 7; omega)]
theorem zg1 {c : Nat} (h : c ≠ 34) : zbm 0 c = 0 := by unfold zbm; rw [if_pos rfl, if_neg h]
theorem zbn {q : St} {c m : Nat} (hc : cls q = 0) (hm : m ≠ 6 ∧ m ≠ 7 ∧ m ≠ 8) (h34 : c ≠ 34) (hM : isM c = false) (hk : (m = 1 ∨ m = 2 ∨ m = 3 ∨ m = 4) → q.st ≠ []) : Eff q (to q m) c :=
 ⟨by rw [zzt hm, hc, zg1 h34], zlh hk hm, by rw [zkj (Or.inr hM)]; rfl⟩
theorem zo3 {q : St} {c m : Nat} (hc : cls q = 0) (hm : m ≠ 6 ∧ m ≠ 7 ∧ m ≠ 8) (h : c = 44 ∨ c = 58) (hs : q.st ≠ []) : Eff q (to q m) c := by
 refine ⟨by rw [zzt hm, hc, zg1 (by omega)], zlh (fun _ => hs) hm, ?_⟩
 have h1 : isMk (cls q) c = true := by rw [hc]; rcases h with rfl | rfl <;> rfl
 rw [h1, if_pos rfl, if_neg (by omega), if_neg (by omega)]
 exact ⟨rfl, List.length_pos_iff.2 hs⟩
theorem zsu {q : St} {c : Nat} {t : Bool} (hc : cls q = 0) (h : c = 91 ∨ c = 123) : Eff q (zrh q t) c := by
 have h1 : isMk (cls q) c = true := by rw [hc]; rcases h with rfl | rfl <;> rfl
 refine ⟨?_, ⟨fun _ => by show (t :: q.st) ≠ []; simp, fun x hx => by cases hx⟩, ?_⟩
 ·rw [hc, zg1 (by omega)]; cases t <;> rfl
 ·rw [h1, if_pos rfl, if_pos h]; rfl
theorem zkk {q : St} {c : Nat} (hc : cls q = 0) (h : c = 93 ∨ c = 125) (hs : q.st ≠ []) : Eff q (zh4 q) c := by
 have h1 : isMk (cls q) c = true := by rw [hc]; rcases h with rfl | rfl <;> rfl
 refine ⟨?_, ⟨fun h2 => ?_, fun x hx => by cases hx⟩, ?_⟩
 ·rw [hc, zg1 (by omega)]; rfl
 ·exfalso
  have : (zh4 q).m = 5 := rfl
  omega
 ·rw [h1, if_pos rfl, if_neg (by omega), if_pos h]
  show q.st.length = q.st.tail.length + 1
  rw [List.length_tail]
  have := List.length_pos_iff.2 hs
  omega
theorem zwc {q : St} {c : Nat} {k : Bool} (hc : cls q = 0) (h : c = 34) (hk : k = true → q.st ≠ []) : Eff q (toS q 6 k 0) c := by
 subst h
 refine ⟨by rw [hc]; rfl, ⟨fun h2 => ?_, fun x hx => by cases hx⟩, ?_⟩
 ·show q.st ≠ []
  rcases h2 with h2 | h2 | h2 | h2 | ⟨_, h2⟩
  ·cases h2
  ·cases h2
  ·cases h2
  ·cases h2
  ·exact hk h2
 ·rw [zkj (Or.inr rfl)]; rfl
theorem zli {q : St} {c : Nat} {r : List Nat} (hc : cls q = 0) (h34 : c ≠ 34) (hM : isM c = false) (hr : ∀ x ∈ r, 97 ≤ x ∧ x ≤ 122) : Eff q (toL q r) c := by
 refine ⟨by rw [hc, zg1 h34]; rfl, ⟨fun h2 => ?_, hr⟩, by rw [zkj (Or.inr hM)]; rfl⟩
 exfalso
 have : (toL q r).m = 9 := rfl
 omega
theorem zco {c : Nat} (h : blank c = true) : c ≠ 34 ∧ isM c = false := by
 have := zut h
 exact ⟨by omega, zb0 (by omega)⟩
theorem zbt {c : Nat} (h : digit c = true) : c ≠ 34 ∧ isM c = false := by
 have := (zf7 c).1 h
 exact ⟨by omega, zb0 (by omega)⟩
theorem zih {q q' : St} {c : Nat} (hc : cls q = 0) (h : zbq q c = some q') : Eff q q' c := by
 unfold zbq at h
 split at h
 ·rename_i hb
  cases h
  exact zbn hc (by omega) (zco hb).1 (zco hb).2 (fun h => by omega)
 ·split at h
  ·cases h
  ·rename_i t st hst
   have hs : q.st ≠ [] := by rw [hst]; simp
   split at h
   ·rename_i h44
    cases h
    cases t
    ·exact zo3 hc (by simp) (Or.inl h44) hs
    ·exact zo3 hc (by simp) (Or.inl h44) hs
   ·split at h
    ·rename_i hcl
     cases h
     exact zkk hc (by omega) hs
    ·cases h
theorem zwd {q q' : St} {c : Nat} (hc : cls q = 0) (h : zb9 q c = some q') : Eff q q' c := by
 unfold zb9 at h
 split at h
 ·rename_i hb
  cases h
  exact zbn hc (by omega) (zco hb).1 (zco hb).2 (fun h => by omega)
 split at h
 ·rename_i hb; cases h; exact zsu hc (Or.inl hb)
 split at h
 ·rename_i hb; cases h; exact zsu hc (Or.inr hb)
 split at h
 ·rename_i hb; cases h; exact zwc hc hb (fun h => by cases h)
 split at h
 ·rename_i hb; cases h; exact zli hc (by omega) (zb0 (by omega)) (by decide)
 split at h
 ·rename_i hb; cases h; exact zli hc (by omega) (zb0 (by omega)) (by decide)
 split at h
 ·rename_i hb; cases h; exact zli hc (by omega) (zb0 (by omega)) (by decide)
 split at h
 ·rename_i hb; cases h; exact zbn hc (by omega) (by omega) (zb0 (by omega)) (fun h => by omega)
 split at h
 ·rename_i hb; cases h; exact zbn hc (by omega) (by omega) (zb0 (by omega)) (fun h => by omega)
 split at h
 ·rename_i hb; cases h; exact zbn hc (by omega) (zbt hb).1 (zbt hb).2 (fun h => by omega)
 ·cases h
theorem zwe {q q' : St} {c : Nat} (hc : cls q = 0) (hs : q.st ≠ []) (h : zc1 q c = some q') : Eff q q' c := by
 unfold zc1 at h
 split at h
 ·rename_i hb
  cases h
  exact zbn hc (by omega) (zco hb).1 (zco hb).2 (fun _ => hs)
 split at h
 ·rename_i hb; cases h; exact zwc hc hb (fun _ => hs)
 ·cases h
theorem zg9 {q q' : St} {c : Nat} (hc : cls q ≠ 0) (h1 : cls q' = zbm (cls q) c) (hk : Kept q') (hs : q'.st = q.st) : Eff q q' c :=
 ⟨h1, hk, by rw [zkj (Or.inl hc), hs]; rfl⟩
theorem zfu {q : St} {m n : Nat} (hk : q.k = true → q.st ≠ []) (hm : m = 6 ∨ m = 7 ∨ m = 8) : Kept (toS q m q.k n) := by
 refine ⟨fun h2 => ?_, fun x hx => by cases hx⟩
 show q.st ≠ []
 have e1 : (toS q m q.k n).m = m := rfl
 have e2 : (toS q m q.k n).k = q.k := rfl
 rw [e1, e2] at h2
 rcases h2 with h2 | h2 | h2 | h2 | ⟨_, h2⟩
 ·omega
 ·omega
 ·omega
 ·omega
 ·exact hk h2
theorem zbj {q : St} (h : q.m ≠ 6 ∧ q.m ≠ 7 ∧ q.m ≠ 8) : cls q = 0 := by unfold cls; rw [if_neg (by omega), if_neg (by omega)]
theorem zi3 {q : St} (h : q.m = 6 ∨ q.m = 8) : cls q = 1 := by unfold cls; rw [if_pos h]
theorem z9a {q : St} (h : q.m = 7) : cls q = 2 := by unfold cls; rw [if_neg (by omega), if_pos h]
theorem z2c {q q' : St} {c : Nat} (hm : q.m = 6) (hk : Kept q) (h : zlb q c = some q') : Eff q q' c := by
 have hc := zi3 (Or.inl hm)
 have hks : q.k = true → q.st ≠ [] := fun h => hk.1 (Or.inr (Or.inr (Or.inr (Or.inr ⟨Or.inl hm, h⟩))))
 unfold zlb at h
 split at h
 ·cases h
 split at h
 ·rename_i h1 h2
  cases h
  refine zg9 (by omega) ?_ ?_ rfl
  ·rw [hc, h2.2]; cases q.k <;> rfl
  ·cases hkk : q.k with
   | true => exact zlh (fun _ => hks hkk) (by simp)
   | false => exact zlh (fun h => by simp at h) (by simp)
 split at h
 ·rename_i h1 h2 h3
  cases h
  exact zg9 (by omega) (by rw [hc, h3.2]; rfl) (zfu hks (by omega)) rfl
 split at h
 ·cases h
 ·rename_i h1 h2 h3 h4
  cases h
  refine zg9 (by omega) ?_ (zfu hks (by omega)) rfl
  rw [hc, zi3 (Or.inl rfl)]
  have h5 : c ≠ 34 ∧ c ≠ 92 := by
   by_cases hn : q.n = 0
   ·exact ⟨fun e => h2 ⟨hn, e⟩, fun e => h3 ⟨hn, e⟩⟩
   ·have h6 : ¬ c < 128 := fun h7 => h4 (by
     unfold zaf
     rw [if_neg hn]
     have : c < ulow q.n := by unfold ulow; split <;> (try split) <;> omega
     rw [if_pos (Or.inl this)]; omega)
    exact ⟨by omega, by omega⟩
  unfold zbm
  rw [if_neg (by omega), if_pos rfl, if_neg h5.1, if_neg h5.2]
theorem z5z {q q' : St} {c : Nat} (hm : q.m = 7) (hk : Kept q) (h : zlc q c = some q') : Eff q q' c := by
 have hc := z9a hm
 have hks : q.k = true → q.st ≠ [] := fun h => hk.1 (Or.inr (Or.inr (Or.inr (Or.inr ⟨Or.inr (Or.inl hm), h⟩))))
 have hs : zbm 2 c = 1 := rfl
 unfold zlc at h
 split at h
 ·cases h
  exact zg9 (by omega) (by rw [hc, hs, zi3 (Or.inr rfl)]) (zfu hks (by omega)) rfl
 split at h
 ·cases h
  exact zg9 (by omega) (by rw [hc, hs, zi3 (Or.inl rfl)]) (zfu hks (by omega)) rfl
 ·cases h
theorem z6a {q q' : St} {c : Nat} (hm : q.m = 8) (hk : Kept q) (hx : hexd c = true) (h : (if q.n = 1 then toS q 6 q.k 0 else toS q 8 q.k (q.n - 1)) = q') : Eff q q' c := by
 have hc := zi3 (Or.inr hm)
 have hks : q.k = true → q.st ≠ [] := fun h => hk.1 (Or.inr (Or.inr (Or.inr (Or.inr ⟨Or.inr (Or.inr hm), h⟩))))
 have hs : zbm 1 c = 1 := by
  unfold hexd at hx
  simp only [Bool.or_eq_true, Bool.and_eq_true, decide_eq_true_eq] at hx
  unfold zbm
  rw [if_neg (by omega), if_pos rfl, if_neg (by omega), if_neg (by omega)]
 subst h
 split
 ·exact zg9 (by omega) (by rw [hc, hs, zi3 (Or.inl rfl)]) (zfu hks (by omega)) rfl
 ·exact zg9 (by omega) (by rw [hc, hs, zi3 (Or.inr rfl)]) (zfu hks (by omega)) rfl
theorem z2d {q q' : St} {c : Nat} (hm : q.m = 9) (hk : Kept q) (h : ze7 q c = some q') : Eff q q' c := by
 have hc := zbj (q := q) (by omega)
 unfold ze7 at h
 split at h
 ·cases h
 ·rename_i x r hr
  split at h
  ·rename_i hcx
   have hx := hk.2 x (by rw [hr]; exact List.mem_cons_self)
   have hM : isM c = false := zb0 (by omega)
   split at h
   ·cases h; exact zbn hc (by omega) (by omega) hM (fun h => by omega)
   ·cases h; exact zli hc (by omega) hM (fun y hy => hk.2 y (by rw [hr]; exact List.mem_cons_of_mem _ hy))
  ·cases h
theorem zzu {q q' : St} {c : Nat} (hk : Kept q) (h : delta q c = some q') : Eff q q' c := by
 have e1 : q.m = 1 ∨ q.m = 2 ∨ q.m = 3 ∨ q.m = 4 → q.st ≠ [] := fun h => hk.1 (by omega)
 unfold delta at h
 split at h <;> rename_i hm
 ·exact zwd (zbj (by omega)) h
 ·split at h
  ·rename_i hb; cases h; exact zbn (zbj (by omega)) (by omega) (zco hb).1 (zco hb).2 (fun _ => e1 (by omega))
  split at h
  ·rename_i hb; cases h; exact zkk (zbj (by omega)) (Or.inl hb) (e1 (by omega))
  ·exact zwd (zbj (by omega)) h
 ·split at h
  ·rename_i hb; cases h; exact zbn (zbj (by omega)) (by omega) (zco hb).1 (zco hb).2 (fun _ => e1 (by omega))
  split at h
  ·rename_i hb; cases h; exact zkk (zbj (by omega)) (Or.inr hb) (e1 (by omega))
  ·exact zwe (zbj (by omega)) (e1 (by omega)) h
 ·exact zwe (zbj (by omega)) (e1 (by omega)) h
 ·split at h
  ·rename_i hb; cases h; exact zbn (zbj (by omega)) (by omega) (zco hb).1 (zco hb).2 (fun _ => e1 (by omega))
  split at h
  ·rename_i hb; cases h; exact zo3 (zbj (by omega)) (by omega) (Or.inr hb) (e1 (by omega))
  ·cases h
 ·exact zih (zbj (by omega)) h
 ·exact z2c hm hk h
 ·exact z5z hm hk h
 ·split at h
  ·rename_i hx; injection h with h; exact z6a hm hk hx h
  ·cases h
 ·exact z2d hm hk h
 ·split at h
  ·rename_i hb; cases h; exact zbn (zbj (by omega)) (by omega) (by omega) (zb0 (by omega)) (fun h => by omega)
  split at h
  ·rename_i hb; cases h; exact zbn (zbj (by omega)) (by omega) (zbt hb).1 (zbt hb).2 (fun h => by omega)
  ·cases h
 ·split at h
  ·rename_i hb; cases h; exact zbn (zbj (by omega)) (by omega) (by omega) (zb0 (by omega)) (fun h => by omega)
  split at h
  ·rename_i hb; cases h; exact zbn (zbj (by omega)) (by omega) (by omega) (zb0 (by omega)) (fun h => by omega)
  ·exact zih (zbj (by omega)) h
 ·split at h
  ·rename_i hb; cases h; exact zbn (zbj (by omega)) (by omega) (zbt hb).1 (zbt hb).2 (fun h => by omega)
  split at h
  ·rename_i hb; cases h; exact zbn (zbj (by omega)) (by omega) (by omega) (zb0 (by omega)) (fun h => by omega)
  split at h
  ·rename_i hb; cases h; exact zbn (zbj (by omega)) (by omega) (by omega) (zb0 (by omega)) (fun h => by omega)
  ·exact zih (zbj (by omega)) h
 ·split at h
  ·rename_i hb; cases h; exact zbn (zbj (by omega)) (by omega) (zbt hb).1 (zbt hb).2 (fun h => by omega)
  ·cases h
 ·split at h
  ·rename_i hb; cases h; exact zbn (zbj (by omega)) (by omega) (zbt hb).1 (zbt hb).2 (fun h => by omega)
  split at h
  ·rename_i hb; cases h; exact zbn (zbj (by omega)) (by omega) (by omega) (zb0 (by omega)) (fun h => by omega)
  ·exact zih (zbj (by omega)) h
 ·split at h
  ·rename_i hb; cases h; exact zbn (zbj (by omega)) (by omega) (by omega) (zb0 (by omega)) (fun h => by omega)
  split at h
  ·rename_i hb; cases h; exact zbn (zbj (by omega)) (by omega) (zbt hb).1 (zbt hb).2 (fun h => by omega)
  ·cases h
 ·split at h
  ·rename_i hb; cases h; exact zbn (zbj (by omega)) (by omega) (zbt hb).1 (zbt hb).2 (fun h => by omega)
  ·cases h
 ·split at h
  ·rename_i hb; cases h; exact zbn (zbj (by omega)) (by omega) (zbt hb).1 (zbt hb).2 (fun h => by omega)
  ·exact zih (zbj (by omega)) h
 ·cases h
theorem zsv : ∀ (l : List Nat) (q q' : St) (p : Nat) (bs : List Bool), Kept q → NN bs (2 * q.st.length : Nat) → drive q l = some q' → Kept q' ∧ cls q' = mrun (cls q) l ∧ NN (bs ++ (mkGo (cls q) l p).flatMap fun x => zbc x.2) (2 * q'.st.length : Nat)
 | [], q, q', p, bs, hk, hn, h => by
   simp only [drive] at h
   cases h
   exact ⟨hk, rfl, by simpa [mkGo] using hn⟩
 | c :: l, q, q', p, bs, hk, hn, h => by
   simp only [drive] at h
   cases hd : delta q c with
   | none => rw [hd] at h; cases h
   | some q1 =>
     rw [hd] at h
     obtain ⟨f1, f2, f3⟩ := zzu hk hd
     have hn1 : NN (bs ++ (if isMk (cls q) c then zbc c else [])) (2 * q1.st.length : Nat) := by
      cases hm : isMk (cls q) c with
      | false =>
        rw [hm] at f3
        have f3' : q1.st.length = q.st.length := f3
        rw [f3']; simpa using hn
      | true =>
        rw [hm, if_pos rfl] at f3
        rw [if_pos rfl]
        unfold zbc
        split at f3
        ·rename_i hc
         rw [if_pos hc, f3]; exact hn.up
        ·rename_i hc
         rw [if_neg hc]
         split at f3
         ·rename_i hc2
          rw [f3] at hn
          rw [if_pos hc2]; exact hn.down
         ·rename_i hc2
          rw [if_neg hc2, f3.1]
          obtain ⟨n, hnn⟩ : ∃ n, q.st.length = n + 1 := ⟨q.st.length - 1, by have := f3.2; omega⟩
          rw [hnn] at hn ⊢
          exact hn.stay
     obtain ⟨g1, g2, g3⟩ := zsv l q1 q' (p + 1) _ f2 hn1 h
     rw [f1] at g2 g3
     refine ⟨g1, g2, ?_⟩
     show NN (bs ++ ((if isMk (cls q) c then [(p, c)] else []) ++ mkGo (zbm (cls q) c) l (p + 1)).flatMap fun x => zbc x.2) _
     rw [List.flatMap_append, ← List.append_assoc]
     have e : (if isMk (cls q) c then [(p, c)] else []).flatMap (fun x : Nat × Nat => zbc x.2) = if isMk (cls q) c then zbc c else [] := by
      cases isMk (cls q) c <;> simp
     rw [e]; exact g3
theorem zsw {l : List Nat} (h1 : (goA start l 0).2 = l.length) (h2 : fin (goA start l 0).1 = true) : bal (zb (zl l)) (zl l).length = true := by
 have hd := zj3 l start 0 (by rw [h1, Nat.zero_add])
 obtain ⟨g1, g2, g3⟩ := zsv l start _ 0 [] ⟨fun h => by
  have e : start.m = 0 := rfl
  omega, fun x hx => by cases hx⟩ (by simpa [start] using NN.nil) hd
 have hs := ((z4y _).1 h2).1
 rw [hs] at g3
 have hs2 : cls start = 0 := rfl
 rw [hs2, List.nil_append] at g3
 exact NN.bal g3
end Go.Proofs.YtgpbpgpolpakjaaGreatDoor.L
set_option maxRecDepth 100000
namespace Go.Proofs.YtgpbpgpolpakjaaGreatDoor
open Go.RowKit Go.Shelf L
attribute [local go_sem] Oper.semAt_some
theorem z6b (c : Nat) (w : World) : Calls Tryz.prog 129 #[.int .u8 (c : Nat)] w fun e w' => e = .returned (.bool (isM c)) ∧ w = w' := by
 have HM := hid (fun (h : c ≠ 91 ∧ c ≠ 93 ∧ c ≠ 123 ∧ c ≠ 125 ∧ c ≠ 58 ∧ c ≠ 44) => zb0 h)
 by_cases h1 : c = 91
 ·subst h1
  go_enter Tryz.func129, Tryz.ntmps129
  go_wp2_with fail
  go_ret
  exact ⟨rfl, rfl⟩
 by_cases h2 : c = 93
 ·subst h2
  go_enter Tryz.func129, Tryz.ntmps129
  go_wp2_with fail
  go_ret
  exact ⟨rfl, rfl⟩
 by_cases h3 : c = 123
 ·subst h3
  go_enter Tryz.func129, Tryz.ntmps129
  go_wp2_with fail
  go_ret
  exact ⟨rfl, rfl⟩
 by_cases h4 : c = 125
 ·subst h4
  go_enter Tryz.func129, Tryz.ntmps129
  go_wp2_with fail
  go_ret
  exact ⟨rfl, rfl⟩
 by_cases h5 : c = 58
 ·subst h5
  go_enter Tryz.func129, Tryz.ntmps129
  go_wp2_with fail
  go_ret
  exact ⟨rfl, rfl⟩
 by_cases h6 : c = 44
 ·subst h6
  go_enter Tryz.func129, Tryz.ntmps129
  go_wp2_with fail
  go_ret
  exact ⟨rfl, rfl⟩
 have n1 : ((c : Int) == 91) = false := by rw [beq_eq_false_iff_ne]; omega
 have n2 : ((c : Int) == 93) = false := by rw [beq_eq_false_iff_ne]; omega
 have n3 : ((c : Int) == 123) = false := by rw [beq_eq_false_iff_ne]; omega
 have n4 : ((c : Int) == 125) = false := by rw [beq_eq_false_iff_ne]; omega
 have n5 : ((c : Int) == 58) = false := by rw [beq_eq_false_iff_ne]; omega
 have n6 : ((c : Int) == 44) = false := by rw [beq_eq_false_iff_ne]; omega
 have HE := hid (HM.out ⟨h1, h2, h3, h4, h5, h6⟩)
 clear h1 h2 h3 h4 h5 h6
 go_enter Tryz.func129, Tryz.ntmps129
 go_wp2_with fail
 go_ret
 exact ⟨by rw [HE.out]; rfl, rfl⟩
theorem wrap_oneM (k : Nat) (h : k ≤ 4294967296) : IntKind.i64.wrap ((k : Int) + 1) = (k : Int) + 1 := by rw [IntKind.wrap_i64]; omega
section
variable {F : Fence} {n : Nat} {P : Program} {Q : Exit → Act → World → Prop} {b : Frame} {a : Act} {k : List Item} {cs : List Frame} {w : World}
theorem zdy {c : Code} : step P (lone (b.atR a (.code (.scope c) :: k)) cs w) = .next (lone (b.atR a (.code c :: .inScope c :: k)) cs w) :=
 step_lone_go (by simp [stepG, stepG.exec, Frame.atR])
theorem zq6 {c : Code} : step P (lone (b.atR a (.inScope c :: k)) cs w) = .next (lone (b.atR a k) cs w) :=
 step_lone_go (by simp [stepG, stepG.exec, Frame.atR])
theorem zjt {c : Code} (h : c.wpIn F n P (Exit.noGoto Q) a w) : (Code.scope c).wpIn F n P Q a w := by
 intro b k cs hro hb hr
 have h0 : (lone (b.atR a (.code (.scope c) :: k)) cs w).fenced P F := fenced_calm hb hr rfl
 obtain ⟨e, a₁, w₁, hq, harr⟩ := h b (.inScope c :: k) cs hro hb hr
 cases e with
 | normal => exact ⟨.normal, a₁, w₁, hq, .head h0 zdy (StepsIn.trans harr (.one (fenced_calm hb hr rfl) zq6))⟩
 | exit id =>
   have hx : exitTo id (.inScope c :: k) = exitTo id k := by simp [exitTo]
   exact ⟨.exit id, a₁, w₁, hq, fun k' hk => .head h0 zdy (harr.1 k' (by rw [hx]; exact hk)),
    fun hr' hk => let ⟨k₁, h1, h2⟩ := harr.2 hr' (by rw [hx]; exact hk); ⟨k₁, h1, .head h0 zdy h2⟩⟩
 | goto l => exact hq.elim
 | ret => exact ⟨_, a₁, w₁, hq, .of_steps (.one h0 zdy) harr⟩
 | panic ch => exact ⟨_, a₁, w₁, hq, .of_steps (.one h0 zdy) harr⟩
 | outgrown => exact ⟨_, a₁, w₁, hq, .of_steps (.one h0 zdy) harr⟩
end
def KpM (Bn : Nat) (W W' : World) : Prop := W'.heap[Bn]? = W.heap[Bn]?
theorem KpM.t {Bn : Nat} : ∀ {A B C : World}, KpM Bn A B → KpM Bn B C → KpM Bn A C := fun h k => k.trans h
theorem KpM.b {Bn : Nat} {w : World} (h : Bn < w.heap.size) : ∀ (W : World) (l : Nat) (o o' : Obj), w.heap.size ≤ l → W.heap[l]? = some o → o.isCells = false → o.isWalk = false → KpM Bn W (W.putObj l o') := fun W l o o' hl _ _ _ => by
 refine (grownBy_putObj' W l o').block Bn ?_ (fun e => by cases e; omega)
 rename_i h3 _ _
 have := (Array.getElem?_eq_some_iff.1 h3).1
 omega
def mkE (x : Nat × Nat) : Array Value := #[.int .i64 (x.1 : Nat), .int .u8 (x.2 : Nat)]
def stOf (b : Bool) : Nat := if b then 1 else 0
def L.zby (l : List Nat) (b : Bool) (a : Nat) : List (Nat × Nat) := mkGo (stOf b) (l.drop a) a
theorem L.znt {l : List Nat} {b : Bool} {a : Nat} (h : l.length ≤ a) : zby l b a = [] := by unfold zby; rw [List.drop_eq_nil_of_le h]; rfl
theorem L.zev {l : List Nat} {a : Nat} (b : Bool) (h : a < l.length) : zby l b a = (if isMk (stOf b) (at_ l a) then [(a, at_ l a)] else []) ++ mkGo (zbm (stOf b) (at_ l a)) (l.drop (a + 1)) (a + 1) := by
 unfold zby
 have e : l.drop a = at_ l a :: l.drop (a + 1) := by
  rw [List.drop_eq_getElem_cons h]
  congr 1
  have := zju h
  rw [List.getElem?_eq_getElem h] at this
  exact Option.some.inj this
 rw [e]; rfl
theorem L.zsx {l : List Nat} {a : Nat} (b : Bool) (h : a < l.length) (hc : at_ l a = 34) : zby l b a = zby l (!b) (a + 1) := by
 rw [zev b h, hc]
 cases b <;> rfl
theorem L.zu0 {l : List Nat} {a : Nat} (h : a < l.length) (hc : at_ l a = 92) : zby l true a = zby l true (a + 2) := by
 rw [zev true h, hc]
 show mkGo 2 (l.drop (a + 1)) (a + 1) = _
 rcases Nat.lt_or_ge (a + 1) l.length with h1 | h1
 ·rw [List.drop_eq_getElem_cons h1]
  rfl
 ·rw [List.drop_eq_nil_of_le h1, znt (by omega)]; rfl
theorem L.zzv {l : List Nat} {a : Nat} (h : a < l.length) (hc : at_ l a ≠ 34) (hb : at_ l a ≠ 92) : zby l true a = zby l true (a + 1) := by
 rw [zev true h]
 have e : zbm (stOf true) (at_ l a) = 1 := by unfold zbm stOf; simp [hc, hb]
 rw [e]; rfl
theorem L.zxt {l : List Nat} {a : Nat} (h : a < l.length) (hc : at_ l a ≠ 34) (hb : isM (at_ l a) = false) : zby l false a = zby l false (a + 1) := by
 rw [zev false h]
 have e : zbm (stOf false) (at_ l a) = 0 := by unfold zbm stOf; simp [hc]
 have e2 : isMk (stOf false) (at_ l a) = false := zkj (Or.inr hb)
 rw [e, e2]; rfl
theorem L.zu1 {l : List Nat} {a : Nat} (h : a < l.length) (hb : isM (at_ l a) = true) : zby l false a = (a, at_ l a) :: zby l false (a + 1) := by
 rw [zev false h]
 have hc : at_ l a ≠ 34 := fun e => by rw [e] at hb; cases hb
 have e : zbm (stOf false) (at_ l a) = 0 := by unfold zbm stOf; simp [hc]
 have e2 : isMk (stOf false) (at_ l a) = true := by unfold isMk stOf; simp [hb]
 rw [e, e2]; rfl
theorem zzw (n : Nat) (hn : 2 ≤ n) (l Bn : Nat) (s : ByteArray) (hs : s.size ≤ 1048576) (J Jx : List (Nat × Nat) → World → Prop)
  (hY : ∀ pre x W, J pre W → pre.length < (mks (nb s)).length → YieldAt Fence.wide (n - 1) Tryz.prog l (mkE x) W fun e W' =>
   (e = .returned (.bool true) ∧ J (pre ++ [x]) W' ∧ KpM Bn W W') ∨ (e = .returned (.bool false) ∧ Jx (pre ++ [x]) W'))
  (W : World) (hc : W.cell? ⟨Bn, 0, none⟩ = some (.string s)) (h0 : J [] W) :
  CallsIn Fence.wide n Tryz.prog 128 #[.func (.yield l) #[] #[], .pointer (some ⟨Bn, 0, none⟩)] W fun e W' => (∃ v, e = .returned v) ∧
   ((∃ ys, ys = mks (nb s) ∧ J ys W') ∨ (∃ pre, pre <+: mks (nb s) ∧ Jx pre W')) := by
 have HL := hid (zf s)
 refine callsIn_of_wp Tryz.func128 rfl trivial ?_ rfl
 simp only [Tryz.ntmps128, List.size_toArray, List.length_cons, List.length_nil, Nat.reduceAdd, Nat.reduceSub, Array.replicate_succ, Array.replicate_zero, List.push_toArray, List.append_toArray, List.nil_append, List.cons_append]
 refine zjt ?_
 gi_wp2
 refine wpIn_label ?_
 gi_wp2
 gi_loopw [3, 4] (fun iv av wr => ∃ (pre : List (Nat × Nat)) (b : Bool) (a : Nat), iv = .bool b ∧ av = .int .i64 (a : Nat) ∧ a ≤ s.size + 1 ∧ Hid (mks (nb s) = pre ++ zby (nb s) b a) ∧ J pre wr ∧ wr.cell? ⟨Bn, 0, none⟩ = some (.string s))
  (fun _ av _ => s.size + 1 - (intOf av).toNat)
 case atStart => exact ⟨[], false, 0, rfl, rfl, by omega, hid rfl, h0, hc⟩
 case round =>
  obtain ⟨pre, b, a, rfl, rfl, ha, hx, hJs, hcr⟩ := hrel
  rcases Nat.lt_or_ge a s.size with h | h
  ·have hi : (a : Int) < (s.size : Int) := by omega
   have hi2 : decide ((a : Int) < (s.size : Int)) = true := decide_eq_true hi
   have hi0 : (0 : Int) ≤ (a : Int) := by omega
   have hll : a < (nb s).length := by rw [HL.out]; exact h
   have hat := zaz s a h
   have hlt := UInt8.toNat_lt s[a]
   have hw1 := wrap_oneM a (by omega)
   have hw2 := wrap_oneM (a + 1) (by omega)
   by_cases h34 : (s[a]).toNat = 34
   ·have HX := hid (show mks (nb s) = pre ++ zby (nb s) (!b) (a + 1) by rw [hx.out, zsx b hll (by rw [hat]; exact h34)])
    have n34 : (((s[a]).toNat : Int) == 34) = true := by rw [beq_iff_eq]; omega
    have n92 : (((s[a]).toNat : Int) == 92) = false := by rw [beq_eq_false_iff_ne]; omega
    clear h34 hat hll hx
    cases b
    ·gi_wp2
     exact ⟨⟨pre, true, a + 1, rfl, by go_num, by omega, HX, hJs, hcr⟩, by simp [intOf]; omega⟩
    ·gi_wp2
     exact ⟨⟨pre, false, a + 1, rfl, by go_num, by omega, HX, hJs, hcr⟩, by simp [intOf]; omega⟩
   ·have n34 : (((s[a]).toNat : Int) == 34) = false := by rw [beq_eq_false_iff_ne]; omega
    cases b with
    | true =>
      by_cases h92 : (s[a]).toNat = 92
      ·have HX := hid (show mks (nb s) = pre ++ zby (nb s) true (a + 2) by rw [hx.out, zu0 hll (by rw [hat]; exact h92)])
       have n92 : (((s[a]).toNat : Int) == 92) = true := by rw [beq_iff_eq]; omega
       clear h34 hat hll hx h92
       gi_wp2
       exact ⟨⟨pre, true, a + 2, rfl, by go_num, by omega, HX, hJs, hcr⟩, by simp [intOf]; omega⟩
      ·have HX := hid (show mks (nb s) = pre ++ zby (nb s) true (a + 1) by rw [hx.out, zzv hll (by rw [hat]; exact h34) (by rw [hat]; exact h92)])
       have n92 : (((s[a]).toNat : Int) == 92) = false := by rw [beq_eq_false_iff_ne]; omega
       clear h34 hat hll hx h92
       gi_wp2
       refine ⟨trivial, ?_⟩
       gi_wp2
       exact ⟨⟨pre, true, a + 1, rfl, by go_num, by omega, HX, hJs, hcr⟩, by simp [intOf]; omega⟩
    | false =>
      have HIS := hid (fun W => z6b (s[a]).toNat W)
      cases hm : isM (s[a]).toNat with
      | false =>
        have HX := hid (show mks (nb s) = pre ++ zby (nb s) false (a + 1) by rw [hx.out, zxt hll (by rw [hat]; exact h34) (by rw [hat]; exact hm)])
        rw [hm] at HIS
        clear h34 hat hll hx hm
        gi_wp2
        refine ⟨trivial, fun _ => by omega, ?_⟩
        refine (callsIn_wide.2 (HIS.out _)).mono ?_
        rintro e w' ⟨rfl, rfl⟩
        gi_wp2
        exact ⟨⟨pre, false, a + 1, rfl, by go_num, by omega, HX, hJs, hcr⟩, by simp [intOf]; omega⟩
      | true =>
        have hx2 : mks (nb s) = pre ++ (a, (s[a]).toNat) :: zby (nb s) false (a + 1) := by rw [hx.out, zu1 hll (by rw [hat]; exact hm), hat]
        obtain ⟨fn, tmps, assign, body, hy, hR⟩ := hY pre (a, (s[a]).toNat) wr hJs (by rw [hx2]; simp)
        dsimp only [mkE] at hy hR
        have HX := hid (show mks (nb s) = (pre ++ [(a, (s[a]).toNat)]) ++ zby (nb s) false (a + 1) by rw [hx2]; simp)
        rw [hm] at HIS
        clear h34 hat hll hx hm hx2
        gi_wp2
        refine ⟨trivial, fun _ => by omega, ?_⟩
        refine (callsIn_wide.2 (HIS.out _)).mono ?_
        rintro e w' ⟨rfl, rfl⟩
        gi_wp2
        refine ⟨fun _ => by omega, ?_⟩
        refine hR.mono ?_
        rintro e W3 (⟨rfl, hJ3, hk3⟩ | ⟨rfl, hJx3⟩)
        ·have hq3 : W3.cell? ⟨Bn, 0, none⟩ = some (.string s) := (World.cell?_of_block (a := ⟨Bn, 0, none⟩) hk3).trans hcr
         gi_wp2
         exact ⟨⟨pre ++ [(a, (s[a]).toNat)], false, a + 1, rfl, by go_num, by omega, HX, hJ3, hq3⟩, by simp [intOf]; omega⟩
        ·gi_wp2
         try rw [Exit.noGoto_ret]
         refine bodyPost_ret (results_none rfl _ _ _) rfl ?_
         exact ⟨⟨_, rfl⟩, .inr ⟨pre ++ [(a, (s[a]).toNat)], ⟨_, HX.out.symm⟩, hJx3⟩⟩
  ·have hi : decide ((a : Int) < (s.size : Int)) = false := decide_eq_false (by omega)
   have hiN : ¬ (a < s.size) := by omega
   have hE := hid (znt (l := nb s) (b := b) (a := a) (by rw [HL.out]; exact h))
   gi_wp2
   try rw [Exit.noGoto_normal]
   go_end0
   exact ⟨⟨_, rfl⟩, .inl ⟨pre, by rw [hx.out, hE.out, List.append_nil], hJs⟩⟩
end Go.Proofs.YtgpbpgpolpakjaaGreatDoor
namespace Go.Proofs.YtgpbpgpolpakjaaGreatDoor.L
def Text (l : List Nat) (deep : Nat) : Prop := (goA start l 0).2 = l.length ∧ fin (goA start l 0).1 = true ∧ (goA start l 0).1.most ≤ deep
theorem zu3 (s : Nat) (l m : List Nat) : mrun s (l ++ m) = mrun (mrun s l) m := by unfold mrun; rw [List.foldl_append]
end Go.Proofs.YtgpbpgpolpakjaaGreatDoor.L
namespace Go.Proofs.YtgpbpgpolpakjaaGreatDoor
open Go.RowKit Go.Shelf L
attribute [local go_sem] Oper.semAt_some
theorem zp9 (s : ByteArray) (w : World) : Calls Tryz.prog 77 #[.string s] w fun e w' => e = .returned (.func (.func 128) #[] #[.pointer (some ⟨w.heap.size, 0, none⟩)]) ∧ w' = w.alloc (.cells #[.string s] 9) := by
 go_enter Tryz.func77, Tryz.ntmps77
 go_wp2_with fail
 go_ret
 exact ⟨rfl, rfl⟩
theorem zl4 (n : Nat) (hn : 2 ≤ n) (Bn : Nat) (s : ByteArray) (hs : s.size ≤ 1048576) (w : World) (hBn : Bn < w.heap.size) (hc : w.cell? ⟨Bn, 0, none⟩ = some (.string s)) :
  SeqStopsK Fence.wide n Tryz.prog 128 #[.pointer (some ⟨Bn, 0, none⟩)] mkE (KpM Bn) (fun ys => ys = mks (nb s)) (fun pre => pre <+: mks (nb s)) (mks (nb s)).length w := fun l J Jx W hW _ _ hY h0 =>
 zzw n hn l Bn s hs J Jx hY W ((hW.cell (p := ⟨Bn, 0, none⟩) hBn).trans hc) h0
theorem zl5 (s : ByteArray) (w : World) (hs : s.size ≤ 1048576) :
  Calls Tryz.prog 28 #[.string s] w fun e w' => ∃ A c, e = .returned (.slice A (places (nb s)).length c) ∧ w'.ownsRow w.heap.size 3 1 (.slice A (places (nb s)).length c) (places (nb s)).length (zz (places (nb s))) ∧ Below w.heap.size w w' := by
 obtain ⟨i0, hi, hz0, hz1, hz2⟩ := info_parts Tryz.infoInt
 have hml : (mks (nb s)).length ≤ 1048576 := by have := zbg (nb s); rw [zf] at this; omega
 refine (callsIn_wide (n := 8)).1 ?_
 refine callsIn_of_wp_marks Tryz.func28 rfl trivial ?_ rfl
 simp only [Tryz.ntmps28, List.size_toArray, List.length_cons, List.length_nil, Nat.reduceAdd, Nat.reduceSub, Array.replicate_succ, Array.replicate_zero, List.push_toArray, List.append_toArray, List.nil_append, List.cons_append]
 gi_wp2
 refine ⟨trivial, ?_⟩
 refine (callsIn_wide.2 (zp9 s _)).mono ?_
 rintro e w1 ⟨rfl, rfl⟩
 gi_wp2
 have b0 := (Boxed.new w 52 (.slice none 0 0)).alloc (.cells #[.string s] 9)
 have b1 := Boxed.new (w.alloc (.cells #[.slice none 0 0] 52)) 9 (.string s)
 simp only [World.size_alloc] at b1
 have hB0 : Below w.heap.size w ((w.alloc (.cells #[.slice none 0 0] 52)).alloc (.cells #[.string s] 9)) := ((Below.refl _ w).alloc (Nat.le_refl _) _).alloc (by simp) _
 have hsz : ((w.alloc (.cells #[.slice none 0 0] 52)).alloc (.cells #[.string s] 9)).heap.size = w.heap.size + 2 := by simp
 obtain ⟨W0, hW0⟩ : ∃ W0, (w.alloc (.cells #[.slice none 0 0] 52)).alloc (.cells #[.string s] 9) = W0 := ⟨_, rfl⟩
 rw [hW0] at b0 b1 hB0 hsz ⊢
 clear hW0
 refine wpIn_rangeFunc_ownF (n := 8) rfl (by omega) (gf := 128) (lb := #[.pointer (some ⟨w.heap.size + 1, 0, none⟩)]) rfl trivial (enters_of Tryz.func128 (by kernel_rfl) rfl)
  (zl4 (8 - 1) (by omega) (w.heap.size + 1) s hs W0 (by omega) b1.cell) KpM.t (KpM.b (by omega)) (Below.refl _ _) (fun _ => rfl)
  (fun pre W => ((∃ v, Boxed W w.heap.size 52 v ∧ W.ownsRow w.heap.size 3 1 v pre.length (zz (pre.map Prod.fst)) ∧ True) ∧ Boxed W (w.heap.size + 1) 9 (.string s)) ∧ Below w.heap.size w W)
  (fun c pre W => False)
  (OwnFrom.and (OwnFrom.and (Own.from (holdsRow_own w.heap.size w.heap.size 52 3 1 (fun pre : List (Nat × Nat) => pre.length) (fun pre => zz (pre.map Prod.fst)) (fun _ _ => True)) _) (Own.from (boxed_own _ _ (fun _ => .string s)) _)) (ownFrom_below (Nat.le_refl _) (by omega)))
  (fun c => ownFrom_pure _ _)
  ⟨⟨⟨_, b0, World.ownsRow_nil _ _ _ _, trivial⟩, b1⟩, hB0⟩
  (fun x => { tmps := #[.string s, undef, .slice none 0 0, .pointer (some ⟨w.heap.size, 0, none⟩), .int .i64 (x.1 : Nat), .string s, .func (.func 128) #[] #[.pointer (some ⟨w.heap.size + 1, 0, none⟩)], .int .i64 (x.1 : Nat), .int .u8 (x.2 : Nat), undef, undef, undef, undef, undef], defers := [] })
  ?assign ?body ?done ?stop
 case assign =>
  intro l x W K hK
  dsimp only [mkE]
  gi_wp2
  first | exact hK | simpa using hK
 case body =>
  rintro r pre x W ⟨⟨⟨v, bO, hrow, _⟩, b1'⟩, hB⟩ hlt
  obtain ⟨A, cc, rfl⟩ := zam hrow
  have kO := bO.cell
  have kO' := bO.frozen
  have hsW := hB.size
  gi_wp2_with (gi_at_builtin; refine wpListIn_append_own _ rfl (.tmp 9) (.tmp 11) 52 rfl w.heap.size 3 i0 _ 1 8 Tryz.underlying52 hi hz0 hz1 hz2 rfl (by decide) _ _ _ rfl (hrow.alloc _) ⟨W.heap.size, 0, none⟩ 1 1 [.int .i64 (x.1 : Nat)] rfl rfl (zly _ _ _ _ rfl) (by simp [Value.oneCell']) (by simp only [maxLen]; omega) (by omega) (by simp; omega) ?_; intro v' w1 hown' hgrow _; obtain ⟨g', cap', rfl⟩ := ownsRow_succ hown'; obtain ⟨hv1, hv2, hr2, hk2, hb2⟩ := bO.appended (by decide) hrow hB.size (by omega) hown' hgrow; have hc1 := hv1.cell; have hf1 := hv1.frozen)
  have c1 := ((b1'.alloc _).kept hgrow (b1'.not_row (by decide) hrow)).other (B' := w.heap.size) (by omega) (.slice (some ⟨g', 0, none⟩) (pre.length + 1) cap')
  exact ⟨hk2, Eq.trans (show _ = _ from c1) (Eq.symm (show _ = _ from b1')), ⟨⟨⟨_, hv2, by rw [List.map_append, zfk, List.length_append]; exact hr2, trivial⟩, c1⟩, hB.trans hb2⟩⟩
 case done =>
  rintro D ys W hD rfl ⟨⟨⟨v, bO, hrow, _⟩, b1'⟩, hB⟩ hK
  have kO := bO.cell
  obtain ⟨A, cc, rfl⟩ := zam hrow
  gi_wp2
  refine ⟨by simp, .inl ⟨_, _, rfl, run_takeDeferred hK, ?_⟩⟩
  have hpl : (mks (nb s)).length = (places (nb s)).length := (zah _).symm
  refine ⟨.slice A (places (nb s)).length cc, ?_, A, cc, rfl, ?_, hB.trans (belowK_b (w := w) (Nat.le_refl _) _ D _ _ (by omega) hK rfl rfl)⟩
  ·rw [← hpl]
   simp [results, Tryz.f28, go_sem]
  ·rw [← hpl]
   exact ownsRow_putObj hrow _ hK rfl
 case stop =>
  rintro D c pre W hD hpre h
  exact h.elim
theorem L.zu4 (m : List (Nat × Nat)) (x : Nat × Nat) : ((m ++ [x]).flatMap fun y => zbc y.2) = (m.flatMap fun y => zbc y.2) ++ zbc x.2 := by rw [List.flatMap_append]; simp
theorem zch (w : World) (x y : Value) (e : TypeId) (k : Nat) (hk : k = w.heap.size) : ∀ j u, [x, y][j]? = some u → (w.alloc (.cells #[x, y] e)).cell? ((⟨k, 0, none⟩ : Addr).add j) = some u := by
 subst hk
 intro j u hu
 rw [zdk, (za.new w e #[x, y]).cell j]
 simpa using hu
theorem zl6 (s : ByteArray) (w : World) (hs : s.size ≤ 1048576) :
  Calls Tryz.prog 32 #[.string s] w fun e w' => ∃ A c, e = .returned (.slice A (zl (nb s)).length c) ∧ w'.ownsRow w.heap.size 4 1 (.slice A (zl (nb s)).length c) (zl (nb s)).length (bools (zl (nb s))) ∧ Below w.heap.size w w' := by
 obtain ⟨i0, hi, hz0, hz1, hz2⟩ := info_parts Tryz.infoBool
 have hml : (mks (nb s)).length ≤ 1048576 := by have := zbg (nb s); rw [zf] at this; omega
 refine (callsIn_wide (n := 8)).1 ?_
 refine callsIn_of_wp_marks Tryz.func32 rfl trivial ?_ rfl
 simp only [Tryz.ntmps32, List.size_toArray, List.length_cons, List.length_nil, Nat.reduceAdd, Nat.reduceSub, Array.replicate_succ, Array.replicate_zero, List.push_toArray, List.append_toArray, List.nil_append, List.cons_append]
 gi_wp2
 refine ⟨trivial, ?_⟩
 refine (callsIn_wide.2 (zp9 s _)).mono ?_
 rintro e w1 ⟨rfl, rfl⟩
 gi_wp2
 have b0 := (Boxed.new w 31 (.slice none 0 0)).alloc (.cells #[.string s] 9)
 have b1 := Boxed.new (w.alloc (.cells #[.slice none 0 0] 31)) 9 (.string s)
 simp only [World.size_alloc] at b1
 have hB0 : Below w.heap.size w ((w.alloc (.cells #[.slice none 0 0] 31)).alloc (.cells #[.string s] 9)) := ((Below.refl _ w).alloc (Nat.le_refl _) _).alloc (by simp) _
 have hsz : ((w.alloc (.cells #[.slice none 0 0] 31)).alloc (.cells #[.string s] 9)).heap.size = w.heap.size + 2 := by simp
 obtain ⟨W0, hW0⟩ : ∃ W0, (w.alloc (.cells #[.slice none 0 0] 31)).alloc (.cells #[.string s] 9) = W0 := ⟨_, rfl⟩
 rw [hW0] at b0 b1 hB0 hsz ⊢
 clear hW0
 refine wpIn_rangeFunc_ownF (n := 8) rfl (by omega) (gf := 128) (lb := #[.pointer (some ⟨w.heap.size + 1, 0, none⟩)]) rfl trivial (enters_of Tryz.func128 (by kernel_rfl) rfl)
  (zl4 (8 - 1) (by omega) (w.heap.size + 1) s hs W0 (by omega) b1.cell) KpM.t (KpM.b (by omega)) (Below.refl _ _) (fun _ => rfl)
  (fun pre W => ((∃ v, Boxed W w.heap.size 31 v ∧ W.ownsRow w.heap.size 4 1 v (pre.flatMap fun y => zbc y.2).length (bools (pre.flatMap fun y => zbc y.2)) ∧ True) ∧ Boxed W (w.heap.size + 1) 9 (.string s)) ∧ Below w.heap.size w W)
  (fun c pre W => False)
  (OwnFrom.and (OwnFrom.and (Own.from (holdsRow_own w.heap.size w.heap.size 31 4 1 (fun pre : List (Nat × Nat) => (pre.flatMap fun y => zbc y.2).length) (fun pre => bools (pre.flatMap fun y => zbc y.2)) (fun _ _ => True)) _) (Own.from (boxed_own _ _ (fun _ => .string s)) _)) (ownFrom_below (Nat.le_refl _) (by omega)))
  (fun c => ownFrom_pure _ _)
  ⟨⟨⟨_, b0, World.ownsRow_nil _ _ _ _, trivial⟩, b1⟩, hB0⟩
  (fun x => { tmps := #[.string s, undef, .slice none 0 0, .pointer (some ⟨w.heap.size, 0, none⟩), undef, .int .u8 (x.2 : Nat), .string s, .func (.func 128) #[] #[.pointer (some ⟨w.heap.size + 1, 0, none⟩)], .int .i64 (x.1 : Nat), .int .u8 (x.2 : Nat), undef, undef, undef, undef, undef, undef, undef, undef, undef, undef, undef, undef, undef, undef, undef, undef, undef], defers := [] })
  ?assign ?body ?done ?stop
 case assign =>
  intro l x W K hK
  dsimp only [mkE]
  gi_wp2
  first | exact hK | simpa using hK
 case body =>
  rintro r pre x W ⟨⟨⟨v, bO, hrow, _⟩, b1'⟩, hB⟩ hlt
  have hpl := zns pre
  have HSN := hid (zu4 pre x)
  obtain ⟨L, hL⟩ : ∃ L, L = pre.flatMap fun y => zbc y.2 := ⟨_, rfl⟩
  rw [← hL] at hrow hpl HSN
  clear hL
  obtain ⟨A, cc, rfl⟩ := zam hrow
  have kO := bO.cell
  have kO' := bO.frozen
  have hsW := hB.size
  by_cases h91 : x.2 = 91
  ·have HB2 := hid (show zbc x.2 = [true, true] by rw [h91]; rfl)
   have n91 : ((x.2 : Int) == 91) = true := by rw [beq_iff_eq]; omega
   have hl2 : L.length ≤ 2097152 := by omega
   clear h91 hpl hlt
   gi_wp2_with (gi_at_builtin; refine wpListIn_append_own _ rfl (.tmp 17) (.tmp 18) 31 rfl w.heap.size 4 i0 _ 1 1 Tryz.underlying31 hi hz0 hz1 hz2 rfl (by decide) _ _ _ rfl (hrow.alloc _) ⟨W.heap.size, 0, none⟩ 2 2 [.bool true, .bool true] rfl rfl (zch _ _ _ _ _ rfl) (by simp [Value.oneCell']) (by simp only [maxLen]; omega) (by omega) (by simp; omega) ?_; intro v' w1 hown' hgrow _; obtain ⟨g', cap', rfl⟩ := ownsRow_succ hown'; obtain ⟨hv1, hv2, hr2, hk2, hb2⟩ := bO.appended (by decide) hrow hB.size (by omega) hown' hgrow; have hc1 := hv1.cell; have hf1 := hv1.frozen)
   have c1 := ((b1'.alloc _).kept hgrow (b1'.not_row (by decide) hrow)).other (B' := w.heap.size) (by omega) (.slice (some ⟨g', 0, none⟩) (L.length + 2) cap')
   exact ⟨hk2, Eq.trans (show _ = _ from c1) (Eq.symm (show _ = _ from b1')), ⟨⟨⟨_, hv2, by rw [HSN.out, HB2.out, zaj, List.length_append]; exact hr2, trivial⟩, c1⟩, hB.trans hb2⟩⟩
  by_cases h123 : x.2 = 123
  ·have HB2 := hid (show zbc x.2 = [true, true] by rw [h123]; rfl)
   have n91 : ((x.2 : Int) == 91) = false := by rw [beq_eq_false_iff_ne]; omega
   have n123 : ((x.2 : Int) == 123) = true := by rw [beq_iff_eq]; omega
   have hl2 : L.length ≤ 2097152 := by omega
   clear h91 h123 hpl hlt
   gi_wp2_with (gi_at_builtin; refine wpListIn_append_own _ rfl (.tmp 17) (.tmp 18) 31 rfl w.heap.size 4 i0 _ 1 1 Tryz.underlying31 hi hz0 hz1 hz2 rfl (by decide) _ _ _ rfl (hrow.alloc _) ⟨W.heap.size, 0, none⟩ 2 2 [.bool true, .bool true] rfl rfl (zch _ _ _ _ _ rfl) (by simp [Value.oneCell']) (by simp only [maxLen]; omega) (by omega) (by simp; omega) ?_; intro v' w1 hown' hgrow _; obtain ⟨g', cap', rfl⟩ := ownsRow_succ hown'; obtain ⟨hv1, hv2, hr2, hk2, hb2⟩ := bO.appended (by decide) hrow hB.size (by omega) hown' hgrow; have hc1 := hv1.cell; have hf1 := hv1.frozen)
   have c1 := ((b1'.alloc _).kept hgrow (b1'.not_row (by decide) hrow)).other (B' := w.heap.size) (by omega) (.slice (some ⟨g', 0, none⟩) (L.length + 2) cap')
   exact ⟨hk2, Eq.trans (show _ = _ from c1) (Eq.symm (show _ = _ from b1')), ⟨⟨⟨_, hv2, by rw [HSN.out, HB2.out, zaj, List.length_append]; exact hr2, trivial⟩, c1⟩, hB.trans hb2⟩⟩
  by_cases h93 : x.2 = 93
  ·have HB2 := hid (show zbc x.2 = [false, false] by rw [h93]; rfl)
   have n91 : ((x.2 : Int) == 91) = false := by rw [beq_eq_false_iff_ne]; omega
   have n123 : ((x.2 : Int) == 123) = false := by rw [beq_eq_false_iff_ne]; omega
   have n93 : ((x.2 : Int) == 93) = true := by rw [beq_iff_eq]; omega
   have hl2 : L.length ≤ 2097152 := by omega
   clear h91 h123 h93 hpl hlt
   gi_wp2_with (gi_at_builtin; refine wpListIn_append_own _ rfl (.tmp 23) (.tmp 24) 31 rfl w.heap.size 4 i0 _ 1 1 Tryz.underlying31 hi hz0 hz1 hz2 rfl (by decide) _ _ _ rfl (hrow.alloc _) ⟨W.heap.size, 0, none⟩ 2 2 [.bool false, .bool false] rfl rfl (zch _ _ _ _ _ rfl) (by simp [Value.oneCell']) (by simp only [maxLen]; omega) (by omega) (by simp; omega) ?_; intro v' w1 hown' hgrow _; obtain ⟨g', cap', rfl⟩ := ownsRow_succ hown'; obtain ⟨hv1, hv2, hr2, hk2, hb2⟩ := bO.appended (by decide) hrow hB.size (by omega) hown' hgrow; have hc1 := hv1.cell; have hf1 := hv1.frozen)
   have c1 := ((b1'.alloc _).kept hgrow (b1'.not_row (by decide) hrow)).other (B' := w.heap.size) (by omega) (.slice (some ⟨g', 0, none⟩) (L.length + 2) cap')
   exact ⟨hk2, Eq.trans (show _ = _ from c1) (Eq.symm (show _ = _ from b1')), ⟨⟨⟨_, hv2, by rw [HSN.out, HB2.out, zaj, List.length_append]; exact hr2, trivial⟩, c1⟩, hB.trans hb2⟩⟩
  by_cases h125 : x.2 = 125
  ·have HB2 := hid (show zbc x.2 = [false, false] by rw [h125]; rfl)
   have n91 : ((x.2 : Int) == 91) = false := by rw [beq_eq_false_iff_ne]; omega
   have n123 : ((x.2 : Int) == 123) = false := by rw [beq_eq_false_iff_ne]; omega
   have n93 : ((x.2 : Int) == 93) = false := by rw [beq_eq_false_iff_ne]; omega
   have n125 : ((x.2 : Int) == 125) = true := by rw [beq_iff_eq]; omega
   have hl2 : L.length ≤ 2097152 := by omega
   clear h91 h123 h93 h125 hpl hlt
   gi_wp2_with (gi_at_builtin; refine wpListIn_append_own _ rfl (.tmp 23) (.tmp 24) 31 rfl w.heap.size 4 i0 _ 1 1 Tryz.underlying31 hi hz0 hz1 hz2 rfl (by decide) _ _ _ rfl (hrow.alloc _) ⟨W.heap.size, 0, none⟩ 2 2 [.bool false, .bool false] rfl rfl (zch _ _ _ _ _ rfl) (by simp [Value.oneCell']) (by simp only [maxLen]; omega) (by omega) (by simp; omega) ?_; intro v' w1 hown' hgrow _; obtain ⟨g', cap', rfl⟩ := ownsRow_succ hown'; obtain ⟨hv1, hv2, hr2, hk2, hb2⟩ := bO.appended (by decide) hrow hB.size (by omega) hown' hgrow; have hc1 := hv1.cell; have hf1 := hv1.frozen)
   have c1 := ((b1'.alloc _).kept hgrow (b1'.not_row (by decide) hrow)).other (B' := w.heap.size) (by omega) (.slice (some ⟨g', 0, none⟩) (L.length + 2) cap')
   exact ⟨hk2, Eq.trans (show _ = _ from c1) (Eq.symm (show _ = _ from b1')), ⟨⟨⟨_, hv2, by rw [HSN.out, HB2.out, zaj, List.length_append]; exact hr2, trivial⟩, c1⟩, hB.trans hb2⟩⟩
  ·have HB2 := hid (show zbc x.2 = [false, true] by unfold zbc; rw [if_neg (by omega), if_neg (by omega)])
   have n91 : ((x.2 : Int) == 91) = false := by rw [beq_eq_false_iff_ne]; omega
   have n123 : ((x.2 : Int) == 123) = false := by rw [beq_eq_false_iff_ne]; omega
   have n93 : ((x.2 : Int) == 93) = false := by rw [beq_eq_false_iff_ne]; omega
   have n125 : ((x.2 : Int) == 125) = false := by rw [beq_eq_false_iff_ne]; omega
   have hl2 : L.length ≤ 2097152 := by omega
   clear h91 h123 h93 h125 hpl hlt
   gi_wp2_with (gi_at_builtin; refine wpListIn_append_own _ rfl (.tmp 11) (.tmp 12) 31 rfl w.heap.size 4 i0 _ 1 1 Tryz.underlying31 hi hz0 hz1 hz2 rfl (by decide) _ _ _ rfl (hrow.alloc _) ⟨W.heap.size, 0, none⟩ 2 2 [.bool false, .bool true] rfl rfl (zch _ _ _ _ _ rfl) (by simp [Value.oneCell']) (by simp only [maxLen]; omega) (by omega) (by simp; omega) ?_; intro v' w1 hown' hgrow _; obtain ⟨g', cap', rfl⟩ := ownsRow_succ hown'; obtain ⟨hv1, hv2, hr2, hk2, hb2⟩ := bO.appended (by decide) hrow hB.size (by omega) hown' hgrow; have hc1 := hv1.cell; have hf1 := hv1.frozen)
   have c1 := ((b1'.alloc _).kept hgrow (b1'.not_row (by decide) hrow)).other (B' := w.heap.size) (by omega) (.slice (some ⟨g', 0, none⟩) (L.length + 2) cap')
   exact ⟨hk2, Eq.trans (show _ = _ from c1) (Eq.symm (show _ = _ from b1')), ⟨⟨⟨_, hv2, by rw [HSN.out, HB2.out, zaj, List.length_append]; exact hr2, trivial⟩, c1⟩, hB.trans hb2⟩⟩
 case done =>
  rintro D ys W hD rfl ⟨⟨⟨v, bO, hrow, _⟩, b1'⟩, hB⟩ hK
  have kO := bO.cell
  obtain ⟨A, cc, rfl⟩ := zam hrow
  gi_wp2
  refine ⟨by simp, .inl ⟨_, _, rfl, run_takeDeferred hK, ?_⟩⟩
  refine ⟨.slice A (zl (nb s)).length cc, ?_, A, cc, rfl, ?_, hB.trans (belowK_b (w := w) (Nat.le_refl _) _ D _ _ (by omega) hK rfl rfl)⟩
  ·simp [results, Tryz.f32, go_sem, zl]
  ·exact ownsRow_putObj hrow _ hK rfl
 case stop =>
  rintro D c pre W hD hpre h
  exact h.elim
end Go.Proofs.YtgpbpgpolpakjaaGreatDoor
namespace Go.Proofs.YtgpbpgpolpakjaaGreatDoor.L
def stA (l : List Nat) (i : Nat) : Nat := mrun 0 (l.take i)
theorem zfv {l : List Nat} {i : Nat} (h : i < l.length) : stA l (i + 1) = zbm (stA l i) (at_ l i) := by
 unfold stA
 rw [List.take_succ_eq_append_getElem h, zu3]
 have e := zju h
 rw [List.getElem?_eq_getElem h] at e
 rw [Option.some.inj e]; rfl
def insB (l : List Nat) (i : Nat) : Bool := !(stA l i == 0 && !(at_ l i == 34))
theorem z2e {l : List Nat} {i : Nat} (h : stA l i = 0) (hc : at_ l i ≠ 34) : insB l i = false := by unfold insB; simp [h, hc]
theorem zwf {l : List Nat} {i : Nat} (h : stA l i ≠ 0) : insB l i = true := by unfold insB; simp [h]
theorem zxu {l : List Nat} {i : Nat} (h : at_ l i = 34) : insB l i = true := by unfold insB; simp [h]
theorem z6c {l : List Nat} {i : Nat} : isMk (stA l i) (at_ l i) = (!insB l i && isM (at_ l i)) := by
 unfold isMk insB
 by_cases hc : at_ l i = 34
 ·rw [hc]
  have : isM 34 = false := rfl
  simp [this]
 ·have hb : (at_ l i == 34) = false := beq_eq_false_iff_ne.2 hc
  rw [hb]
  cases stA l i == 0 <;> simp
theorem zi4 : ∀ (l : List Nat) (s p : Nat), mkGo s l p = ((List.range l.length).filter fun i => isMk (mrun s (l.take i)) (at_ l i)).map fun i => (p + i, at_ l i)
 | [], s, p => rfl
 | c :: l, s, p => by
   have ih := zi4 l (zbm s c) (p + 1)
   show (if isMk s c then [(p, c)] else []) ++ mkGo (zbm s c) l (p + 1) = _
   rw [ih, List.length_cons, List.range_succ_eq_map, List.filter_cons]
   have e0 : isMk (mrun s ((c :: l).take 0)) (at_ (c :: l) 0) = isMk s c := rfl
   rw [e0, List.filter_map, show ((fun i => isMk (mrun s ((c :: l).take i)) (at_ (c :: l) i)) ∘ Nat.succ) = (fun i => isMk (mrun (zbm s c) (l.take i)) (at_ l i)) from rfl]
   have em : ∀ L : List Nat, (L.map Nat.succ).map (fun i => (p + i, at_ (c :: l) i)) = L.map (fun i => (p + 1 + i, at_ l i)) := fun L => by
    rw [List.map_map]
    refine List.map_congr_left (fun i _ => ?_)
    show (p + (i + 1), at_ (c :: l) (i + 1)) = (p + 1 + i, at_ l i)
    rw [show p + (i + 1) = p + 1 + i from by omega]; rfl
   cases isMk s c with
   | true => rw [if_pos rfl, if_pos rfl, List.map_cons, em]; rfl
   | false => simp only [Bool.false_eq_true, if_false, List.nil_append]; rw [em]
theorem zjk (l : List Nat) : places l = (List.range l.length).filter fun i => !insB l i && isM (at_ l i) := by
 unfold places mks
 rw [zi4, List.map_map]
 have e : (Prod.fst ∘ fun i => (0 + i, at_ l i)) = id := by funext i; simp
 rw [e, List.map_id]
 refine List.filter_congr (fun i _ => ?_)
 exact z6c
theorem zq7 (l : List Nat) : zl l = (places l).flatMap fun p => zbc (at_ l p) := by
 unfold zl places mks
 rw [zi4, List.map_map, List.flatMap_map]
 have e : (Prod.fst ∘ fun i => (0 + i, at_ l i)) = id := by funext i; simp
 rw [e, List.map_id]
def zfl (l : List Nat) (k : Nat) : List Nat := (List.range k).filter fun i => !insB l i && isM (at_ l i)
theorem zxv (l : List Nat) (k : Nat) : zfl l (k + 1) = zfl l k ++ (if (!insB l k && isM (at_ l k)) then [k] else []) := by
 unfold zfl
 rw [List.range_succ, List.filter_append]
 congr 1
 cases h : (!insB l k && isM (at_ l k)) <;> simp [h]
theorem zzx (l : List Nat) : zfl l l.length = places l := (zjk l).symm
theorem zsy (l : List Nat) (k : Nat) : (zfl l k).length ≤ k := by
 have := List.length_filter_le (fun i => !insB l i && isM (at_ l i)) (List.range k)
 rwa [List.length_range] at this
theorem zsz (l : List Nat) (i : Nat) (h : i < (places l).length) : (places l).countP (fun y => decide (y < (places l)[i])) = i := by
 have hr := zl3 l
 have hsplit : places l = (places l).take i ++ (places l)[i] :: (places l).drop (i + 1) := by
  rw [← List.drop_eq_getElem_cons h, List.take_append_drop]
 have hr2 := hr
 rw [hsplit] at hr2
 rw [List.pairwise_append, List.pairwise_cons] at hr2
 obtain ⟨_, ⟨h2, _⟩, h3⟩ := hr2
 generalize (places l)[i] = v at *
 conv => lhs; rw [hsplit]
 rw [List.countP_append, List.countP_cons, List.countP_eq_length.2 (fun y hy => decide_eq_true (h3 y hy v List.mem_cons_self)), List.countP_eq_zero.2 (fun y hy => by have := h2 y hy; simp; omega), List.length_take]
 simp; omega
end Go.Proofs.YtgpbpgpolpakjaaGreatDoor.L
