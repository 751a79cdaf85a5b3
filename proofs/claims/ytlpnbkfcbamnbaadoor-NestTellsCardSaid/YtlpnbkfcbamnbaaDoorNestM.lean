/- Walks: what a nest tells of a node is what the list of nodes says. -/
import Derived.Test.YtlpnbkfcbamnbaaDoorNestL
set_option linter.unusedVariables false
set_option linter.unusedSimpArgs false
set_option maxRecDepth 100000
namespace Go.Proofs.YtlpnbkfcbamnbaaDoor
open Go.RowKit L

def plL (L : List Nd) (k : Nat) : Nat := ((L[k]?.map Nd.at').getD 0).toNat
theorem LOk.pl {bs : List Bool} {L : List Nd} (h : LOk bs L) : ∀ v, v < bs.length → bitAt bs v = true → plL L (cP (bitAt bs) v) = v := fun v hv hf => by
  unfold plL; rw [h.nd v hv hf]; simp [ndOf]
def kidsL (bs : List Bool) (L : List Nd) (m : Int) : List Nat := sibs (bitAt bs) (plL L) bs.length m
theorem LOk.kids {bs : List Bool} {L : List Nd} (h : LOk bs L) (m : Int) : ((List.range L.length).filter fun k => ((L[k]?.map Nd.pa).getD 0 == m)) = kidsL bs L m := by
  unfold kidsL sibs
  rw [h.len]
  refine List.filter_congr (fun k hk => ?_)
  rw [List.mem_range] at hk
  obtain ⟨v, v1, v2, v3⟩ := cP_ex (bitAt bs) bs.length k hk
  have h1 := h.nd v v1 v2
  have h2 := h.pl v v1 v2
  rw [v3] at h1 h2
  rw [h1, h2]
  unfold isS
  rw [v2]
  show (paN (bitAt bs) v == m) = _
  rw [Bool.true_and, Bool.eq_iff_iff, beq_iff_eq, decide_eq_true_iff]
/-- An element of a list, or -1. -/
def numN (l : List Int) (i : Int) : Int := if i < 0 then -1 else (l[i.toNat]?).getD (-1)
theorem numN_at {l : List Int} {i : Nat} {x : Int} (h : l[i]? = some x) : numN l (i : Nat) = x := by
  unfold numN; rw [if_neg (by omega), Int.toNat_natCast, h]; rfl
theorem numN_none {l : List Int} {i : Int} (h : i < 0 ∨ (l.length : Int) ≤ i) : numN l i = -1 := by
  unfold numN
  by_cases h0 : i < 0
  · rw [if_pos h0]
  · rw [if_neg h0, List.getElem?_eq_none (by omega)]; rfl
theorem number8_any (A : Option Addr) (c : Nat) (l : List Int) (i : Int) (w : World) (hl : Lst w A (cells8 l)) :
    Calls Tryd.prog 99 #[.slice A l.length c, .int .i64 i] w fun e w' => e = .returned (.int .i64 (numN l i)) ∧ w = w' := by
  by_cases h : i < 0 ∨ (l.length : Int) ≤ i
  · rw [numN_none h]; exact number8_none A c l.length i w h
  · obtain ⟨j, rfl⟩ : ∃ j : Nat, i = j := ⟨i.toNat, by omega⟩
    have hj : j < l.length := by omega
    rw [numN_at (List.getElem?_eq_getElem hj)]
    exact number8_at A c l j w hl hj
/-- An answer: a node of a number's place, or none. -/
def IsOk (L : List Nd) (a b m : Int) : Prop := (m < 0 ∧ a = 0 ∧ b = 7) ∨ ∃ (j : Nat) (d : Nd), m = (j : Int) ∧ L[j]? = some d ∧ a = d.at' ∧ b = 0
theorem is8_any (A : Option Addr) (c : Nat) (L : List Nd) (a b m : Int) (w : World) (hl : NdAt w A L) (h : IsOk L a b m) :
    Calls Tryd.prog 98 #[.int .i64 a, .int .i64 b, .slice A L.length c, .int .i64 m] w fun e w' => e = .returned (.bool true) ∧ w = w' := by
  rcases h with ⟨h, rfl, rfl⟩ | ⟨j, d, rfl, h1, rfl, rfl⟩
  · exact is8_none A L.length c m w h
  · have hj := (List.getElem?_eq_some_iff.1 h1).1
    obtain ⟨g, o, rfl, _, hc⟩ := hl.cells (by omega)
    exact is8_at g o L.length c j d.at' w hj (hc j d h1).1
section
variable {bs : List Bool} {L : List Nd} {u : Nat}
theorem IsOk.at (hL : LOk bs L) {v : Nat} (hv : v < bs.length) (hf : bitAt bs v = true) {m : Int} (hm : m = (cP (bitAt bs) v : Nat)) : IsOk L (v : Nat) 0 m :=
  Or.inr ⟨_, _, hm, hL.nd v hv hf, rfl, rfl⟩
theorem tParent (s : Nat) (w : World) (hs : NestAt w s bs) (hL : LOk bs L) (b : Bal (bitAt bs) bs.length) (hu : bitAt bs u = true) :
    Calls Tryd.prog 44 #[.pointer (some ⟨s, 0, none⟩), .int .i64 (u : Nat)] w fun e w' => ∃ x y, e = .returned (.tuple #[.int .i64 x, .int .i64 y]) ∧ IsOk L x y (paN (bitAt bs) u) ∧ Below w.heap.size w w' := by
  have hun := bitAt_lt hu
  rcases b.parent hu hun with ⟨h1, _⟩ | ⟨j, h1, h2, h3, _⟩
  · refine (nParent_none s bs u w hs hu h1).mono ?_
    rintro e w' ⟨rfl, m, rfl⟩
    exact ⟨_, _, rfl, Or.inl ⟨by rw [paN_none h1]; omega, rfl, rfl⟩, below_drewN (Below.refl _ _) _⟩
  · refine (nParent_at s bs u j w hs hu h2).mono ?_
    rintro e w' ⟨rfl, m, rfl⟩
    exact ⟨_, _, rfl, IsOk.at hL (by omega) h3 (paN_at h2), below_drewN (Below.refl _ _) _⟩
theorem tFirst (s : Nat) (w : World) (hs : NestAt w s bs) (hL : LOk bs L) (b : Bal (bitAt bs) bs.length) (hu : bitAt bs u = true) :
    Calls Tryd.prog 45 #[.pointer (some ⟨s, 0, none⟩), .int .i64 (u : Nat)] w fun e w' => ∃ x y, e = .returned (.tuple #[.int .i64 x, .int .i64 y]) ∧ IsOk L x y (numN (intsL (kidsL bs L (cP (bitAt bs) u : Nat))) 0) ∧ Below w.heap.size w w' := by
  have hun := bitAt_lt hu
  have hlen := sibs_kids b hL.pl hu
  rcases Nat.eq_zero_or_pos (kids (bitAt bs) bs.length u) with h | h
  · have h1 := kid_false b hu hun
    rw [h] at h1
    refine (nFirst_none s bs u w hs hu h1).mono ?_
    rintro e w' ⟨rfl, rfl⟩
    exact ⟨_, _, rfl, Or.inl ⟨by rw [numN_none (Or.inr (by rw [intsL_length, kidsL, hlen, h]; exact Int.le_refl _))]; omega, rfl, rfl⟩, Below.refl _ _⟩
  · have h1 := kid_true b hu hun 0 h
    have h2 := sibs_kid b hL.pl hu hun h
    have h3 := kid_lt b hu hun 0 (by omega)
    refine (nFirst_at s bs u w hs hu h1).mono ?_
    rintro e w' ⟨rfl, rfl⟩
    exact ⟨_, _, rfl, IsOk.at hL h3.2 h1 (numN_at (i := 0) (intsL_get h2)), Below.refl _ _⟩
theorem tNext (s : Nat) (w : World) (hs : NestAt w s bs) (hL : LOk bs L) (b : Bal (bitAt bs) bs.length) (hu : bitAt bs u = true) {i : Int} (hi : i = (cP (isS (bitAt bs) (paN (bitAt bs) u)) u : Nat) + 1) :
    Calls Tryd.prog 47 #[.pointer (some ⟨s, 0, none⟩), .int .i64 (u : Nat)] w fun e w' => ∃ x y, e = .returned (.tuple #[.int .i64 x, .int .i64 y]) ∧ IsOk L x y (numN (intsL (kidsL bs L (paN (bitAt bs) u))) i) ∧ Below w.heap.size w w' := by
  have hun := bitAt_lt hu
  obtain ⟨h1, h2, h3, h4, h5, h6⟩ := b.behN hu hun
  have hc := sib_beh b hu hun
  cases hk : bitAt bs (behN (bitAt bs) bs.length u) with
  | true =>
    have hkn := bitAt_lt hk
    have hp := sib_next b hu hun hk hkn
    have ha := sibs_at hL.pl hkn (isS_iff.2 ⟨hk, hp⟩)
    rw [hc] at ha
    refine (nNext_at s bs u _ w hs hu h6 h2 hk).mono ?_
    rintro e w' ⟨rfl, m, rfl⟩
    refine ⟨_, _, rfl, IsOk.at hL hkn hk ?_, below_drewN (Below.refl _ _) _⟩
    rw [hi]
    exact numN_at (intsL_get ha)
  | false =>
    have hl := sib_last b hu hun hk
    refine (nNext_none s bs u _ w hs hu h6 h2 hk).mono ?_
    rintro e w' ⟨rfl, m, rfl⟩
    refine ⟨_, _, rfl, Or.inl ⟨?_, rfl, rfl⟩, below_drewN (Below.refl _ _) _⟩
    rw [numN_none (Or.inr (by rw [intsL_length, kidsL, sibs_len hL.pl, hl]; omega))]; omega
theorem tPrev (s : Nat) (w : World) (hs : NestAt w s bs) (hL : LOk bs L) (b : Bal (bitAt bs) bs.length) (hu : bitAt bs u = true) {i : Int} (hi : i = (cP (isS (bitAt bs) (paN (bitAt bs) u)) u : Nat) - 1) :
    Calls Tryd.prog 48 #[.pointer (some ⟨s, 0, none⟩), .int .i64 (u : Nat)] w fun e w' => ∃ x y, e = .returned (.tuple #[.int .i64 x, .int .i64 y]) ∧ IsOk L x y (numN (intsL (kidsL bs L (paN (bitAt bs) u))) i) ∧ Below w.heap.size w w' := by
  have hun := bitAt_lt hu
  by_cases h : 1 ≤ u ∧ bitAt bs (u - 1) = false
  · obtain ⟨p, p1, p2, p3, p4, p5⟩ := sib_prev b hu hun h.1 h.2
    have ha := sibs_at hL.pl (show p < bs.length by omega) (isS_iff.2 ⟨p3, p4⟩)
    refine (nPrev_at s bs u (u - 1) p w hs hu (by omega) h.2 p2).mono ?_
    rintro e w' ⟨rfl, m, rfl⟩
    refine ⟨_, _, rfl, IsOk.at hL (by omega) p3 ?_, below_drewN (Below.refl _ _) _⟩
    rw [hi, p5, show (((cP (isS (bitAt bs) (paN (bitAt bs) u)) p + 1 : Nat) : Int) - 1) = (cP (isS (bitAt bs) (paN (bitAt bs) u)) p : Nat) from by omega]
    exact numN_at (intsL_get ha)
  · have h0 : u = 0 ∨ bitAt bs (u - 1) = true := by
      rcases Nat.eq_zero_or_pos u with e | e
      · exact Or.inl e
      · right
        cases hb : bitAt bs (u - 1) with
        | true => rfl
        | false => exact absurd ⟨e, hb⟩ h
    have hz := sib_first b hu hun h0
    refine (nPrev_none s bs u w hs hu ?_).mono ?_
    · rcases h0 with e | e
      · left; omega
      · rcases Nat.eq_zero_or_pos u with e2 | e2
        · left; omega
        · right; rw [show (u : Int) - 1 = ((u - 1 : Nat) : Int) from by omega, rowBit_nat]; exact e
    · rintro e w' ⟨rfl, rfl⟩
      refine ⟨_, _, rfl, Or.inl ⟨?_, rfl, rfl⟩, Below.refl _ _⟩
      rw [numN_none (Or.inl (by omega))]; omega
theorem tChild (s : Nat) (k : Int) (w : World) (hs : NestAt w s bs) (hL : LOk bs L) (b : Bal (bitAt bs) bs.length) (hu : bitAt bs u = true) :
    Calls Tryd.prog 46 #[.pointer (some ⟨s, 0, none⟩), .int .i64 (u : Nat), .int .i64 k] w fun e w' => ∃ x y, e = .returned (.tuple #[.int .i64 x, .int .i64 y]) ∧ IsOk L x y (numN (intsL (kidsL bs L (cP (bitAt bs) u : Nat))) k) ∧ Below w.heap.size w w' := by
  have hun := bitAt_lt hu
  have hlen := sibs_kids b hL.pl hu
  by_cases h : k < 0 ∨ (kids (bitAt bs) bs.length u : Int) ≤ k
  · refine (nChild_none s bs u k w hs b hu h).mono ?_
    rintro e w' ⟨rfl, hB⟩
    exact ⟨_, _, rfl, Or.inl ⟨by rw [numN_none (h.imp id fun h => by rw [intsL_length, kidsL, hlen]; exact h)]; omega, rfl, rfl⟩, hB⟩
  · obtain ⟨j, rfl⟩ : ∃ j : Nat, k = j := ⟨k.toNat, by omega⟩
    have hj : j < kids (bitAt bs) bs.length u := by omega
    have h1 := kid_true b hu hun j hj
    have h2 := sibs_kid b hL.pl hu hun hj
    have h3 := kid_lt b hu hun j (by omega)
    refine (nChild_at s bs u j w hs b hu hj).mono ?_
    rintro e w' ⟨rfl, hB⟩
    exact ⟨_, _, rfl, IsOk.at hL h3.2 h1 (numN_at (intsL_get h2)), hB⟩
theorem tCount (s : Nat) (w : World) (hs : NestAt w s bs) (hL : LOk bs L) (b : Bal (bitAt bs) bs.length) (hu : bitAt bs u = true) :
    Calls Tryd.prog 34 #[.pointer (some ⟨s, 0, none⟩), .int .i64 (u : Nat)] w fun e w' => e = .returned (.tuple #[.int .i64 ((kidsL bs L (cP (bitAt bs) u : Nat)).length : Nat), .int .i64 0]) ∧ Below w.heap.size w w' := by
  have hlen := sibs_kids b hL.pl hu
  unfold kidsL
  rw [hlen]
  exact nCount_at s bs u w hs b hu
/-- Where a node stands among those beside it. -/
theorem tPlace (A : Option Addr) (c : Nat) (w : World) (hL : LOk bs L) (b : Bal (bitAt bs) bs.length) (hu : bitAt bs u = true) (hl : Lst w A (cells8 (intsL (kidsL bs L (paN (bitAt bs) u))))) (hsm : bs.length ≤ 4294967296) :
    Calls Tryd.prog 97 #[.slice A (kidsL bs L (paN (bitAt bs) u)).length c, .int .i64 (cP (bitAt bs) u : Nat)] w fun e w' => e = .returned (.int .i64 (cP (isS (bitAt bs) (paN (bitAt bs) u)) u : Nat)) ∧ w = w' := by
  have hun := bitAt_lt hu
  have ha := sibs_at hL.pl hun (isS_self hu)
  obtain ⟨h1, h2⟩ := List.getElem?_eq_some_iff.1 ha
  have hle : (kidsL bs L (paN (bitAt bs) u)).length ≤ bs.length := by unfold kidsL; rw [sibs_len hL.pl]; exact cP_le _ _
  have := place8_at A c (intsL (kidsL bs L (paN (bitAt bs) u))) (cP (bitAt bs) u : Nat) (cP (isS (bitAt bs) (paN (bitAt bs) u)) u) w hl (by rw [intsL_length]; exact h1) (by
      have := List.getElem?_eq_some_iff.1 (intsL_get ha)
      exact this.2) (fun q hq hqi e => by
      have hq2 : q < (kidsL bs L (paN (bitAt bs) u)).length := by rw [intsL_length] at hq; exact hq
      have hg : (kidsL bs L (paN (bitAt bs) u))[q]? = some (kidsL bs L (paN (bitAt bs) u))[q] := List.getElem?_eq_getElem hq2
      have := sibs_sooner hg ha hqi
      apply this
      have e2 := List.getElem?_eq_some_iff.1 (intsL_get hg)
      have := e2.2.symm.trans e
      omega) (by rw [intsL_length]; omega)
  rw [intsL_length] at this
  exact this
end
end Go.Proofs.YtlpnbkfcbamnbaaDoor
