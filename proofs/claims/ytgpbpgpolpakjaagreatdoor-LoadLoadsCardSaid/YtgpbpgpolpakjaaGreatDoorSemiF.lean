/- Proof text. -/
import Derived.Test.YtgpbpgpolpakjaaGreatDoorMarkP
import Derived.Test.YtgpbpgpolpakjaaGreatDoorSemiV
set_option maxHeartbeats 4000000
set_option linter.unusedVariables false
set_option linter.unusedSimpArgs false
set_option maxRecDepth 100000
namespace Go.Proofs.YtgpbpgpolpakjaaGreatDoor
open Go.RowKit Go.Shelf L
theorem z0c (c : Nat) (w : World) : Calls Tryz.prog 106 #[.int .u8 (c : Nat)] w fun e w' => e = .returned (.bool (isM c)) ∧ w = w' := by
 have HM := hid (fun (h : c ≠ 91 ∧ c ≠ 93 ∧ c ≠ 123 ∧ c ≠ 125 ∧ c ≠ 58 ∧ c ≠ 44) => zb0 h)
 have HY := hid (fun (h : c = 91 ∨ c = 93 ∨ c = 123 ∨ c = 125 ∨ c = 58 ∨ c = 44) => (show isM c = true from by rcases h with rfl | rfl | rfl | rfl | rfl | rfl <;> rfl))
 go_enter Tryz.func106, Tryz.ntmps106
 go_wp2_with fail
 go_loopw [4] (fun iv wr => ∃ i : Nat, i ≤ 6 ∧ iv = .int .i64 (i : Nat) ∧ Hid (∀ j, j < i → [91, 93, 123, 125, 58, 44][j]? ≠ some c) ∧ wr = w) (fun iv _ => 6 - (intOf iv).toNat)
 case atStart => exact ⟨0, by omega, rfl, hid (fun j h => by omega), rfl⟩
 case round =>
  obtain ⟨i, hi, rfl, hq, rfl⟩ := hrel
  rcases (show i = 0 ∨ i = 1 ∨ i = 2 ∨ i = 3 ∨ i = 4 ∨ i = 5 ∨ i = 6 by omega) with rfl | rfl | rfl | rfl | rfl | rfl | rfl
  ·have hv : ({ data := #[91, 93, 123, 125, 58, 44] } : ByteArray)[0].toNat = 91 := rfl
   by_cases h : c = 91
   ·subst h
    go_wp2_with fail
    go_ret
    exact ⟨rfl, rfl⟩
   ·have hb : ((91 : Int) == (c : Int)) = false := by rw [beq_eq_false_iff_ne]; omega
    have hb2 : ¬ ((91 : Int) = (c : Int)) := by omega
    have hb3 : ¬ ((c : Int) = (91 : Int)) := by omega
    have hb4 : ¬ (c = 91) := h
    have hN := hid (show ∀ j, j < 1 → [91, 93, 123, 125, 58, 44][j]? ≠ some c from fun j hj e => by
     rcases Nat.lt_or_ge j 0 with h1 | h1
     ·exact hq.out j h1 e
     ·obtain rfl : j = 0 := by omega
      simp at e; omega)
    clear h
    go_wp2_with fail
    exact ⟨⟨1, by omega, by go_num, hN, by first | rfl | trivial⟩, by simp [intOf]⟩
  ·have hv : ({ data := #[91, 93, 123, 125, 58, 44] } : ByteArray)[1].toNat = 93 := rfl
   by_cases h : c = 93
   ·subst h
    go_wp2_with fail
    go_ret
    exact ⟨rfl, rfl⟩
   ·have hb : ((93 : Int) == (c : Int)) = false := by rw [beq_eq_false_iff_ne]; omega
    have hb2 : ¬ ((93 : Int) = (c : Int)) := by omega
    have hb3 : ¬ ((c : Int) = (93 : Int)) := by omega
    have hb4 : ¬ (c = 93) := h
    have hN := hid (show ∀ j, j < 2 → [91, 93, 123, 125, 58, 44][j]? ≠ some c from fun j hj e => by
     rcases Nat.lt_or_ge j 1 with h1 | h1
     ·exact hq.out j h1 e
     ·obtain rfl : j = 1 := by omega
      simp at e; omega)
    clear h
    go_wp2_with fail
    exact ⟨⟨2, by omega, by go_num, hN, by first | rfl | trivial⟩, by simp [intOf]⟩
  ·have hv : ({ data := #[91, 93, 123, 125, 58, 44] } : ByteArray)[2].toNat = 123 := rfl
   by_cases h : c = 123
   ·subst h
    go_wp2_with fail
    go_ret
    exact ⟨rfl, rfl⟩
   ·have hb : ((123 : Int) == (c : Int)) = false := by rw [beq_eq_false_iff_ne]; omega
    have hb2 : ¬ ((123 : Int) = (c : Int)) := by omega
    have hb3 : ¬ ((c : Int) = (123 : Int)) := by omega
    have hb4 : ¬ (c = 123) := h
    have hN := hid (show ∀ j, j < 3 → [91, 93, 123, 125, 58, 44][j]? ≠ some c from fun j hj e => by
     rcases Nat.lt_or_ge j 2 with h1 | h1
     ·exact hq.out j h1 e
     ·obtain rfl : j = 2 := by omega
      simp at e; omega)
    clear h
    go_wp2_with fail
    exact ⟨⟨3, by omega, by go_num, hN, by first | rfl | trivial⟩, by simp [intOf]⟩
  ·have hv : ({ data := #[91, 93, 123, 125, 58, 44] } : ByteArray)[3].toNat = 125 := rfl
   by_cases h : c = 125
   ·subst h
    go_wp2_with fail
    go_ret
    exact ⟨rfl, rfl⟩
   ·have hb : ((125 : Int) == (c : Int)) = false := by rw [beq_eq_false_iff_ne]; omega
    have hb2 : ¬ ((125 : Int) = (c : Int)) := by omega
    have hb3 : ¬ ((c : Int) = (125 : Int)) := by omega
    have hb4 : ¬ (c = 125) := h
    have hN := hid (show ∀ j, j < 4 → [91, 93, 123, 125, 58, 44][j]? ≠ some c from fun j hj e => by
     rcases Nat.lt_or_ge j 3 with h1 | h1
     ·exact hq.out j h1 e
     ·obtain rfl : j = 3 := by omega
      simp at e; omega)
    clear h
    go_wp2_with fail
    exact ⟨⟨4, by omega, by go_num, hN, by first | rfl | trivial⟩, by simp [intOf]⟩
  ·have hv : ({ data := #[91, 93, 123, 125, 58, 44] } : ByteArray)[4].toNat = 58 := rfl
   by_cases h : c = 58
   ·subst h
    go_wp2_with fail
    go_ret
    exact ⟨rfl, rfl⟩
   ·have hb : ((58 : Int) == (c : Int)) = false := by rw [beq_eq_false_iff_ne]; omega
    have hb2 : ¬ ((58 : Int) = (c : Int)) := by omega
    have hb3 : ¬ ((c : Int) = (58 : Int)) := by omega
    have hb4 : ¬ (c = 58) := h
    have hN := hid (show ∀ j, j < 5 → [91, 93, 123, 125, 58, 44][j]? ≠ some c from fun j hj e => by
     rcases Nat.lt_or_ge j 4 with h1 | h1
     ·exact hq.out j h1 e
     ·obtain rfl : j = 4 := by omega
      simp at e; omega)
    clear h
    go_wp2_with fail
    exact ⟨⟨5, by omega, by go_num, hN, by first | rfl | trivial⟩, by simp [intOf]⟩
  ·have hv : ({ data := #[91, 93, 123, 125, 58, 44] } : ByteArray)[5].toNat = 44 := rfl
   by_cases h : c = 44
   ·subst h
    go_wp2_with fail
    go_ret
    exact ⟨rfl, rfl⟩
   ·have hb : ((44 : Int) == (c : Int)) = false := by rw [beq_eq_false_iff_ne]; omega
    have hb2 : ¬ ((44 : Int) = (c : Int)) := by omega
    have hb3 : ¬ ((c : Int) = (44 : Int)) := by omega
    have hb4 : ¬ (c = 44) := h
    have hN := hid (show ∀ j, j < 6 → [91, 93, 123, 125, 58, 44][j]? ≠ some c from fun j hj e => by
     rcases Nat.lt_or_ge j 5 with h1 | h1
     ·exact hq.out j h1 e
     ·obtain rfl : j = 5 := by omega
      simp at e; omega)
    clear h
    go_wp2_with fail
    exact ⟨⟨6, by omega, by go_num, hN, by first | rfl | trivial⟩, by simp [intOf]⟩
  ·have hE := hid (show isM c = false from HM.out (by
    have h := hq.out
    refine ⟨fun e => h 0 (by omega) (by rw [e]; rfl), fun e => h 1 (by omega) (by rw [e]; rfl), fun e => h 2 (by omega) (by rw [e]; rfl), fun e => h 3 (by omega) (by rw [e]; rfl), fun e => h 4 (by omega) (by rw [e]; rfl), fun e => h 5 (by omega) (by rw [e]; rfl)⟩))
   go_wp2_with fail
   go_ret
   exact ⟨by rw [hE.out]; rfl, rfl⟩
theorem zi7 (O : List Bool) (i : Nat) (b : Bool) : (bools O).set i (.bool b) = bools (O.set i b) := by unfold bools; rw [List.map_set]
theorem zi8 (O : List Bool) (i : Nat) (b : Bool) (j : Nat) (h : i < O.length) : zb (O.set i b) j = if j = i then b else zb O j := by
 unfold zb
 by_cases e : j = i
 ·subst e; rw [if_pos rfl, List.getElem?_set_self h]; rfl
 ·rw [if_neg e, List.getElem?_set_ne (fun x => e x.symm)]
theorem zvg (s : ByteArray) (w : World) (hs : s.size ≤ 4096) :
  Calls Tryz.prog 105 #[.string s] w fun e w' => ∃ A c, e = .returned (.slice A s.size c) ∧ w'.ownsRow w.heap.size 4 1 (.slice A s.size c) s.size (bools ((List.range s.size).map (insB (nb s)))) ∧ Below w.heap.size w w' := by
 obtain ⟨i0, hi0, iz0, iz1, iz2⟩ := info_parts Tryz.infoBool
 have HL := hid (zf s)
 have hB00 : Below w.heap.size w w := Below.refl _ _
 go_enter Tryz.func105, Tryz.ntmps105
 go_wp2_with (first
  | (at_make
     go_must (refine wpList_make_full _ rfl (.tmp 6) (.tmp 6) _ rfl w.heap.size 4 i0 (.bool false) 1 Tryz.underlying31 hi0 iz0 iz1 .i64 .i64 _ _ s.size rfl rfl rfl rfl (by rw [iz2]; omega) (by unfold maxLen; omega) (Nat.le_refl _) ?_)
     intro w3 hown3 hgr3))
 have hB3 : Below w.heap.size w w3 := hB00.grown hgr3 (Nat.le_refl _) (fun k hk => by cases hk)
 go_wp2_with fail
 have hrep : (madeCells (Value.bool false).cells (s.size * 1)).toList = bools (List.replicate s.size false) := by
  have e : (Value.bool false).cells = #[.bool false] := rfl
  rw [e, Nat.mul_one]
  unfold madeCells bools
  apply List.ext_getElem
  ·simp
  ·intro i h1 h2
   simp [Nat.mod_one]
 rw [hrep] at hown3
 have hst0 : stA (nb s) 0 = 0 := rfl
 go_loopw [4] (fun iv wr => ∃ (i : Nat) (O : List Bool), i ≤ s.size + 1 ∧ iv = .int .i64 (i : Nat) ∧ O.length = s.size ∧ Hid ((∀ j, zb O j = (decide (j < i) && decide (j < s.size) && insB (nb s) j)) ∧ (i < s.size → stA (nb s) i = 0)) ∧ wr.ownsRow w.heap.size 4 1 (.slice (some ⟨w.heap.size, 0, none⟩) s.size s.size) s.size (bools O) ∧ Below w.heap.size w wr) (fun iv _ => s.size + 1 - (intOf iv).toNat)
 case atStart => exact ⟨0, List.replicate s.size false, by omega, rfl, by simp, hid ⟨fun j => by unfold zb; rw [List.getElem?_replicate]; split <;> simp, fun _ => hst0⟩, hown3, hB3⟩
 case round =>
  obtain ⟨i, O, hi, rfl, hO, hI, hown, hB⟩ := hrel
  clear hown3 hgr3 hB3
  have hsz := hB.size
  rcases Nat.lt_or_ge i s.size with h | h
  ·have hiI : (i : Int) < (s.size : Int) := by omega
   have hi0 : (0 : Int) ≤ (i : Int) := by omega
   have hll : i < (nb s).length := by rw [HL.out]; exact h
   have hat := zaz s i h
   have hlt := UInt8.toNat_lt s[i]
   have hst := hI.out.2 h
   by_cases h34 : (s[i]).toNat = 34
   ·have n34 : (((s[i]).toNat : Int) == 34) = true := by rw [beq_iff_eq]; omega
    have n34b : ((s[i]).toNat : Int) = 34 := by omega
    obtain ⟨u, cw⟩ : ∃ u, wr.cell? ⟨w.heap.size, i, none⟩ = some u := ⟨_, (hown.cellAt i (by omega)).trans (List.getElem?_eq_getElem (by have := hown.1; omega))⟩
    have fw := hown.frozenAt i
    have hset := hown.stored i (.bool true)
    rw [zi7] at hset
    have hBs : Below w.heap.size w (wr.setCell ⟨w.heap.size, i, none⟩ (.bool true)) := hB.setCell (Nat.le_refl _) _
    have hlw := (hown.lt w.heap.size rfl).2
    have HN := hid (show (∀ j, zb (O.set i true) j = (decide (j < i + 1) && decide (j < s.size) && insB (nb s) j)) ∧ (i + 1 < s.size → stA (nb s) (i + 1) = 1) from ⟨fun j => by
     rw [zi8 _ _ _ _ (by omega)]
     by_cases e : j = i
     ·subst e; rw [if_pos rfl, zxu (by rw [hat]; exact h34)]; simp [h]
     ·rw [if_neg e, hI.out.1 j]; congr 2; rw [decide_eq_decide]; omega, fun _ => by
     rw [zfv hll, hst, hat, h34]; rfl⟩)
    clear h34 hI hst hat hll hown
    go_wp2_with fail
    have hown1 := hset.1
    obtain ⟨O1, hO1⟩ : ∃ O1, O1 = O.set i true := ⟨_, rfl⟩
    rw [← hO1] at hown1 HN
    have hO1l : O1.length = s.size := by rw [hO1, List.length_set]; exact hO
    clear hset hO1 hB cw fw
    generalize wr.setCell ⟨w.heap.size, i, none⟩ (.bool true) = wx at *
    go_loopw [4] (fun iv wq => ∃ (a : Nat) (O : List Bool), a ≤ s.size ∧ i + 1 ≤ a ∧ iv = .int .i64 (a : Nat) ∧ O.length = s.size ∧ Hid ((∀ j, zb O j = (decide (j < a) && decide (j < s.size) && insB (nb s) j)) ∧ (a < s.size → stA (nb s) a = 1)) ∧ wq.ownsRow w.heap.size 4 1 (.slice (some ⟨w.heap.size, 0, none⟩) s.size s.size) s.size (bools O) ∧ Below w.heap.size w wq) (fun iv _ => s.size - (intOf iv).toNat)
    case atStart => exact ⟨i + 1, O1, by omega, Nat.le_refl _, by go_num, hO1l, HN, hown1, hBs⟩
    case round =>
     obtain ⟨a, Oa, ha, hia, rfl, hOa, hJ, howna, hBa⟩ := hrel
     clear hown1 hBs HN
     rcases Nat.lt_or_ge a s.size with h2 | h2
     ·have haI : (a : Int) < (s.size : Int) := by omega
      have ha0 : (0 : Int) ≤ (a : Int) := by omega
      have hal : a < (nb s).length := by rw [HL.out]; exact h2
      have hata := zaz s a h2
      have hlta := UInt8.toNat_lt s[a]
      have hsta := hJ.out.2 h2
      obtain ⟨ua, cwa⟩ : ∃ u, wr.cell? ⟨w.heap.size, a, none⟩ = some u := ⟨_, (howna.cellAt a (by omega)).trans (List.getElem?_eq_getElem (by have := howna.1; omega))⟩
      have fwa := howna.frozenAt a
      have hseta := howna.stored a (.bool true)
      rw [zi7] at hseta
      have hBsa : Below w.heap.size w (wr.setCell ⟨w.heap.size, a, none⟩ (.bool true)) := hBa.setCell (Nat.le_refl _) _
      have HNa := hid (show ∀ j, zb (Oa.set a true) j = (decide (j < a + 1) && decide (j < s.size) && insB (nb s) j) from fun j => by
       rw [zi8 _ _ _ _ (by omega)]
       by_cases e : j = a
       ·subst e; rw [if_pos rfl, zwf (by omega)]; simp [h2]
       ·rw [if_neg e, hJ.out.1 j]; congr 2; rw [decide_eq_decide]; omega)
      by_cases h34 : (s[a]).toNat = 34
      ·have n34 : (((s[a]).toNat : Int) == 34) = true := by rw [beq_iff_eq]; omega
       have n34b : ((s[a]).toNat : Int) = 34 := by omega
       have HN2 := hid (And.intro HNa.out (show a + 1 < s.size → stA (nb s) (a + 1) = 0 from fun _ => by rw [zfv hal, hsta, hata, h34]; rfl))
       have hl3 : (Oa.set a true).length = s.size := by rw [List.length_set]; exact hOa
       have ho3 := hid hseta.1
       clear h34 hJ hsta hata hal hseta HNa howna
       go_wp2_with fail
       exact ⟨⟨a + 1, Oa.set a true, by omega, by go_num, hl3, HN2, ho3.out, hBsa⟩, by simp [intOf]; omega⟩
      ·have n34 : (((s[a]).toNat : Int) == 34) = false := by rw [beq_eq_false_iff_ne]; omega
       have n34b : ¬ (((s[a]).toNat : Int) = 34) := by omega
       by_cases h92 : (s[a]).toNat = 92 ∧ a + 1 < s.size
       ·have n92 : (((s[a]).toNat : Int) == 92) = true := by rw [beq_iff_eq]; omega
        have n92b : ((s[a]).toNat : Int) = 92 := by omega
        have hlast : (a : Int) < (s.size : Int) - 1 := by omega
        have ha1 : (a : Int) + 1 < (s.size : Int) := by omega
        have s1 : stA (nb s) (a + 1) = 2 := by rw [zfv hal, hsta, hata, h92.1]; rfl
        have s2 : stA (nb s) (a + 2) = 1 := by rw [zfv (by rw [HL.out]; omega), s1]; rfl
        have hseta2 := hseta.1.stored (a + 1) (.bool true)
        rw [zi7] at hseta2
        obtain ⟨ub, cwb⟩ : ∃ u, (wr.setCell ⟨w.heap.size, a, none⟩ (.bool true)).cell? ⟨w.heap.size, a + 1, none⟩ = some u := ⟨_, (hseta.1.cellAt (a + 1) (by omega)).trans (List.getElem?_eq_getElem (by have := hseta.1.1; omega))⟩
        have fwb := hseta.1.frozenAt (a + 1)
        have hBsb : Below w.heap.size w ((wr.setCell ⟨w.heap.size, a, none⟩ (.bool true)).setCell ⟨w.heap.size, a + 1, none⟩ (.bool true)) := hBsa.setCell (Nat.le_refl _) _
        have HN2 := hid (show (∀ j, zb ((Oa.set a true).set (a + 1) true) j = (decide (j < a + 2) && decide (j < s.size) && insB (nb s) j)) ∧ (a + 2 < s.size → stA (nb s) (a + 2) = 1) from ⟨fun j => by
         rw [zi8 _ _ _ _ (by rw [List.length_set]; omega)]
         by_cases e : j = a + 1
         ·subst e; rw [if_pos rfl, zwf (by omega)]; simp; omega
         ·rw [if_neg e, HNa.out j]; congr 2; rw [decide_eq_decide]; omega, fun _ => s2⟩)
        have hl3 : ((Oa.set a true).set (a + 1) true).length = s.size := by rw [List.length_set, List.length_set]; exact hOa
        have ho3 := hid hseta2.1
        clear h34 hJ hsta hata hal hseta hseta2 HNa howna s1 s2
        have h92b := h92.2
        clear h92
        go_wp2_with fail
        exact ⟨⟨a + 2, (Oa.set a true).set (a + 1) true, by omega, by omega, by go_num, hl3, HN2, ho3.out, hBsb⟩, by simp [intOf]; omega⟩
       ·have HN2 := hid (And.intro HNa.out (show a + 1 < s.size → stA (nb s) (a + 1) = 1 from fun hlt2 => by
         rw [zfv hal, hsta, hata]
         unfold zbm
         rw [if_neg (by omega), if_pos rfl, if_neg h34, if_neg (by omega)]))
        have hl3 : (Oa.set a true).length = s.size := by rw [List.length_set]; exact hOa
        have ho3 := hid hseta.1
        by_cases h92c : (s[a]).toNat = 92
        ·have n92 : (((s[a]).toNat : Int) == 92) = true := by rw [beq_iff_eq]; omega
         have n92b : ((s[a]).toNat : Int) = 92 := by omega
         have hlast : ¬ ((a : Int) < (s.size : Int) - 1) := by omega
         clear h34 hJ hsta hata hal hseta HNa howna h92 h92c
         go_wp2_with fail
         exact ⟨⟨a + 1, Oa.set a true, by omega, by omega, by go_num, hl3, HN2, ho3.out, hBsa⟩, by simp [intOf]; omega⟩
        ·have n92 : (((s[a]).toNat : Int) == 92) = false := by rw [beq_eq_false_iff_ne]; omega
         have n92b : ¬ (((s[a]).toNat : Int) = 92) := by omega
         clear h34 hJ hsta hata hal hseta HNa howna h92 h92c
         go_wp2_with fail
         exact ⟨⟨a + 1, Oa.set a true, by omega, by omega, by go_num, hl3, HN2, ho3.out, hBsa⟩, by simp [intOf]; omega⟩
     ·obtain rfl : a = s.size := by omega
      have haI : ¬ ((s.size : Int) < (s.size : Int)) := by omega
      have HN2 := hid (show (∀ j, zb Oa j = (decide (j < s.size + 1) && decide (j < s.size) && insB (nb s) j)) ∧ (s.size + 1 < s.size → stA (nb s) (s.size + 1) = 0) from ⟨fun j => by
       rw [hJ.out.1 j]
       by_cases e : j < s.size
       ·rw [decide_eq_true e, decide_eq_true (show j < s.size + 1 by omega)]
       ·rw [decide_eq_false e]; simp, fun h => by omega⟩)
      clear hJ
      go_wp2_with fail
      exact ⟨⟨s.size + 1, Oa, by omega, by go_num, hOa, HN2, howna, hBa⟩, by simp [intOf]; omega⟩
   ·have n34 : (((s[i]).toNat : Int) == 34) = false := by rw [beq_eq_false_iff_ne]; omega
    have n34b : ¬ (((s[i]).toNat : Int) = 34) := by omega
    have HN := hid (show (∀ j, zb O j = (decide (j < i + 1) && decide (j < s.size) && insB (nb s) j)) ∧ (i + 1 < s.size → stA (nb s) (i + 1) = 0) from ⟨fun j => by
     rw [hI.out.1 j]
     by_cases e : j = i
     ·subst e; rw [z2e hst (by rw [hat]; exact h34)]; simp
     ·congr 2; rw [decide_eq_decide]; omega, fun _ => by
     rw [zfv hll, hst, hat, zg1 h34]⟩)
    clear h34 hI hst hat hll
    go_wp2_with fail
    exact ⟨⟨i + 1, O, by omega, by go_num, hO, HN, hown, hB⟩, by simp [intOf]; omega⟩
  ·have hiI : ¬ ((i : Int) < (s.size : Int)) := by omega
   have HE := hid (show O = (List.range s.size).map (insB (nb s)) from by
    apply List.ext_getElem
    ·simp [hO]
    ·intro j h1 h2
     have e := hI.out.1 j
     rw [hO] at h1
     rw [decide_eq_true (show j < i by omega), decide_eq_true h1, Bool.true_and, Bool.true_and] at e
     unfold zb at e
     rw [List.getElem?_eq_getElem (by rw [hO]; exact h1)] at e
     simp at e
     simp [e])
   go_wp2_with fail
   go_ret
   exact ⟨some ⟨w.heap.size, 0, none⟩, s.size, rfl, by rw [← HE.out]; exact hown, hB⟩
end Go.Proofs.YtgpbpgpolpakjaaGreatDoor
