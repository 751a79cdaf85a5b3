/- Walks: the law FanoEach returns true. -/
import Derived.Test.YtlpnbkfcbamnbaaDoorLawFanoP

import Derived.Lib.QuietBelow
set_option linter.unusedVariables false
set_option linter.unusedSimpArgs false
set_option maxRecDepth 100000
namespace Go.Proofs.YtlpnbkfcbamnbaaDoor
open Go.RowKit Go.Shelf L Go.Sort

set_option maxHeartbeats 2000000 in
theorem lawFanoEach_many (A : Option Addr) (n c : Nat) (B : Int) (w : World) (hB : B ≤ 9223372036854775807) (hf : fewB n B = false) (hT : Tab w) :
    Calls Tryd.prog 7 #[.slice A n c, .int .i64 B] w fun e w' => e = .returned (.bool true) ∧ Below w.heap.size w w' := by
  have HF := hid (fun W => few_any A c n B W (by omega) hB)
  rw [hf] at HF
  clear hf
  go_enter Tryd.func7, Tryd.ntmps7
  go_wp2_with fail
  refine (awake5 _ hT).mono ?_
  rintro e w1 ⟨rfl, hB1⟩
  go_wp2_with fail
  refine (HF.out _).mono ?_
  rintro e w3 ⟨rfl, rfl⟩
  go_wp2_with fail
  refine (awake5 _ (hT.below hB1)).mono ?_
  rintro e w2 ⟨rfl, hB2⟩
  go_wp2_with fail
  go_ret
  exact ⟨rfl, hB1.trans (hB2.mono hB1.size)⟩

set_option maxHeartbeats 2000000 in
theorem lawFanoEach_wrong (A : Option Addr) (c : Nat) (zs : List Int) (B : Int) (w : World) (hl : Lst w A (ints zs)) (hn : zs.length ≤ 1000000) (hB : B ≤ 9223372036854775807) (hf : fewB zs.length B = true) (hr : ¬ RightZ zs B) (hT : Tab w) :
    Calls Tryd.prog 7 #[.slice A zs.length c, .int .i64 B] w fun e w' => e = .returned (.bool true) ∧ Below w.heap.size w w' := by
  have HF := hid (fun W => few_any A c zs.length B W (by omega) hB)
  rw [hf] at HF
  have HR := hid hr
  clear hf hr
  go_enter Tryd.func7, Tryd.ntmps7
  go_wp2_with fail
  refine (awake5 _ hT).mono ?_
  rintro e w1 ⟨rfl, hB1⟩
  have hz1 := hB1.size
  go_wp2_with fail
  refine (HF.out _).mono ?_
  rintro e w3 ⟨rfl, rfl⟩
  go_wp2_with fail
  refine (refRight_is A c zs B _ (hl.below hB1) (by omega) false ⟨fun h => (by cases h), fun h => absurd h HR.out⟩).mono ?_
  rintro e w2 ⟨rfl, hB2⟩
  have hBb := hB1.trans (hB2.mono hz1)
  have hzb := hBb.size
  go_wp2_with fail
  refine (awake5 _ (hT.below hBb)).mono ?_
  rintro e w4 ⟨rfl, hB4⟩
  go_wp2_with fail
  go_ret
  exact ⟨rfl, hBb.trans (hB4.mono hzb)⟩

set_option maxHeartbeats 1000000 in
theorem lawFanoEach_true (A : Option Addr) (c : Nat) (l : List Nat) (B : Nat) (w : World) (hl : Lst w A (natCells l)) (hT : Tab w) (hr : RightN l B) (hf : fewB l.length (B : Nat) = true) :
    Calls Tryd.prog 7 #[.slice A l.length c, .int .i64 (B : Nat)] w fun e w' => e = .returned (.bool true) ∧ Below w.heap.size w w' := by
  have hFew := fewB_few hf hr
  have hn := hFew.1
  have hB1 := hr.1
  have HF := hid (fun W => few_any A c l.length (B : Nat) W (by omega) (by omega))
  rw [hf] at HF
  clear hf
  have HRI := hid (fun W hW => refRight_yes (A := A) (c := c) hr hn W hW)
  have HM := hid (fun W hW => make_ok A c l B W hW hr hFew)
  go_enter Tryd.func7, Tryd.ntmps7
  go_wp2_with fail
  refine (awake5 _ hT).mono ?_
  rintro e w1 ⟨rfl, hB1⟩
  have hz1 := hB1.size
  go_wp2_with fail
  refine (HF.out _).mono ?_
  rintro e w3 ⟨rfl, rfl⟩
  go_wp2_with fail
  refine (HRI.out _ (hl.below hB1)).mono ?_
  rintro e w2 ⟨rfl, hB2⟩
  have hBb := hB1.trans (hB2.mono hz1)
  have hzb := hBb.size
  clear hB1 hB2
  go_wp2_with fail
  refine (HM.out _ (hl.below hBb)).mono ?_
  rintro e w4 ⟨s, rfl, hs, hB4, _⟩
  have hBc := hBb.trans (hB4.mono hzb)
  have hzc := hBc.size
  have hTc := hT.below hBc
  have hlc := hl.below hBc
  clear hBb hB4
  go_wp2_with fail
  go_loopw [7, 8] (fun fv iv wr => ∃ i : Nat, i ≤ l.length ∧ iv = .int .i64 (i : Nat) ∧ fv = .int .i64 (fst l i : Nat) ∧ Below w4.heap.size w4 wr) (fun _ iv _ => l.length - (intOf iv).toNat)
  case atStart => exact ⟨0, by omega, rfl, rfl, Below.refl _ _⟩
  case round =>
    obtain ⟨i, hi, rfl, rfl, hB⟩ := hrel
    have hzr := hB.size
    rcases Nat.lt_or_ge i l.length with hlt | hge
    · have hii : (i : Int) < (l.length : Int) := by omega
      have hi0 : (0 : Int) ≤ (i : Int) := by omega
      have hiW := wrap_one i (by omega)
      have hiV := wrap_less i (by omega)
      obtain ⟨ab, ao, rfl, had, hcl⟩ := hlc.lit (by rw [natCells_length]; omega)
      have hat : ∀ j (hj : j < l.length) W, Below w4.heap.size w4 W → W.cell? ⟨ab, ao + j, none⟩ = some (.int .i64 (l[j] : Nat)) := fun j hj W hW => (hW.cell (p := ⟨ab, ao + j, none⟩) had).trans (hcl j (.int .i64 (l[j] : Nat)) (by unfold natCells; rw [List.getElem?_map, List.getElem?_eq_getElem hj]; rfl))
      have KC := hid (hat i hlt)
      have hfs := fst_succ hlt
      have hN1 := nxt_self hr.2.1 hlt
      have hP1 := prv_self hr.2.1 hlt
      have hH1 := hasN_self hr.2.1 hlt
      have hcase : (i = 0 ∧ fst l i = fst l (i + 1)) ∨ (∃ p : Nat, (i : Int) - 1 = (p : Int) ∧ p < l.length ∧ 0 < i ∧ fst l i = fst l (i + 1) ∧ wr.cell? ⟨ab, ao + p, none⟩ = some (.int .i64 (l[i] : Nat))) ∨ (∃ p : Nat, (i : Int) - 1 = (p : Int) ∧ p < l.length ∧ 0 < i ∧ fst l (i + 1) = i ∧ ∃ y : Nat, y ≠ l[i] ∧ wr.cell? ⟨ab, ao + p, none⟩ = some (.int .i64 (y : Nat))) := by
        rcases Nat.eq_zero_or_pos i with h0 | h0
        · subst h0
          exact Or.inl ⟨rfl, by rw [hfs]; exact fst_same hr.2.1 hlt (Or.inl rfl)⟩
        · have hk := hat (i - 1) (by omega) wr hB
          by_cases he : l[i] = l[i - 1]'(by omega)
          · rw [← he] at hk
            exact Or.inr (Or.inl ⟨i - 1, by omega, by omega, h0, by rw [hfs]; exact fst_same hr.2.1 hlt (Or.inr he), hk⟩)
          · exact Or.inr (Or.inr ⟨i - 1, by omega, by omega, h0, by rw [hfs]; exact clz_new hr.2.1 hlt (by omega) he, _, fun e => he e.symm, hk⟩)
      have HN := hid (fun W (hW : Below w4.heap.size w4 W) => next_any s l B (l[i] : Nat) W (hs.below hW) (hTc.below hW) hr hFew)
      have HP := hid (fun W (hW : Below w4.heap.size w4 W) => prev_any s l B (l[i] : Nat) W (hs.below hW) (hTc.below hW) hr hFew)
      have HL := hid (fun W (hW : Below w4.heap.size w4 W) => show Calls Tryd.prog 21 #[.pointer (some ⟨s, 0, none⟩), .int .i64 (l[i] : Nat)] W (fun e w' => e = .returned (.int .i64 (clz l (l[i] : Nat) : Nat)) ∧ Below W.heap.size W w') from less_any s l B (l[i] : Nat) W (hs.below hW) (hTc.below hW) hr hFew)
      have HH := hid (fun W (hW : Below w4.heap.size w4 W) => show Calls Tryd.prog 22 #[.pointer (some ⟨s, 0, none⟩), .int .i64 (l[i] : Nat)] W (fun e w' => e = .returned (.bool (hasN l (l[i] : Nat))) ∧ Below W.heap.size W w') from has_any s l B (l[i] : Nat) W (hs.below hW) (hTc.below hW) hr hFew)
      rw [hH1] at HH
      rw [hN1, oN_eq] at HN
      rw [hP1, oN_eq] at HP
      rw [← hfs] at HL
      clear hN1 hP1 hH1 hfs hcl hat
      generalize l[i] = x at *
      rw [show oF (some x) = x from rfl, show oB (some x) = true from rfl] at HN HP
      obtain ⟨q, hq⟩ : ∃ q, fst l (i + 1) = q := ⟨_, rfl⟩
      obtain ⟨i1, hi1⟩ : ∃ i1, i1 = i + 1 := ⟨_, rfl⟩
      have HQ := hid (show fst l i1 = q ∧ i1 ≤ l.length ∧ Value.int .i64 (i1 : Nat) = .int .i64 ((i : Int) + 1) ∧ (i : Int) + 1 = i1 by rw [hi1]; exact ⟨hq, by omega, by go_num, by omega⟩)
      rw [hq] at HL hcase
      clear hq hi1
      have k0 := KC.out _ hB
      rcases hcase with ⟨h0, h1⟩ | ⟨p, h1, h2, h4, h5, h6⟩ | ⟨p, h1, h2, h4, h5, y, h6, h7⟩
      case' inl =>
        have g0 : ¬ (0 : Int) < (i : Int) := by omega
        have g1 : ¬ 0 < i := by omega
        rw [h1]
        clear h0 h1
        go_wp2_with fail
        go_quiet (fail)
        go_wp2_with fail
      case' inr.inl =>
        have g0 : (0 : Int) < (i : Int) := by omega
        rw [h5]
        rw [h1] at hiV
        have hpl : (p : Int) < (l.length : Int) := by omega
        have hp0 : (0 : Int) ≤ (p : Int) := by omega
        clear h5
        go_wp2_with fail
        go_quiet (fail)
        go_wp2_with fail
      case' inr.inr =>
        have g0 : (0 : Int) < (i : Int) := by omega
        rw [h1] at hiV
        have hpl : (p : Int) < (l.length : Int) := by omega
        have hp0 : (0 : Int) ≤ (p : Int) := by omega
        subst h5
        have hxy : ((x : Int) == (y : Int)) = false := by simp; omega
        go_wp2_with fail
        go_quiet (fail)
        go_wp2_with fail
      all_goals (
        refine (HN.out _ (by exact ⟨hB.os, hB.tape, hB.output, hB.size, hB.block⟩)).mono ?_
        rintro e w5 ⟨rfl, hB5⟩
        have hBd : Below w4.heap.size w4 w5 := Below.trans (show Below w4.heap.size w4 (wr.drewN nq) from ⟨hB.os, hB.tape, hB.output, hB.size, hB.block⟩) (hB5.mono hzr)
        have hzd := hBd.size
        have k1 := KC.out _ hBd
        clear hB5
        go_wp2_with fail
        refine (HP.out _ hBd).mono ?_
        rintro e w6 ⟨rfl, hB6⟩
        have hBe := hBd.trans (hB6.mono hzd)
        have hze := hBe.size
        have k2 := KC.out _ hBe
        clear hB6
        go_wp2_with fail
        refine (HH.out _ hBe).mono ?_
        rintro e w7 ⟨rfl, hB7⟩
        have hBf := hBe.trans (hB7.mono hze)
        have hzf := hBf.size
        have k3 := KC.out _ hBf
        clear hB7
        go_wp2_with fail
        refine (HL.out _ hBf).mono ?_
        rintro e w8 ⟨rfl, hB8⟩
        have hBg := hBf.trans (hB8.mono hzf)
        clear hB8
        go_wp2_with fail
        go_roundw
        case rel => exact ⟨i1, HQ.out.2.1, by rw [HQ.out.2.2.1], by rw [HQ.out.1], hBg⟩
        case measure => have := HQ.out.2.2; simp [intOf]; omega)
    · obtain rfl : i = l.length := by omega
      have hki : ¬ ((l.length : Int) < (l.length : Int)) := by omega
      have HL := hid (fun W (hW : Below w4.heap.size w4 W) => show Calls Tryd.prog 21 #[.pointer (some ⟨s, 0, none⟩), .int .i64 (B : Nat)] W (fun e w' => e = .returned (.int .i64 (l.length : Nat)) ∧ Below W.heap.size W w') from by
        have := less_any s l B (B : Nat) W (hs.below hW) (hTc.below hW) hr hFew
        rwa [clz_high hr.2.2 (Int.le_refl _)] at this)
      have HZ := hid (fun W (hW : Below w4.heap.size w4 W) => show Calls Tryd.prog 21 #[.pointer (some ⟨s, 0, none⟩), .int .i64 0] W (fun e w' => e = .returned (.int .i64 0) ∧ Below W.heap.size W w') from by
        have := less_any s l B 0 W (hs.below hW) (hTc.below hW) hr hFew
        rwa [clz_low l (Int.le_refl _)] at this)
      go_wp2_with fail
      refine (HL.out _ hB).mono ?_
      rintro e w7 ⟨rfl, hB7⟩
      have hBf := hB.trans (hB7.mono hzr)
      have hzf := hBf.size
      clear hB7
      go_wp2_with fail
      refine (HZ.out _ hBf).mono ?_
      rintro e w8 ⟨rfl, hB8⟩
      have hBg := hBf.trans (hB8.mono hzf)
      go_wp2_with fail
      go_ret
      exact ⟨rfl, hBc.trans (hBg.mono hzc)⟩

theorem lawFanoEach_any (A : Option Addr) (c : Nat) (zs : List Int) (B : Int) (w : World) (hl : Lst w A (ints zs)) (hB : B ≤ 9223372036854775807) (hT : Tab w) :
    Calls Tryd.prog 7 #[.slice A zs.length c, .int .i64 B] w fun e w' => e = .returned (.bool true) ∧ Below w.heap.size w w' := by
  cases hf : fewB zs.length B with
  | false => exact lawFanoEach_many A _ c B w hB hf hT
  | true =>
    by_cases hr : RightZ zs B
    · obtain ⟨l, b, rfl, rfl, hN, hlt⟩ := rightZ_nat hr
      rw [List.length_map] at hf ⊢
      rw [ints_nat] at hl
      exact lawFanoEach_true A c l b w hl hT hN hf
    · have := fewB_le hf
      exact lawFanoEach_wrong A c zs B w hl (by omega) hB hf hr hT
end Go.Proofs.YtlpnbkfcbamnbaaDoor
