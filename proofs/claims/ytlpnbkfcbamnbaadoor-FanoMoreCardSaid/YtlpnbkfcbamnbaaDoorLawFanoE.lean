/- Walks: the law FanoAsks returns true. -/
import Derived.Test.YtlpnbkfcbamnbaaDoorLawFanoD
import Derived.Lib.QuietBelow
set_option linter.unusedVariables false
set_option linter.unusedSimpArgs false
set_option maxRecDepth 100000
namespace Go.Proofs.YtlpnbkfcbamnbaaDoor
open Go.RowKit Go.Shelf L Go.Sort

set_option maxHeartbeats 2000000 in
theorem lawFanoAsks_long (A : Option Addr) (n c : Nat) (B : Int) (A2 : Option Addr) (n2 c2 : Nat) (w : World) (hn : 20 < n2) (hT : Tab w) :
    Calls Tryd.prog 6 #[.slice A n c, .int .i64 B, .slice A2 n2 c2] w fun e w' => e = .returned (.bool true) ∧ Below w.heap.size w w' := by
  have h1 : decide ((n2 : Int) > 20) = true := decide_eq_true (by omega)
  go_enter Tryd.func6, Tryd.ntmps6
  go_wp2_with fail
  refine (awake5 _ hT).mono ?_
  rintro e w1 ⟨rfl, hB1⟩
  go_wp2_with fail
  refine (awake5 _ (hT.below hB1)).mono ?_
  rintro e w2 ⟨rfl, hB2⟩
  go_wp2_with fail
  go_ret
  exact ⟨rfl, hB1.trans (hB2.mono hB1.size)⟩

set_option maxHeartbeats 2000000 in
theorem lawFanoAsks_many (A : Option Addr) (n c : Nat) (B : Int) (A2 : Option Addr) (n2 c2 : Nat) (w : World) (hB : B ≤ 9223372036854775807) (hn2 : n2 ≤ 20) (hf : fewB n B = false) (hT : Tab w) :
    Calls Tryd.prog 6 #[.slice A n c, .int .i64 B, .slice A2 n2 c2] w fun e w' => e = .returned (.bool true) ∧ Below w.heap.size w w' := by
  have h1 : decide ((n2 : Int) > 20) = false := decide_eq_false (by omega)
  have h1N : ¬ 20 < n2 := by omega
  have HF := hid (fun W => few_any A c n B W (by omega) hB)
  rw [hf] at HF
  clear hf
  go_enter Tryd.func6, Tryd.ntmps6
  go_wp2_with fail
  refine (awake5 _ hT).mono ?_
  rintro e w1 ⟨rfl, hB1⟩
  go_wp2_with fail
  refine (HF.out _).mono ?_
  rintro e w3 ⟨rfl, rfl⟩
  go_wp2_with fail
  refine (awake5 _ (hT.below hB1)).mono ?_
  rintro e w2 ⟨rfl, hB2⟩
  go_wp2_with fail
  go_ret
  exact ⟨rfl, hB1.trans (hB2.mono hB1.size)⟩

set_option maxHeartbeats 2000000 in
theorem lawFanoAsks_wrong (A : Option Addr) (c : Nat) (zs : List Int) (B : Int) (A2 : Option Addr) (n2 c2 : Nat) (w : World) (hl : Lst w A (ints zs)) (hn : zs.length ≤ 1000000) (hB : B ≤ 9223372036854775807) (hn2 : n2 ≤ 20) (hf : fewB zs.length B = true) (hr : ¬ RightZ zs B) (hT : Tab w) :
    Calls Tryd.prog 6 #[.slice A zs.length c, .int .i64 B, .slice A2 n2 c2] w fun e w' => e = .returned (.bool true) ∧ Below w.heap.size w w' := by
  have h1 : decide ((n2 : Int) > 20) = false := decide_eq_false (by omega)
  have h1N : ¬ 20 < n2 := by omega
  have HF := hid (fun W => few_any A c zs.length B W (by omega) hB)
  rw [hf] at HF
  have HR := hid hr
  clear hf hr
  go_enter Tryd.func6, Tryd.ntmps6
  go_wp2_with fail
  refine (awake5 _ hT).mono ?_
  rintro e w1 ⟨rfl, hB1⟩
  have hz1 := hB1.size
  go_wp2_with fail
  refine (HF.out _).mono ?_
  rintro e w3 ⟨rfl, rfl⟩
  go_wp2_with fail
  refine (refRight_is A c zs B _ (hl.below hB1) (by omega) false ⟨fun h => (by cases h), fun h => absurd h HR.out⟩).mono ?_
  rintro e w2 ⟨rfl, hB2⟩
  have hBb := hB1.trans (hB2.mono hz1)
  have hzb := hBb.size
  go_wp2_with fail
  refine (awake5 _ (hT.below hBb)).mono ?_
  rintro e w4 ⟨rfl, hB4⟩
  go_wp2_with fail
  go_ret
  exact ⟨rfl, hBb.trans (hB4.mono hzb)⟩

theorem refRight_yes {A : Option Addr} {c : Nat} {l : List Nat} {B : Nat} (hr : RightN l B) (hn : l.length ≤ 10000) (W : World) (hW : Lst W A (natCells l)) :
    Calls Tryd.prog 15 #[.slice A l.length c, .int .i64 (B : Nat)] W fun e w' => e = .returned (.bool true) ∧ Below W.heap.size W w' := by
  have := refRight_is A c (l.map (fun x : Nat => (x : Int))) (B : Nat) W (by rw [ints_nat]; exact hW) (by rw [List.length_map]; omega) true ⟨fun _ => hr.z (by omega), fun _ => rfl⟩
  rwa [List.length_map] at this

set_option maxHeartbeats 1000000 in
theorem lawFanoAsks_true (A : Option Addr) (c : Nat) (l : List Nat) (B : Nat) (A2 : Option Addr) (c2 : Nat) (ps : List Int) (w : World) (hl : Lst w A (natCells l)) (hps : Lst w A2 (ints ps)) (hm : ps.length ≤ 20) (hT : Tab w) (hr : RightN l B) (hf : fewB l.length (B : Nat) = true) :
    Calls Tryd.prog 6 #[.slice A l.length c, .int .i64 (B : Nat), .slice A2 ps.length c2] w fun e w' => e = .returned (.bool true) ∧ Below w.heap.size w w' := by
  have h1 : decide ((ps.length : Int) > 20) = false := decide_eq_false (by omega)
  have h1N : ¬ 20 < ps.length := by omega
  have hFew := fewB_few hf hr
  have hn := hFew.1
  have hB1 := hr.1
  have HF := hid (fun W => few_any A c l.length (B : Nat) W (by omega) (by omega))
  rw [hf] at HF
  clear hf
  have HRI := hid (fun W hW => refRight_yes (A := A) (c := c) hr hn W hW)
  have HM := hid (fun W hW => make_ok A c l B W hW hr hFew)
  go_enter Tryd.func6, Tryd.ntmps6
  go_wp2_with fail
  refine (awake5 _ hT).mono ?_
  rintro e w1 ⟨rfl, hB1⟩
  have hz1 := hB1.size
  go_wp2_with fail
  refine (HF.out _).mono ?_
  rintro e w3 ⟨rfl, rfl⟩
  go_wp2_with fail
  refine (HRI.out _ (hl.below hB1)).mono ?_
  rintro e w2 ⟨rfl, hB2⟩
  have hBb := hB1.trans (hB2.mono hz1)
  have hzb := hBb.size
  clear hB1 hB2
  go_wp2_with fail
  refine (HM.out _ (hl.below hBb)).mono ?_
  rintro e w4 ⟨s, rfl, hs, hB4, _⟩
  have hBc := hBb.trans (hB4.mono hzb)
  have hzc := hBc.size
  have hTc := hT.below hBc
  have hlc := hl.below hBc
  clear hBb hB4
  go_wp2_with fail
  go_loopw [9] (fun iv wr => ∃ i : Nat, i ≤ ps.length ∧ iv = .int .i64 (i : Nat) ∧ Below w4.heap.size w4 wr) (fun iv _ => ps.length - (intOf iv).toNat)
  case atStart => exact ⟨0, by omega, rfl, Below.refl _ _⟩
  case round =>
    obtain ⟨i, hi, rfl, hB⟩ := hrel
    have hzr := hB.size
    rcases Nat.lt_or_ge i ps.length with hlt | hge
    · have hii : (i : Int) < (ps.length : Int) := by omega
      have hi0 : (0 : Int) ≤ (i : Int) := by omega
      have hiW := wrap_one i (by omega)
      obtain ⟨ab, ao, rfl, had, hcl⟩ := hps.lit (by unfold ints; rw [List.length_map]; omega)
      have hwk := (hBc.cell (p := ⟨ab, ao + i, none⟩) had).trans (hcl i (.int .i64 ps[i]) (by unfold ints; rw [List.getElem?_map, List.getElem?_eq_getElem hlt]; rfl))
      have had4 : ab < w4.heap.size := by omega
      have KC := hid (show ∀ W, Below w4.heap.size w4 W → W.cell? ⟨ab, ao + i, none⟩ = some (.int .i64 ps[i]) from fun W hW => (hW.cell (p := ⟨ab, ao + i, none⟩) had4).trans hwk)
      clear hcl hwk
      generalize ps[i] = x at *
      have HN := hid (fun W (hW : Below w4.heap.size w4 W) => next_any s l B x W (hs.below hW) (hTc.below hW) hr hFew)
      have HP := hid (fun W (hW : Below w4.heap.size w4 W) => prev_any s l B x W (hs.below hW) (hTc.below hW) hr hFew)
      have HL := hid (fun W (hW : Below w4.heap.size w4 W) => show Calls Tryd.prog 21 #[.pointer (some ⟨s, 0, none⟩), .int .i64 x] W (fun e w' => e = .returned (.int .i64 (clz l x : Nat)) ∧ Below W.heap.size W w') from less_any s l B x W (hs.below hW) (hTc.below hW) hr hFew)
      have HH := hid (fun W (hW : Below w4.heap.size w4 W) => show Calls Tryd.prog 22 #[.pointer (some ⟨s, 0, none⟩), .int .i64 x] W (fun e w' => e = .returned (.bool (hasN l x)) ∧ Below W.heap.size W w') from has_any s l B x W (hs.below hW) (hTc.below hW) hr hFew)
      have HrN := hid (fun W (hW : Below w4.heap.size w4 W) => refNext_any A c l x W (hlc.below hW) (by omega) hr.2.1)
      have HrP := hid (fun W (hW : Below w4.heap.size w4 W) => refPrev_any A c l x W (hlc.below hW) (by omega) hr.2.1)
      have HrL := hid (fun W (hW : Below w4.heap.size w4 W) => refLess_any A c l x W (hlc.below hW) (by omega))
      rw [hasN_eq] at HH
      simp only [oN_eq] at HN HP HrN HrP
      generalize oF (prv l x) = pf at *
      generalize oB (prv l x) = pb at *
      generalize oF (nxt l x) = nf at *
      generalize oB (nxt l x) = nb' at *
      generalize L.clz l x = cz at *
      have k0 := KC.out _ hB
      go_wp2_with fail
      refine (HN.out _ hB).mono ?_
      rintro e w5 ⟨rfl, hB5⟩
      have hBd := hB.trans (hB5.mono hzr)
      have hzd := hBd.size
      have k1 := KC.out _ hBd
      clear hB5
      go_wp2_with fail
      refine (HrN.out _ hBd).mono ?_
      rintro e w' ⟨rfl, rfl⟩
      go_wp2_with fail
      refine (HP.out _ hBd).mono ?_
      rintro e w6 ⟨rfl, hB6⟩
      have hBe := hBd.trans (hB6.mono hzd)
      have hze := hBe.size
      have k2 := KC.out _ hBe
      clear hB6
      go_wp2_with fail
      refine (HrP.out _ hBe).mono ?_
      rintro e w' ⟨rfl, rfl⟩
      go_wp2_with fail
      have hcg : ∀ d os, (grow (redrawn w6 d) os).cell? ⟨ab, ao + i, none⟩ = some (.int .i64 x) := fun d os => cell_regrown k2 d os
      have hlo : ∀ d os, Below w4.heap.size w4 (grow (redrawn w6 d) os) := fun d os => hBe.trans ((below_regrown w6 d os).mono hze)
      have CL := hid (fun d os => Calls.regrown_of (w := w6) (d := d) (os := os) (HL.out (grow (redrawn w6 d) os) (hlo d os)))
      have CH := hid (fun d os => Calls.regrown_of (w := w6) (d := d) (os := os) (HH.out (grow (redrawn w6 d) os) (hlo d os)))
      have CR := hid (fun d os => Calls.regrown_of (w := w6) (d := d) (os := os) ((HrL.out (grow (redrawn w6 d) os) (hlo d os)).mono (fun e w' h => ⟨h.1, by rw [← h.2]; exact Below.refl _ _⟩)))
      obtain ⟨hb, hHB⟩ : ∃ hb : Bool, ((nf : Int) == x) = hb := ⟨_, rfl⟩
      rw [hHB] at CH
      clear HL HH HrL hlo k0 k1
      cases nb' with
      | false =>
        rw [Bool.false_and] at CH
        refine wp_region_quiet_below (by kernel_rfl) (by kernel_rfl) ?_
        iterate 51 (go_big_quiet_step (first | exact CL.out _ _ | exact CH.out _ _ | exact CR.out _ _))
        refine wpQuiet_nil ?_
        intro w7 hw7
        have hBf : Below w4.heap.size w4 w7 := by obtain ⟨⟨dq, oq⟩, rfl⟩ := hw7; exact hBe.trans ((below_regrown w6 dq oq).mono hze)
        clear hw7 hcg
        go_wp2_with fail
        go_roundw
        case rel => exact ⟨i + 1, by omega, by go_num, hBf⟩
        case measure => simp [intOf]; omega
      | true =>
        rw [Bool.true_and] at CH
        cases hb with
        | false =>
          refine wp_region_quiet_below (by kernel_rfl) (by kernel_rfl) ?_
          iterate 51 (go_big_quiet_step (first | exact CL.out _ _ | exact CH.out _ _ | exact CR.out _ _))
          refine wpQuiet_nil ?_
          intro w7 hw7
          have hBf : Below w4.heap.size w4 w7 := by obtain ⟨⟨dq, oq⟩, rfl⟩ := hw7; exact hBe.trans ((below_regrown w6 dq oq).mono hze)
          clear hw7 hcg
          go_wp2_with fail
          go_roundw
          case rel => exact ⟨i + 1, by omega, by go_num, hBf⟩
          case measure => simp [intOf]; omega
        | true =>
          refine wp_region_quiet_below (by kernel_rfl) (by kernel_rfl) ?_
          iterate 51 (go_big_quiet_step (first | exact CL.out _ _ | exact CH.out _ _ | exact CR.out _ _))
          refine wpQuiet_nil ?_
          intro w7 hw7
          have hBf : Below w4.heap.size w4 w7 := by obtain ⟨⟨dq, oq⟩, rfl⟩ := hw7; exact hBe.trans ((below_regrown w6 dq oq).mono hze)
          clear hw7 hcg
          go_wp2_with fail
          go_roundw
          case rel => exact ⟨i + 1, by omega, by go_num, hBf⟩
          case measure => simp [intOf]; omega
    · obtain rfl : i = ps.length := by omega
      have hki : ¬ ((ps.length : Int) < (ps.length : Int)) := by omega
      go_wp2_with fail
      go_ret
      exact ⟨rfl, hBc.trans (hB.mono hzc)⟩

theorem L.fewB_le {n : Nat} {B : Int} (h : fewB n B = true) : n ≤ 100 := by
  unfold fewB at h
  simp only [Bool.and_eq_true, decide_eq_true_eq] at h
  exact h.1

theorem lawFanoAsks_any (A : Option Addr) (c : Nat) (zs : List Int) (B : Int) (A2 : Option Addr) (c2 : Nat) (ps : List Int) (w : World) (hl : Lst w A (ints zs)) (hps : Lst w A2 (ints ps)) (hB : B ≤ 9223372036854775807) (hT : Tab w) :
    Calls Tryd.prog 6 #[.slice A zs.length c, .int .i64 B, .slice A2 ps.length c2] w fun e w' => e = .returned (.bool true) ∧ Below w.heap.size w w' := by
  rcases Nat.lt_or_ge 20 ps.length with h | h
  · exact lawFanoAsks_long A _ c B A2 _ c2 w h hT
  · cases hf : fewB zs.length B with
    | false => exact lawFanoAsks_many A _ c B A2 _ c2 w hB h hf hT
    | true =>
      by_cases hr : RightZ zs B
      · obtain ⟨l, b, rfl, rfl, hN, hlt⟩ := rightZ_nat hr
        rw [List.length_map] at hf ⊢
        rw [ints_nat] at hl
        exact lawFanoAsks_true A c l b A2 c2 ps w hl hps h hT hN hf
      · have := fewB_le hf
        exact lawFanoAsks_wrong A c zs B A2 _ c2 w hl (by omega) hB h hf hr hT

end Go.Proofs.YtlpnbkfcbamnbaaDoor
