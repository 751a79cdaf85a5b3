/- Walks: the law FanoMore returns true. -/
import Derived.Test.YtlpnbkfcbamnbaaDoorLawFanoP

import Derived.Lib.QuietBelow
set_option linter.unusedVariables false
set_option linter.unusedSimpArgs false
set_option maxRecDepth 100000
namespace Go.Proofs.YtlpnbkfcbamnbaaDoor
open Go.RowKit Go.Shelf L Go.Sort

set_option maxHeartbeats 2000000 in
theorem lawFanoMore_long (A : Option Addr) (n c : Nat) (B m : Int) (w : World) (hn : 99 < n) (hT : Tab w) :
    Calls Tryd.prog 4 #[.slice A n c, .int .i64 B, .int .i64 m] w fun e w' => e = .returned (.bool true) ∧ Below w.heap.size w w' := by
  have h1 : decide ((n : Int) > 99) = true := decide_eq_true (by omega)
  go_enter Tryd.func4, Tryd.ntmps4
  go_wp2_with fail
  refine (awake5 _ hT).mono ?_
  rintro e w1 ⟨rfl, hB1⟩
  go_wp2_with fail
  refine (awake5 _ (hT.below hB1)).mono ?_
  rintro e w2 ⟨rfl, hB2⟩
  go_wp2_with fail
  go_ret
  exact ⟨rfl, hB1.trans (hB2.mono hB1.size)⟩

set_option maxHeartbeats 2000000 in
theorem lawFanoMore_many (A : Option Addr) (n c : Nat) (B m : Int) (w : World) (hn : n ≤ 99) (hB : B ≤ 9223372036854775807) (hf : fewB n B = false) (hT : Tab w) :
    Calls Tryd.prog 4 #[.slice A n c, .int .i64 B, .int .i64 m] w fun e w' => e = .returned (.bool true) ∧ Below w.heap.size w w' := by
  have h1 : decide ((n : Int) > 99) = false := decide_eq_false (by omega)
  have h1N : ¬ 99 < n := by omega
  have HF := hid (fun W => few_any A c n B W (by omega) hB)
  rw [hf] at HF
  clear hf
  go_enter Tryd.func4, Tryd.ntmps4
  go_wp2_with fail
  refine (awake5 _ hT).mono ?_
  rintro e w1 ⟨rfl, hB1⟩
  go_wp2_with fail
  refine (HF.out _).mono ?_
  rintro e w3 ⟨rfl, rfl⟩
  go_wp2_with fail
  refine (awake5 _ (hT.below hB1)).mono ?_
  rintro e w2 ⟨rfl, hB2⟩
  go_wp2_with fail
  go_ret
  exact ⟨rfl, hB1.trans (hB2.mono hB1.size)⟩

set_option maxHeartbeats 2000000 in
theorem lawFanoMore_wrong (A : Option Addr) (c : Nat) (zs : List Int) (B m : Int) (w : World) (hl : Lst w A (ints zs)) (hn : zs.length ≤ 99) (hB : B ≤ 9223372036854775807) (hf : fewB zs.length B = true) (hr : ¬ RightZ zs B) (hT : Tab w) :
    Calls Tryd.prog 4 #[.slice A zs.length c, .int .i64 B, .int .i64 m] w fun e w' => e = .returned (.bool true) ∧ Below w.heap.size w w' := by
  have h1 : decide ((zs.length : Int) > 99) = false := decide_eq_false (by omega)
  have h1N : ¬ 99 < zs.length := by omega
  have HF := hid (fun W => few_any A c zs.length B W (by omega) hB)
  rw [hf] at HF
  have HR := hid hr
  clear hf hr
  go_enter Tryd.func4, Tryd.ntmps4
  go_wp2_with fail
  refine (awake5 _ hT).mono ?_
  rintro e w1 ⟨rfl, hB1⟩
  have hz1 := hB1.size
  go_wp2_with fail
  refine (HF.out _).mono ?_
  rintro e w3 ⟨rfl, rfl⟩
  go_wp2_with fail
  refine (refRight_is A c zs B _ (hl.below hB1) (by omega) false ⟨fun h => (by cases h), fun h => absurd h HR.out⟩).mono ?_
  rintro e w2 ⟨rfl, hB2⟩
  have hBb := hB1.trans (hB2.mono hz1)
  have hzb := hBb.size
  go_wp2_with fail
  refine (awake5 _ (hT.below hBb)).mono ?_
  rintro e w4 ⟨rfl, hB4⟩
  go_wp2_with fail
  go_ret
  exact ⟨rfl, hBb.trans (hB4.mono hzb)⟩

set_option maxHeartbeats 1000000 in
theorem lawFanoMore_out (A : Option Addr) (c : Nat) (l : List Nat) (B : Nat) (m : Int) (w : World) (hl : Lst w A (natCells l)) (hn99 : l.length ≤ 99) (hT : Tab w) (hr : RightN l B) (hf : fewB l.length (B : Nat) = true)
    (ho : l.length = 0 ∨ (∃ h : 0 < l.length, m < (l[l.length - 1] : Nat) ∨ (B : Int) ≤ m)) :
    Calls Tryd.prog 4 #[.slice A l.length c, .int .i64 (B : Nat), .int .i64 m] w fun e w' => e = .returned (.bool true) ∧ Below w.heap.size w w' := by
  have h1 : decide ((l.length : Int) > 99) = false := decide_eq_false (by omega)
  have h1N : ¬ 99 < l.length := by omega
  have hFew := fewB_few hf hr
  have hn := hFew.1
  have HF := hid (fun W => few_any A c l.length (B : Nat) W (by omega) (by have := hr.1; omega))
  rw [hf] at HF
  clear hf
  have HRI := hid (fun W hW => refRight_yes (A := A) (c := c) hr hn W hW)
  clear hFew hr
  have hcase : l.length = 0 ∨ (∃ (p y : Nat) (ab ao : Nat), A = some ⟨ab, ao, none⟩ ∧ (l.length : Int) - 1 = (p : Int) ∧ p < l.length ∧ 0 < l.length ∧ (m < (y : Nat) ∨ (¬ m < (y : Nat) ∧ (B : Int) ≤ m)) ∧ ∀ W, Below w.heap.size w W → W.cell? ⟨ab, ao + p, none⟩ = some (.int .i64 (y : Nat))) := by
    rcases ho with h | ⟨h, h2⟩
    · exact Or.inl h
    · obtain ⟨ab, ao, rfl, had, hcl⟩ := hl.lit (by rw [natCells_length]; omega)
      refine Or.inr ⟨l.length - 1, l[l.length - 1], ab, ao, rfl, by omega, by omega, h, by omega, fun W hW => (hW.cell (p := ⟨ab, ao + (l.length - 1 : Nat), none⟩) had).trans (hcl (l.length - 1) _ ?_)⟩
      unfold natCells; rw [List.getElem?_map, List.getElem?_eq_getElem (by omega)]; rfl
  clear ho
  have hl1 := fun W (h : Below w.heap.size w W) => HRI.out W (hl.below h)
  have HRI := hid hl1
  clear hl hl1 hn
  generalize l.length = n at *
  rcases hcase with h0 | ⟨p, y, ab, ao, rfl, hp, hpl, h0, h2 | ⟨h2, h3⟩, hcl⟩
  · subst h0
    clear h1 h1N hn99
    go_enter Tryd.func4, Tryd.ntmps4
    go_wp2_with fail
    refine (awake5 _ hT).mono ?_
    rintro e w1 ⟨rfl, hB1⟩
    have hz1 := hB1.size
    go_wp2_with fail
    refine (HF.out _).mono ?_
    rintro e w3 ⟨rfl, rfl⟩
    go_wp2_with fail
    refine (HRI.out _ hB1).mono ?_
    rintro e w2 ⟨rfl, hB2⟩
    have hBb := hB1.trans (hB2.mono hz1)
    have hzb := hBb.size
    go_wp2_with fail
    refine (awake5 _ (hT.below hBb)).mono ?_
    rintro e w4 ⟨rfl, hB4⟩
    go_wp2_with fail
    go_ret
    exact ⟨rfl, hBb.trans (hB4.mono hzb)⟩
  all_goals (
    have d0 : ((n : Int) == 0) = false := beq_eq_false_iff_ne.2 (by omega)
    have hp0 : (0 : Int) ≤ (p : Int) := by omega
    have hpn : (p : Int) < (n : Int) := by omega
    have hnw : IntKind.i64.wrap ((n : Int) - 1) = (p : Int) := by rw [IntKind.wrap_i64]; omega
    have h0N : ¬ n = 0 := by omega)
  · have d1 : decide (m < (y : Int)) = true := decide_eq_true h2
    clear h0
    go_enter Tryd.func4, Tryd.ntmps4
    go_wp2_with fail
    refine (awake5 _ hT).mono ?_
    rintro e w1 ⟨rfl, hB1⟩
    have hz1 := hB1.size
    go_wp2_with fail
    refine (HF.out _).mono ?_
    rintro e w3 ⟨rfl, rfl⟩
    go_wp2_with fail
    refine (HRI.out _ hB1).mono ?_
    rintro e w2 ⟨rfl, hB2⟩
    have hBb := hB1.trans (hB2.mono hz1)
    have hzb := hBb.size
    have kb := hcl _ hBb
    go_wp2_with fail
    refine (awake5 _ (hT.below hBb)).mono ?_
    rintro e w4 ⟨rfl, hB4⟩
    go_wp2_with fail
    go_ret
    exact ⟨rfl, hBb.trans (hB4.mono hzb)⟩
  · have d1 : decide (m < (y : Int)) = false := decide_eq_false h2
    have d2 : decide (m ≥ (B : Int)) = true := decide_eq_true h3
    clear h0
    go_enter Tryd.func4, Tryd.ntmps4
    go_wp2_with fail
    refine (awake5 _ hT).mono ?_
    rintro e w1 ⟨rfl, hB1⟩
    have hz1 := hB1.size
    go_wp2_with fail
    refine (HF.out _).mono ?_
    rintro e w3 ⟨rfl, rfl⟩
    go_wp2_with fail
    refine (HRI.out _ hB1).mono ?_
    rintro e w2 ⟨rfl, hB2⟩
    have hBb := hB1.trans (hB2.mono hz1)
    have hzb := hBb.size
    have kb := hcl _ hBb
    go_wp2_with fail
    refine (awake5 _ (hT.below hBb)).mono ?_
    rintro e w4 ⟨rfl, hB4⟩
    go_wp2_with fail
    go_ret
    exact ⟨rfl, hBb.trans (hB4.mono hzb)⟩

set_option maxHeartbeats 2000000 in
theorem lawFanoMore_true (A : Option Addr) (c : Nat) (l : List Nat) (B m : Nat) (w : World) (hl : Lst w A (natCells l)) (hn99 : l.length ≤ 99) (hT : Tab w) (hr : RightN l B) (hf : fewB l.length (B : Nat) = true)
    (h0 : 0 < l.length) (hm : l[l.length - 1] ≤ m) (hmB : m < B) :
    Calls Tryd.prog 4 #[.slice A l.length c, .int .i64 (B : Nat), .int .i64 (m : Nat)] w fun e w' => e = .returned (.bool true) ∧ Below w.heap.size w w' := by
  have h1 : decide ((l.length : Int) > 99) = false := decide_eq_false (by omega)
  have h1N : ¬ 99 < l.length := by omega
  have hFew := fewB_few hf hr
  have hn := hFew.1
  have HF := hid (fun W => few_any A c l.length (B : Nat) W (by omega) (by have := hr.1; omega))
  rw [hf] at HF
  clear hf
  have HRI := hid (fun W hW => refRight_yes (A := A) (c := c) hr hn W hW)
  have HM := hid (fun W hW => make_ok A c l B W hW hr hFew)
  have hr2 : RightN (l ++ [m]) B := hr.snoc (fun y hy => Nat.le_trans (hr.2.1.last h0 y hy) hm) hmB
  have hll : (l ++ [m]).length = l.length + 1 := by simp
  have hFew2 : Few (l ++ [m]) B := hr2.few (by omega) (by omega)
  have HM2 := hid (fun A2 c2 W hW => by have := make_ok A2 c2 (l ++ [m]) B W hW hr2 hFew2; rw [hll] at this; exact this)
  have d0 : ((l.length : Int) == 0) = false := beq_eq_false_iff_ne.2 (by omega)
  obtain ⟨p, hp⟩ : ∃ p, l.length - 1 = p := ⟨_, rfl⟩
  have hpl : p < l.length := by omega
  have hm' : l[p] ≤ m := by subst hp; exact hm
  have d1 : decide ((m : Int) < (l[p] : Nat)) = false := decide_eq_false (by omega)
  have d1N : ¬ m < l[p] := by omega
  have d2 : decide ((m : Int) ≥ (B : Int)) = false := decide_eq_false (by omega)
  have d2N : ¬ B ≤ m := by omega
  have hp1 : (l.length : Int) - 1 = (p : Int) := by omega
  have hp0 : (0 : Int) ≤ (p : Int) := by omega
  have hpn : (p : Int) < (l.length : Int) := by omega
  have hnw : IntKind.i64.wrap ((l.length : Int) - 1) = (p : Int) := by rw [IntKind.wrap_i64]; omega
  have h0N : ¬ l.length = 0 := by omega
  have hnN : ¬ l = [] := fun e => by rw [e] at h0; exact absurd h0 (by simp)
  obtain ⟨ab, ao, rfl, had, hcl⟩ := hl.lit (by rw [natCells_length]; omega)
  have hcell := fun W (hW : Below w.heap.size w W) => (hW.cell (p := ⟨ab, ao + p, none⟩) had).trans (hcl p (.int .i64 (l[p] : Nat)) (by unfold natCells; rw [List.getElem?_map, List.getElem?_eq_getElem hpl]; rfl))
  obtain ⟨i0, hi0, iz0, iz1, iz2⟩ := info_parts Tryd.infoInt
  have HMX := hid hm
  clear hm hm'
  generalize l[p] = y at *
  go_enter Tryd.func4, Tryd.ntmps4
  go_wp2_with fail
  refine (awake5 _ hT).mono ?_
  rintro e w1 ⟨rfl, hB1⟩
  have hz1 := hB1.size
  go_wp2_with fail
  refine (HF.out _).mono ?_
  rintro e w3 ⟨rfl, rfl⟩
  go_wp2_with fail
  refine (HRI.out _ (hl.below hB1)).mono ?_
  rintro e w2 ⟨rfl, hB2⟩
  have hBb := hB1.trans (hB2.mono hz1)
  have hzb := hBb.size
  have kb := hcell _ hBb
  go_wp2_with (first
    | (at_builtin
       refine wpList_append_more _ rfl (.tmp 59) (.tmp 60) _ rfl w.heap.size 3 i0 _ 8 Tryd.underlying22 hi0 iz0 iz1 iz2 rfl (.slice (some ⟨w2.heap.size, 0, none⟩) 0 0) 0 [] rfl ?hown (some ⟨ab, ao, none⟩) l.length c (natCells l) rfl ?hls (natCells_length _) ?h1 ?h63 ?hby ?hbs _ rfl ?_
       go_must (case hown => exact own_empty_at _ _ _ _ rfl (by omega))
       go_must (case hls => exact hl.below (hBb.alloc (by omega) _))
       go_must (case h1 => intro u hu; unfold natCells at hu; obtain ⟨z, _, rfl⟩ := List.mem_map.1 hu; simp [Value.oneCell'])
       go_must (case h63 => simp only [maxLen]; omega)
       go_must (case hby => omega)
       go_must (case hbs => first | omega | (simp; omega))
       intro A4 c4 w4 hown4 hgr4 hat4
       have hB4 : Below w.heap.size w w4 := (hBb.alloc (by omega) _).grown hgr4 (by simp; omega) (fun j hj => by simp [Value.ownBlock] at hj; omega)
       have hz4 := hB4.size
       rw [Nat.zero_add, List.nil_append] at hown4
       clear hgr4 hat4)
    | (at_builtin
       refine wpList_append_more _ rfl (.tmp 61) (.tmp 63) _ rfl w.heap.size 3 i0 _ 8 Tryd.underlying22 hi0 iz0 iz1 iz2 rfl (.slice A4 l.length c4) l.length (natCells l) rfl ?hown (some ⟨w4.heap.size, 0, none⟩) 1 1 [.int .i64 (m : Nat)] rfl ?hls rfl ?h1 ?h63 ?hby ?hbs _ rfl ?_
       go_must (case hown => exact hown4.alloc _)
       go_must (case hls => exact lst_one _ _ _ _ (by simp))
       go_must (case h1 => simp [Value.oneCell'])
       go_must (case h63 => simp only [maxLen]; omega)
       go_must (case hby => omega)
       go_must (case hbs => first | omega | (simp; omega))
       intro A5 c5 w5 hown5 hgr5 hat5
       have hB5 : Below w.heap.size w w5 := (hB4.alloc (by omega) _).grown hgr5 (by simp; omega) (fun j hj => (hown4.lt j hj).1)
       have hl5 : Lst w5 A5 (natCells (l ++ [m])) := by have := own_lst hown5; rw [natCells_append]; exact this
       have hz5 := hB5.size
       clear hgr5 hat5 hown5 hown4)
    | (fail))
  refine (HM.out _ (hl.below hB5)).mono ?_
  rintro e w6 ⟨s, rfl, hs, hB6, _⟩
  have hBc := hB5.trans (hB6.mono hz5)
  have hzc := hBc.size
  go_wp2_with fail
  refine (HM2.out _ _ _ (hl5.below hB6)).mono ?_
  rintro e w7 ⟨t, rfl, ht, hB7, _⟩
  have hBd := hBc.trans (hB7.mono hzc)
  have hzd := hBd.size
  have hs7 := hs.below hB7
  have hTd := hT.below hBd
  have hw1 := wrap_one l.length (by omega)
  have HL2 := seqLen_any t _ B _ ht
  rw [hll] at HL2
  clear HM HM2 hBb hB4 hB5 hB6 hB7 kb hs hBc hzc hz5 hz4
  go_wp2_with fail
  refine HL2.mono ?_
  rintro e w' ⟨rfl, rfl⟩
  go_wp2_with fail
  refine (seqLen_any s _ B _ hs7).mono ?_
  rintro e w' ⟨rfl, rfl⟩
  go_wp2_with fail
  go_loopw [12] (fun iv wr => ∃ i : Nat, i ≤ l.length ∧ iv = .int .i64 (i : Nat) ∧ Below w7.heap.size w7 wr) (fun iv _ => l.length - (intOf iv).toNat)
  case atStart => exact ⟨0, by omega, rfl, Below.refl _ _⟩
  case round =>
    obtain ⟨i, hi, rfl, hB⟩ := hrel
    have hzr := hB.size
    rcases Nat.lt_or_ge i l.length with hlt | hge
    · have hii : (i : Int) < (l.length : Int) := by omega
      have hi0 : (0 : Int) ≤ (i : Int) := by omega
      have hiW := wrap_one i (by omega)
      have k0 := fun W (hW : Below w7.heap.size w7 W) => ((hBd.trans (hW.mono hzd)).cell (p := ⟨ab, ao + i, none⟩) had).trans (hcl i (.int .i64 (l[i] : Nat)) (by unfold natCells; rw [List.getElem?_map, List.getElem?_eq_getElem hlt]; rfl))
      have KC := hid k0
      have hxm : l[i] ≤ m := Nat.le_trans (hr.2.1.last h0 _ (List.getElem_mem hlt)) HMX.out
      have hi2 : i < (l ++ [m]).length := by omega
      have hge : (l ++ [m])[i] = l[i] := List.getElem_append_left hlt
      have HG1 := hid (sGet_in s l B i wr (hs7.below hB) (hTd.below hB) hr hFew hlt)
      have HG2 := hid (fun W (hW : Below w7.heap.size w7 W) => sGet_in t (l ++ [m]) B i W (ht.below hW) (hTd.below hW) hr2 hFew2 hi2)
      rw [hge] at HG2
      have HL1 := hid (fun g (hg : g = s ∨ g = t) W (hW : Below w7.heap.size w7 W) => show Calls Tryd.prog 21 #[.pointer (some ⟨g, 0, none⟩), .int .i64 (l[i] : Nat)] W (fun e w' => e = .returned (.int .i64 (clz l (l[i] : Nat) : Nat)) ∧ Below W.heap.size W w') from by
        rcases hg with rfl | rfl
        · exact less_any _ l B (l[i] : Nat) W (hs7.below hW) (hTd.below hW) hr hFew
        · have := less_any _ (l ++ [m]) B (l[i] : Nat) W (ht.below hW) (hTd.below hW) hr2 hFew2
          rwa [clz_snoc (by omega)] at this)
      clear hge hxm k0
      generalize l[i] = x at *
      generalize clz l (x : Nat) = cz at *
      go_wp2_with fail
      refine (HG1.out).mono ?_
      rintro e w8 ⟨rfl, hB8⟩
      have hBe := hB.trans (hB8.mono hzr)
      have hze := hBe.size
      clear hB8
      go_wp2_with fail
      refine (HG2.out _ hBe).mono ?_
      rintro e w9 ⟨rfl, hB9⟩
      have hBf := hBe.trans (hB9.mono hze)
      have hzf := hBf.size
      clear hB9
      go_wp2_with fail
      have k2 := KC.out _ hBf
      have hcg : ∀ d os, (grow (redrawn w9 d) os).cell? ⟨ab, ao + i, none⟩ = some (.int .i64 (x : Nat)) := fun d os => cell_regrown k2 d os
      have hlo : ∀ d os, Below w7.heap.size w7 (grow (redrawn w9 d) os) := fun d os => hBf.trans ((below_regrown w9 d os).mono hzf)
      have CL := hid (fun g hg d os => Calls.regrown_of (w := w9) (d := d) (os := os) (HL1.out g hg (grow (redrawn w9 d) os) (hlo d os)))
      clear HL1 hlo
      refine wp_region_quiet_below (by kernel_rfl) (by kernel_rfl) ?_
      iterate 18 (go_big_quiet_step (exact CL.out _ (by first | exact Or.inl rfl | exact Or.inr rfl) _ _))
      refine wpQuiet_nil ?_
      intro w10 hw10
      have hBg : Below w7.heap.size w7 w10 := by obtain ⟨⟨dq, oq⟩, rfl⟩ := hw10; exact hBf.trans ((below_regrown w9 dq oq).mono hzf)
      clear hw10 hcg
      go_wp2_with fail
      go_roundw
      case rel => exact ⟨i + 1, by omega, by go_num, hBg⟩
      case measure => simp [intOf]; omega
    · obtain rfl : i = l.length := by omega
      have hki : ¬ ((l.length : Int) < (l.length : Int)) := by omega
      have hi2 : l.length < (l ++ [m]).length := by omega
      have hge : (l ++ [m])[l.length] = m := by simp
      have HG2 := hid (sGet_in t (l ++ [m]) B l.length wr (ht.below hB) (hTd.below hB) hr2 hFew2 hi2)
      rw [hge] at HG2
      have HH := hid (fun W (hW : Below w7.heap.size w7 W) => show Calls Tryd.prog 22 #[.pointer (some ⟨t, 0, none⟩), .int .i64 (m : Nat)] W (fun e w' => e = .returned (.bool true) ∧ Below W.heap.size W w') from by
        have := has_any t (l ++ [m]) B (m : Nat) W (ht.below hW) (hTd.below hW) hr2 hFew2
        rwa [hasN_last hr2.2.1] at this)
      go_wp2_with fail
      refine (HG2.out).mono ?_
      rintro e w8 ⟨rfl, hB8⟩
      have hBe := hB.trans (hB8.mono hzr)
      have hze := hBe.size
      clear hB8
      go_wp2_with fail
      refine (HH.out _ hBe).mono ?_
      rintro e w9 ⟨rfl, hB9⟩
      have hBf := hBe.trans (hB9.mono hze)
      go_wp2_with fail
      go_ret
      exact ⟨rfl, hBd.trans (hBf.mono hzd)⟩

theorem lawFanoMore_any (A : Option Addr) (c : Nat) (zs : List Int) (B m : Int) (w : World) (hl : Lst w A (ints zs)) (hB : B ≤ 9223372036854775807) (hT : Tab w) :
    Calls Tryd.prog 4 #[.slice A zs.length c, .int .i64 B, .int .i64 m] w fun e w' => e = .returned (.bool true) ∧ Below w.heap.size w w' := by
  rcases Nat.lt_or_ge 99 zs.length with h | h
  · exact lawFanoMore_long A _ c B m w h hT
  · cases hf : fewB zs.length B with
    | false => exact lawFanoMore_many A _ c B m w h hB hf hT
    | true =>
      by_cases hr : RightZ zs B
      · obtain ⟨l, b, rfl, rfl, hN, hlt⟩ := rightZ_nat hr
        rw [List.length_map] at hf h ⊢
        rw [ints_nat] at hl
        by_cases ho : l.length = 0 ∨ (∃ h : 0 < l.length, m < (l[l.length - 1] : Nat) ∨ (b : Int) ≤ m)
        · exact lawFanoMore_out A c l b m w hl h hT hN hf ho
        · have h0 : 0 < l.length := Nat.pos_of_ne_zero fun e => ho (Or.inl e)
          have h1 : ¬ (m < (l[l.length - 1] : Nat) ∨ (b : Int) ≤ m) := fun e => ho (Or.inr ⟨h0, e⟩)
          obtain ⟨k, rfl⟩ := Int.eq_ofNat_of_zero_le (show 0 ≤ m by omega)
          exact lawFanoMore_true A c l b k w hl h hT hN hf h0 (by omega) (by omega)
      · exact lawFanoMore_wrong A c zs B m w hl h hB hf hr hT
end Go.Proofs.YtlpnbkfcbamnbaaDoor
