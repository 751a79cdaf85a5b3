/- Walks: the law ParenTurned returns true. -/
import Derived.Test.YtdhokioiloggeaaLawParen
import Derived.OwnWalk
import Derived.Deep.RegionHeld3
set_option linter.unusedVariables false
set_option linter.unusedSimpArgs false
set_option maxRecDepth 100000
namespace Go.Proofs.Ytdhokioiloggeaa
open Go.RowKit L

theorem made_bools6 (n : Nat) : (madeCells (Value.bool false).cells (n * 1)).toList = bools (List.replicate n false) := by
  have e : (Value.bool false).cells = #[.bool false] := rfl
  rw [e, Nat.mul_one]
  unfold madeCells bools
  apply List.ext_getElem
  · simp
  · intro i h1 h2
    simp [Nat.mod_one]
theorem bools_set6 (L : List Bool) (k : Nat) (b : Bool) : (bools L).set k (.bool b) = bools (L.set k b) := by simp [bools, List.map_set]
theorem bitAt_set6 (L : List Bool) (k : Nat) (b : Bool) (i : Nat) (h : k < L.length) : bitAt (L.set k b) i = if i = k then b else bitAt L i := by
  unfold bitAt
  rw [List.getElem?_set]
  by_cases e : k = i
  · subst e; simp [h]
  · rw [if_neg e, if_neg (fun h => e h.symm)]

theorem held_in {n m : Nat} (h : m ≤ n) : held n (m : Nat) = m := by unfold held; omega

set_option maxHeartbeats 8000000 in
theorem turned6_any (A : Option Addr) (c : Nat) (bs : List Bool) (a b d : Int) (w : World) (hl : Lst w A (bools bs)) (hbs : bs.length ≤ 3840) (hd1 : -5000 ≤ d) (hd2 : d ≤ 5000) :
    Calls Try.prog 58 #[.slice A bs.length c, .int .i64 a, .int .i64 b, .int .i64 d] w fun e w' => e = .returned (.bool true) ∧ Below w.heap.size w w' := by
  obtain ⟨i0, hi0, iz0, iz1, iz2⟩ := info_parts Try.infoBool
  have HE := hid (fun W => refEnds_any A c bs.length a b W (by omega))
  have k1 := heldTo_ge bs.length a b
  have k2 := heldTo_le bs.length a b
  generalize heldTo bs.length a b = q at *
  generalize held bs.length a = p at *
  have hq0 : held bs.length (p : Nat) = p := held_in (by omega)
  have hq1 : heldTo bs.length (p : Nat) (q : Nat) = q := by unfold heldTo; rw [hq0]; omega
  have HF := hid (fun g A c W hW => by have := pForth_any g A c bs (p : Nat) (q : Nat) d W hW (by omega) (by omega); rw [hq0, hq1] at this; exact this)
  have HX := hid (fun g A c W hW => by have := pExcess_any g A c bs (p : Nat) (q : Nat) W hW; rw [hq0, hq1] at this; exact this)
  clear hq0 hq1
  go_enter Try.func58, Try.ntmps58
  go_wp2_with fail
  refine (HE.out _).mono ?_
  rintro e w' ⟨rfl, rfl⟩
  go_wp2_with (first
    | (at_make
       go_must (refine wpList_make_full _ rfl (.tmp 27) (.tmp 27) _ rfl w.heap.size 4 i0 (.bool false) 1 Try.underlying27 hi0 iz0 iz1 .i64 .i64 _ _ bs.length rfl rfl rfl rfl (by rw [iz2]; omega) (by unfold maxLen; omega) (Nat.le_refl _) ?_)
       intro w3 hown3 hgr3))
  rw [made_bools6] at hown3
  have hB3 : Below w.heap.size w w3 := (Below.refl _ _).grown hgr3 (Nat.le_refl _) (fun k hk => by cases hk)
  have hz3 := hB3.size
  go_wp2_with fail
  go_loopw [13] (fun i wr => ∃ (k : Nat) (L : List Bool), k ≤ bs.length ∧ i = .int .i64 k ∧ L.length = bs.length ∧ (∀ j, j < k → bitAt L (bs.length - 1 - j) = !bitAt bs j) ∧ wr.ownsRow w.heap.size 4 1 (.slice (some ⟨w.heap.size, 0, none⟩) bs.length bs.length) bs.length (bools L) ∧ Below w.heap.size w wr) (fun i _ => bs.length - (intOf i).toNat)
  case atStart => exact ⟨0, List.replicate bs.length false, by omega, rfl, by simp, fun j hj => by omega, hown3, hB3⟩
  case round =>
    obtain ⟨k, L, hk, rfl, hL, hLb, hown, hB⟩ := hrel
    have hsz := hB.size
    clear hown3 hgr3
    have hl4 := hl.below hB
    rcases Nat.lt_or_ge k bs.length with hlt | hge
    · have hki : (k : Int) < (bs.length : Int) := by omega
      have hk0 : (0 : Int) ≤ (bs.length : Int) - 1 - (k : Int) := by omega
      obtain ⟨ad, rfl, hc⟩ := hl4 k (.bool (bitAt bs k)) (bools_get bs hlt)
      obtain ⟨t, ht⟩ : ∃ t, t = bs.length - 1 - k := ⟨_, rfl⟩
      have htl : t < bs.length := by omega
      have hti : (bs.length : Int) - 1 - (k : Int) = (t : Int) := by omega
      have cw : wr.cell? ⟨w.heap.size, t, none⟩ = some (.bool (bitAt L t)) := by
        rw [hown.cellAt t (by omega)]; exact bools_get L (by omega)
      have fw := hown.frozenAt t
      have hst := hown.stored t (.bool (!bitAt bs k))
      rw [bools_set6] at hst
      have HL := hid (show ∀ j, j < k + 1 → bitAt (L.set t (!bitAt bs k)) (bs.length - 1 - j) = !bitAt bs j from fun j hj => by
        rw [bitAt_set6 L t _ _ (by omega)]
        by_cases e : j = k
        · subst e; rw [if_pos ht.symm]
        · rw [if_neg (by omega)]; exact hLb j (by omega))
      clear hLb ht
      go_wp2
      go_roundw
      case rel => exact ⟨k + 1, L.set t (!bitAt bs k), by omega, by go_num, by rw [List.length_set]; exact hL, HL.out, hst.1, hB.setCell (Nat.le_refl _) _⟩
      case measure => simp [intOf]; omega
    · obtain rfl : k = bs.length := by omega
      have hlo := own_lst hown
      have HG : ∀ i, i < bs.length → bitAt L (bs.length - 1 - i) = !bitAt bs i := fun i hi => hLb i hi
      have t1 := turned_ex (bitAt bs) (bitAt L) bs.length p q k1 k2 HG
      have t2 := turned_both (bitAt bs) (bitAt L) bs.length p q d k1 k2 HG
      have r0 : held L.length ((bs.length - q : Nat) : Int) = bs.length - q := by rw [hL]; exact held_in (by omega)
      have r1 : heldTo L.length ((bs.length - q : Nat) : Int) ((bs.length - p : Nat) : Int) = bs.length - p := by unfold heldTo; rw [r0, hL]; omega
      have e1 : (bs.length : Int) - (q : Int) = ((bs.length - q : Nat) : Int) := by omega
      have e2 : (bs.length : Int) - (p : Int) = ((bs.length - p : Nat) : Int) := by omega
      have HB := hid (fun g A c W hW => by have := pBack_any g A c L ((bs.length - q : Nat) : Int) ((bs.length - p : Nat) : Int) (-d) W hW (by omega) (by omega); rw [r0, r1] at this; exact this)
      have HY := hid (fun g A c W hW => by have := pExcess_any g A c L ((bs.length - q : Nat) : Int) ((bs.length - p : Nat) : Int) W hW; rw [r0, r1, show bs.length - p - (bs.length - q) = q - p from by omega, t1] at this; exact this)
      have hmc := hid (fun W hW => by have := made_any (some ⟨w.heap.size, 0, none⟩) bs.length L W hW (by omega); rw [hL] at this; exact this)
      have xa := ex_abs (sh (bitAt bs) p) (q - p)
      have n1 : -9223372036854775808 ≤ -d := by omega
      clear r0 r1 t1 hLb HG hown
      generalize ex (sh (bitAt bs) p) (q - p) = x0 at *
      generalize backN (bitAt L) (bs.length - q) (bs.length - p) (-d) = y0 at *
      generalize forthN (bitAt bs) p q d = f0 at *
      have h2 : (f0 = -1 ∧ y0 = -1) ∨ (0 ≤ f0 ∧ f0 ≤ (bs.length : Int) ∧ y0 = (bs.length : Int) - 1 - f0 ∧ f0 ≠ -1) := t2
      have HT := hid h2
      clear t2 h2
      go_wp2_with fail
      refine (made_any A c bs _ hl4 (by omega)).mono ?_
      rintro e w4 ⟨g4, A4, c4, rfl, hr4, _, _, hB4⟩
      have hz4 := hB4.size
      go_wp2_with fail
      refine (hmc.out _ (hlo.below hB4)).mono ?_
      rintro e w6 ⟨g6, A6, c6, rfl, hr6, _, _, hB6⟩
      have hr46 := hr4.below hB6
      have hBe : Below w.heap.size w w6 := hB.trans ((hB4.mono hsz).trans (hB6.mono (by omega)))
      clear hB4 hB6 hr4 hB hlo
      go_wp2_with fail
      refine (HF.out g4 A4 c4 _ hr46).mono ?_
      rintro e w' ⟨rfl, m1, rfl⟩
      go_wp2_with fail
      refine (HB.out g6 A6 c6 _ (by exact hr6)).mono ?_
      rintro e w' ⟨rfl, m2, rfl⟩
      go_wp2_with fail
      refine (HX.out g4 A4 c4 _ (by exact hr46)).mono ?_
      rintro e w' ⟨rfl, m3, rfl⟩
      go_wp2_with fail
      refine (HY.out g6 A6 c6 _ (by exact hr6)).mono ?_
      rintro e w' ⟨rfl, m4, rfl⟩
      rcases HT.out with ⟨rfl, rfl⟩ | ⟨h1, h2, rfl, h3⟩
      · go_wp2
        go_ret
        exact ⟨rfl, below_drewN hBe _⟩
      · have hne : (f0 == -1) = false := by rw [beq_eq_false_iff_ne]; exact h3
        clear h3
        go_wp2
        go_ret
        exact ⟨rfl, below_drewN hBe _⟩

set_option maxHeartbeats 2000000 in
theorem lawParenTurned_any (A : Option Addr) (c : Nat) (l : List (Nat × Int)) (a b d : Int) (w : World) (hl : Lst w A (opCells l)) (hx : ∀ o ∈ l, o.1 < 18446744073709551616) :
    Calls Try.prog 18 #[.slice A l.length c, .agg #[.int .i64 a, .int .i64 b, .int .i64 d]] w fun e w' => e = .returned (.bool true) ∧ Below w.heap.size w w' := by
  have hB0 : Below w.heap.size w (w.alloc (.cells #[.int .i64 a, .int .i64 b, .int .i64 d] 81)) := (Below.refl _ _).alloc (Nat.le_refl _) _
  have hz0 := hB0.size
  have hk := BlkIs.new w 81 #[.int .i64 a, .int .i64 b, .int .i64 d]
  have hz0' : w.heap.size < (w.alloc (.cells #[.int .i64 a, .int .i64 b, .int .i64 d] 81)).heap.size := hk.lt
  by_cases h : 60 < l.length ∨ d < -5000 ∨ 5000 < d
  · go_enter Try.func18, Try.ntmps18
    go_wp2_with fail
    refine (awake6 _).mono ?_
    rintro e w1 ⟨rfl, hB1⟩
    have hk1 := hk.below hB1
    have c2 := hk1.cell 2
    simp only [List.getElem?_toArray, List.getElem?_cons_succ, List.getElem?_cons_zero] at c2
    by_cases h1 : 60 < l.length
    · have h1i : decide ((60 : Int) < (l.length : Int)) = true := by rw [decide_eq_true_eq]; omega
      go_wp2_with fail
      refine (awake6 _).mono ?_
      rintro e w2 ⟨rfl, hB2⟩
      go_wp2
      go_ret
      exact ⟨rfl, hB0.trans ((hB1.mono hz0).trans (hB2.mono (Nat.le_trans hz0 hB1.size)))⟩
    · have h1i : decide ((60 : Int) < (l.length : Int)) = false := by rw [decide_eq_false_iff_not]; omega
      by_cases h2 : d < -5000
      · have h2i : decide (d < -5000) = true := by rw [decide_eq_true_eq]; exact h2
        go_wp2_with fail
        refine (awake6 _).mono ?_
        rintro e w2 ⟨rfl, hB2⟩
        go_wp2
        go_ret
        exact ⟨rfl, hB0.trans ((hB1.mono hz0).trans (hB2.mono (Nat.le_trans hz0 hB1.size)))⟩
      · have h2i : decide (d < -5000) = false := by rw [decide_eq_false_iff_not]; exact h2
        have h3i : decide (5000 < d) = true := by rw [decide_eq_true_eq]; omega
        go_wp2_with fail
        refine (awake6 _).mono ?_
        rintro e w2 ⟨rfl, hB2⟩
        go_wp2
        go_ret
        exact ⟨rfl, hB0.trans ((hB1.mono hz0).trans (hB2.mono (Nat.le_trans hz0 hB1.size)))⟩
  · have hbl := allPuts_length l
    have h1i : decide ((60 : Int) < (l.length : Int)) = false := by rw [decide_eq_false_iff_not]; omega
    have h2i : decide (d < -5000) = false := by rw [decide_eq_false_iff_not]; omega
    have h3i : decide (5000 < d) = false := by rw [decide_eq_false_iff_not]; omega
    have hn : l.length ≤ 60 := by omega
    have hd1 : -5000 ≤ d := by omega
    have hd2 : d ≤ 5000 := by omega
    clear h
    go_enter Try.func18, Try.ntmps18
    go_wp2_with fail
    refine (awake6 _).mono ?_
    rintro e w1 ⟨rfl, hB1⟩
    have hk1 := hk.below hB1
    have c0 := hk1.cell 0
    have c1 := hk1.cell 1
    have c2 := hk1.cell 2
    simp only [List.getElem?_toArray, List.getElem?_cons_succ, List.getElem?_cons_zero] at c0 c1 c2
    have hBa := hB0.trans (hB1.mono hz0)
    have C1 : ∀ W, Below w1.heap.size w1 W → Calls Try.prog 29 #[.slice A l.length c] W fun e w' => ∃ A2 c2, e = .returned (.slice A2 (allPuts l).length c2) ∧ Lst w' A2 (bools (allPuts l)) ∧ Below w1.heap.size w1 w' := fun W hW => by
      refine (all_any A c l _ ((hl.below hBa).below hW) hx hn).mono ?_
      rintro e w2 ⟨A2, c2, rfl, hl2, hA2, hB2, hc2⟩
      exact ⟨A2, c2, rfl, hl2, hW.trans (hB2.mono hW.size)⟩
    have C2 : ∀ W A2 c2, Lst W A2 (bools (allPuts l)) → Below w1.heap.size w1 W → Calls Try.prog 58 #[.slice A2 (allPuts l).length c2, .int .i64 a, .int .i64 b, .int .i64 d] W fun e w' => e = .returned (.bool true) ∧ Below w1.heap.size w1 w' := fun W A2 c2 hl2 hW => by
      refine (turned6_any A2 c2 (allPuts l) a b d W hl2 (by omega) hd1 hd2).mono ?_
      rintro e w2 ⟨rfl, hB2⟩
      exact ⟨rfl, hW.trans (hB2.mono hW.size)⟩
    have H1 := hid C1
    have H2 := hid C2
    have KC := hid (show ∀ W, Below w1.heap.size w1 W → W.cell? ⟨w.heap.size, 0, none⟩ = some (.int .i64 a) ∧ W.cell? ⟨w.heap.size, 1, none⟩ = some (.int .i64 b) ∧ W.cell? ⟨w.heap.size, 2, none⟩ = some (.int .i64 d) from fun W hW =>
      ⟨(hW.cell (p := ⟨w.heap.size, 0, none⟩) hk1.lt).trans c0, (hW.cell (p := ⟨w.heap.size, 1, none⟩) hk1.lt).trans c1, (hW.cell (p := ⟨w.heap.size, 2, none⟩) hk1.lt).trans c2⟩)
    have hB11 := Below.refl w1.heap.size w1
    clear C1 C2
    generalize allPuts l = bs at *
    go_wp2_with fail
    go_region_held3 (fun w' => Below w1.heap.size w1 w' ∧ w'.cell? ⟨w.heap.size, 0, none⟩ = some (.int .i64 a) ∧ w'.cell? ⟨w.heap.size, 1, none⟩ = some (.int .i64 b) ∧ w'.cell? ⟨w.heap.size, 2, none⟩ = some (.int .i64 d)) (first | exact ⟨hB11.drew, c0, c1, c2⟩ | exact ⟨e1, KC.out _ e1⟩ | assumption)
      (first
       | (go_at_call 29; refine (H1.out _ (by first | assumption | exact And.left (by assumption))).mono ?_; rintro e w5 ⟨A2, c2, rfl, hl2, e1⟩)
       | (go_at_call 58; refine (H2.out _ _ _ (by first | assumption) (by first | assumption | exact And.left (by assumption))).mono ?_; rintro e w6 ⟨rfl, e1⟩))
    all_goals go_wp2
    all_goals go_ret
    all_goals exact ⟨rfl, hBa.trans (Below.mono (by first | exact e1 | assumption | exact And.left (by assumption)) hBa.size)⟩

end Go.Proofs.Ytdhokioiloggeaa
