/- Walks: the law FanoBetween returns true. -/
import Derived.Test.YtlpnbkfcbamnbaaDoorLawFanoP

set_option linter.unusedVariables false
set_option linter.unusedSimpArgs false
set_option maxRecDepth 100000
namespace Go.Proofs.YtlpnbkfcbamnbaaDoor
open Go.RowKit Go.Shelf L Go.Sort

set_option maxHeartbeats 2000000 in
theorem lawFanoBetween_many (A : Option Addr) (n c : Nat) (B x y : Int) (w : World) (hB : B ≤ 9223372036854775807) (hf : fewB n B = false) (hT : Tab w) :
    Calls Tryd.prog 5 #[.slice A n c, .int .i64 B, .agg #[.int .i64 x, .int .i64 y]] w fun e w' => e = .returned (.bool true) ∧ Below w.heap.size w w' := by
  have HF := hid (fun W => few_any A c n B W (by omega) hB)
  rw [hf] at HF
  clear hf
  have hB0 : Below w.heap.size w (w.alloc (.cells #[.int .i64 x, .int .i64 y] 35)) := (Below.refl _ _).alloc (Nat.le_refl _) _
  have hz0 := hB0.size
  go_enter Tryd.func5, Tryd.ntmps5
  go_wp2_with fail
  refine (awake5 _ (hT.below hB0)).mono ?_
  rintro e w1 ⟨rfl, hB1⟩
  have hBa := hB0.trans (hB1.mono hz0)
  have hza := hBa.size
  go_wp2_with fail
  refine (HF.out _).mono ?_
  rintro e w3 ⟨rfl, rfl⟩
  go_wp2_with fail
  refine (awake5 _ (hT.below hBa)).mono ?_
  rintro e w2 ⟨rfl, hB2⟩
  go_wp2_with fail
  go_ret
  exact ⟨rfl, hBa.trans (hB2.mono hza)⟩

set_option maxHeartbeats 2000000 in
theorem lawFanoBetween_wrong (A : Option Addr) (c : Nat) (zs : List Int) (B x y : Int) (w : World) (hl : Lst w A (ints zs)) (hn : zs.length ≤ 1000000) (hB : B ≤ 9223372036854775807) (hf : fewB zs.length B = true) (hr : ¬ RightZ zs B) (hT : Tab w) :
    Calls Tryd.prog 5 #[.slice A zs.length c, .int .i64 B, .agg #[.int .i64 x, .int .i64 y]] w fun e w' => e = .returned (.bool true) ∧ Below w.heap.size w w' := by
  have HF := hid (fun W => few_any A c zs.length B W (by omega) hB)
  rw [hf] at HF
  have HR := hid hr
  clear hf hr
  have hB0 : Below w.heap.size w (w.alloc (.cells #[.int .i64 x, .int .i64 y] 35)) := (Below.refl _ _).alloc (Nat.le_refl _) _
  have hz0 := hB0.size
  go_enter Tryd.func5, Tryd.ntmps5
  go_wp2_with fail
  refine (awake5 _ (hT.below hB0)).mono ?_
  rintro e w1 ⟨rfl, hB1⟩
  have hBa := hB0.trans (hB1.mono hz0)
  have hza := hBa.size
  go_wp2_with fail
  refine (HF.out _).mono ?_
  rintro e w3 ⟨rfl, rfl⟩
  go_wp2_with fail
  refine (refRight_is A c zs B _ (hl.below hBa) (by omega) false ⟨fun h => (by cases h), fun h => absurd h HR.out⟩).mono ?_
  rintro e w2 ⟨rfl, hB2⟩
  have hBb := hBa.trans (hB2.mono hza)
  have hzb := hBb.size
  go_wp2_with fail
  refine (awake5 _ (hT.below hBb)).mono ?_
  rintro e w4 ⟨rfl, hB4⟩
  go_wp2_with fail
  go_ret
  exact ⟨rfl, hBb.trans (hB4.mono hzb)⟩

set_option maxHeartbeats 1000000 in
theorem lawFanoBetween_true (A : Option Addr) (c : Nat) (l : List Nat) (B : Nat) (x y : Int) (w : World) (hl : Lst w A (natCells l)) (hT : Tab w) (hr : RightN l B) (hf : fewB l.length (B : Nat) = true) :
    Calls Tryd.prog 5 #[.slice A l.length c, .int .i64 (B : Nat), .agg #[.int .i64 x, .int .i64 y]] w fun e w' => e = .returned (.bool true) ∧ Below w.heap.size w w' := by
  have hFew := fewB_few hf hr
  have hn := hFew.1
  have hB1 := hr.1
  have HF := hid (fun W => few_any A c l.length (B : Nat) W (by omega) (by omega))
  rw [hf] at HF
  clear hf
  have HRI := hid (fun W hW => refRight_yes (A := A) (c := c) hr hn W hW)
  have HM := hid (fun W hW => make_ok A c l B W hW hr hFew)
  have hB0 : Below w.heap.size w (w.alloc (.cells #[.int .i64 x, .int .i64 y] 35)) := (Below.refl _ _).alloc (Nat.le_refl _) _
  have hz0 := hB0.size
  have hblk : BlkIs (w.alloc (.cells #[.int .i64 x, .int .i64 y] 35)) w.heap.size 35 #[.int .i64 x, .int .i64 y] := BlkIs.new _ _ _
  go_enter Tryd.func5, Tryd.ntmps5
  go_wp2_with fail
  refine (awake5 _ (hT.below hB0)).mono ?_
  rintro e w1 ⟨rfl, hB1⟩
  have hBa := hB0.trans (hB1.mono hz0)
  have hza := hBa.size
  go_wp2_with fail
  refine (HF.out _).mono ?_
  rintro e w3 ⟨rfl, rfl⟩
  go_wp2_with fail
  refine (HRI.out _ (hl.below hBa)).mono ?_
  rintro e w2 ⟨rfl, hB2⟩
  have hBb := hBa.trans (hB2.mono hza)
  have hzb := hBb.size
  have hz1 := hB1.size
  have hz2 := hB2.size
  go_wp2_with fail
  refine (HM.out _ (hl.below hBb)).mono ?_
  rintro e w4 ⟨s, rfl, hs, hB4, _⟩
  have hBc := hBb.trans (hB4.mono hzb)
  have hzc := hBc.size
  have hTc := hT.below hBc
  have hlc := hl.below hBc
  have hblk4 := ((hblk.below hB1).below hB2).below hB4
  have kx : w4.cell? ⟨w.heap.size, 0, none⟩ = some (.int .i64 x) := hblk4.cell 0
  have ky : w4.cell? ⟨w.heap.size, 1, none⟩ = some (.int .i64 y) := hblk4.cell 1
  clear hBb hB4 hblk hblk4 hB1 hB2 hB0 hBa
  go_wp2_with fail
  go_quiet (fail)
  go_wp2_with fail
  obtain ⟨a, ha⟩ : ∃ a, a = min x y := ⟨_, rfl⟩
  obtain ⟨b, hb⟩ : ∃ b, b = max x y := ⟨_, rfl⟩
  rw [← ha, ← hb]
  have hab : a ≤ b := by omega
  clear ha hb kx ky
  obtain ⟨q, hq⟩ : ∃ q : Nat → Bool, q = fun z : Nat => decide (a ≤ (z : Int)) && decide ((z : Int) < b) := ⟨_, rfl⟩
  have hbw := clz_between l hab
  rw [← hq] at hbw
  have hq1 : ∀ z : Nat, q z = (decide (a ≤ (z : Int)) && decide ((z : Int) < b)) := fun z => by rw [hq]
  clear hq
  go_loopw [11, 12] (fun nv iv wr => ∃ i : Nat, i ≤ l.length ∧ iv = .int .i64 (i : Nat) ∧ nv = .int .i64 ((l.take i).countP q : Nat) ∧ Below w4.heap.size w4 wr) (fun _ iv _ => l.length - (intOf iv).toNat)
  case atStart => exact ⟨0, by omega, rfl, rfl, below_drewN (Below.refl _ _) _⟩
  case round =>
    obtain ⟨i, hi, rfl, rfl, hB⟩ := hrel
    have hzr := hB.size
    rcases Nat.lt_or_ge i l.length with hlt | hge
    · have hii : (i : Int) < (l.length : Int) := by omega
      have hi0 : (0 : Int) ≤ (i : Int) := by omega
      have hiW := wrap_one i (by omega)
      obtain ⟨ab, ao, rfl, had, hcl⟩ := hlc.lit (by rw [natCells_length]; omega)
      have k0 := (hB.cell (p := ⟨ab, ao + i, none⟩) had).trans (hcl i (.int .i64 (l[i] : Nat)) (by unfold natCells; rw [List.getElem?_map, List.getElem?_eq_getElem hlt]; rfl))
      have hts : (l.take (i + 1)).countP q = (l.take i).countP q + (if q l[i] then 1 else 0) := by
        rw [List.take_succ_eq_append_getElem hlt, List.countP_append, List.countP_singleton]
      have hcb : (l.take i).countP q ≤ i := Nat.le_trans List.countP_le_length (by rw [List.length_take]; omega)
      rw [hq1] at hts
      generalize l[i] = z at *
      have hcw := wrap_one ((l.take i).countP q) (by omega)
      by_cases ha : a ≤ (z : Int)
      · have da : decide ((z : Int) ≥ a) = true := decide_eq_true ha
        by_cases hb : (z : Int) < b
        · have db : decide ((z : Int) < b) = true := decide_eq_true hb
          have HT := hid (show (l.take (i + 1)).countP q = (l.take i).countP q + 1 by rw [hts, decide_eq_true ha, decide_eq_true hb]; rfl)
          clear hts
          go_wp2_with fail
          go_roundw
          case rel => exact ⟨i + 1, by omega, by go_num, by rw [HT.out]; go_num, hB⟩
          case measure => simp [intOf]; omega
        · have db : decide ((z : Int) < b) = false := decide_eq_false hb
          have HT := hid (show (l.take (i + 1)).countP q = (l.take i).countP q by rw [hts, decide_eq_true ha, decide_eq_false hb]; rfl)
          clear hts
          go_wp2_with fail
          go_roundw
          case rel => exact ⟨i + 1, by omega, by go_num, by rw [HT.out], hB⟩
          case measure => simp [intOf]; omega
      · have da : decide ((z : Int) ≥ a) = false := decide_eq_false ha
        have HT := hid (show (l.take (i + 1)).countP q = (l.take i).countP q by rw [hts, decide_eq_false ha]; rfl)
        clear hts
        go_wp2_with fail
        go_roundw
        case rel => exact ⟨i + 1, by omega, by go_num, by rw [HT.out], hB⟩
        case measure => simp [intOf]; omega
    · obtain rfl : i = l.length := by omega
      rw [List.take_length]
      have hki : ¬ ((l.length : Int) < (l.length : Int)) := by omega
      have hN := next_any s l B a wr (hs.below hB) (hTc.below hB) hr hFew
      have HP := hid (fun W (hW : Below w4.heap.size w4 W) => prev_any s l B a W (hs.below hW) (hTc.below hW) hr hFew)
      have HL := hid (fun z W (hW : Below w4.heap.size w4 W) => show Calls Tryd.prog 21 #[.pointer (some ⟨s, 0, none⟩), .int .i64 z] W (fun e w' => e = .returned (.int .i64 (clz l z : Nat)) ∧ Below W.heap.size W w') from less_any s l B z W (hs.below hW) (hTc.below hW) hr hFew)
      rw [oN_eq] at hN
      simp only [oN_eq] at HP
      have hcb := L.clz_le l b
      have hca := L.clz_le l a
      have hor : ∀ nf pf nb pb, (nf = oF (nxt l a) ∧ nb = oB (nxt l a)) → (pf = oF (prv l a) ∧ pb = oB (prv l a)) → (nb = true → a ≤ (nf : Int)) ∧ (pb = true → (pf : Int) ≤ a) ∧ (nb = false → pb = false → l.length = 0) := by
        rintro nf pf nb pb ⟨rfl, rfl⟩ ⟨rfl, rfl⟩
        refine ⟨fun h => ?_, fun h => ?_, fun h1 h2 => ?_⟩
        · cases hx : nxt l a with
          | none => rw [hx] at h; cases h
          | some y => exact nxt_ge hr.2.1 hx
        · cases hx : prv l a with
          | none => rw [hx] at h; cases h
          | some y => exact prv_le hr.2.1 hx
        · cases hx : nxt l a with
          | some y => rw [hx] at h1; cases h1
          | none => cases hy : prv l a with
            | some y => rw [hy] at h2; cases h2
            | none => exact Classical.byContradiction fun h => nxt_prv h hx hy
      have hor2 := hor _ _ _ _ ⟨rfl, rfl⟩ ⟨rfl, rfl⟩
      have HN := hid hN
      clear hor hN
      generalize oF (prv l a) = pf at *
      generalize oB (prv l a) = pb at *
      generalize oF (nxt l a) = nf at *
      generalize oB (nxt l a) = nb at *
      obtain ⟨ho1, ho2, ho3⟩ := hor2
      generalize l.countP q = cq at *
      have hsub : IntKind.i64.wrap ((clz l b : Int) - (clz l a : Int)) = (cq : Int) := by rw [IntKind.wrap_i64]; omega
      have hsub2 : (clz l b : Int) - (clz l a : Int) = (cq : Int) := by omega
      go_wp2_with fail
      refine (HN.out).mono ?_
      rintro e w5 ⟨rfl, hB5⟩
      have hBd := hB.trans (hB5.mono hzr)
      have hzd := hBd.size
      clear hB5
      go_wp2_with fail
      refine (HP.out _ hBd).mono ?_
      rintro e w6 ⟨rfl, hB6⟩
      have hBe := hBd.trans (hB6.mono hzd)
      have hze := hBe.size
      clear hB6
      go_wp2_with fail
      refine (HL.out _ _ hBe).mono ?_
      rintro e w7 ⟨rfl, hB7⟩
      have hBf := hBe.trans (hB7.mono hze)
      have hzf := hBf.size
      clear hB7
      go_wp2_with fail
      refine (HL.out _ _ hBf).mono ?_
      rintro e w8 ⟨rfl, hB8⟩
      have hBg := hBf.trans (hB8.mono hzf)
      clear hB8
      cases nb <;> cases pb
      case' false.false =>
        have h0 := ho3 rfl rfl
        have d0 : decide ((l.length : Int) = 0) = true := decide_eq_true (by omega)
      case' false.true =>
        have h0 := ho2 rfl
        have d0 : decide ((pf : Int) ≤ a) = true := decide_eq_true (by omega)
      case' true.false =>
        have h0 := ho1 rfl
        have d0 : decide ((nf : Int) ≥ a) = true := decide_eq_true (by omega)
      case' true.true =>
        have h0 := ho1 rfl
        have d0 : decide ((nf : Int) ≥ a) = true := decide_eq_true (by omega)
        have h1 := ho2 rfl
        have d1 : decide ((pf : Int) ≤ a) = true := decide_eq_true (by omega)
      all_goals (
        clear ho1 ho2 ho3
        go_wp2_with fail
        go_ret
        exact ⟨rfl, hBc.trans (hBg.mono hzc)⟩)

theorem lawFanoBetween_any (A : Option Addr) (c : Nat) (zs : List Int) (B x y : Int) (w : World) (hl : Lst w A (ints zs)) (hB : B ≤ 9223372036854775807) (hT : Tab w) :
    Calls Tryd.prog 5 #[.slice A zs.length c, .int .i64 B, .agg #[.int .i64 x, .int .i64 y]] w fun e w' => e = .returned (.bool true) ∧ Below w.heap.size w w' := by
  cases hf : fewB zs.length B with
  | false => exact lawFanoBetween_many A _ c B x y w hB hf hT
  | true =>
    by_cases hr : RightZ zs B
    · obtain ⟨l, b, rfl, rfl, hN, hlt⟩ := rightZ_nat hr
      rw [List.length_map] at hf ⊢
      rw [ints_nat] at hl
      exact lawFanoBetween_true A c l b x y w hl hT hN hf
    · have := fewB_le hf
      exact lawFanoBetween_wrong A c zs B x y w hl (by omega) hB hf hr hT
end Go.Proofs.YtlpnbkfcbamnbaaDoor
