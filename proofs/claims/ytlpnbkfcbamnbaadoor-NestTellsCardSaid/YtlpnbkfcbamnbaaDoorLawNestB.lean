/- Walks: the law NestInside returns true. -/
import Derived.Test.YtlpnbkfcbamnbaaDoorLawNestA
import Derived.Test.YtlpnbkfcbamnbaaDoorNestB
import Derived.Test.YtlpnbkfcbamnbaaDoorParenP
set_option linter.unusedVariables false
set_option linter.unusedSimpArgs false
set_option maxRecDepth 100000
namespace Go.Proofs.YtlpnbkfcbamnbaaDoor
open Go.RowKit L

/-- What NestInside asks: a balanced row, not too long, not empty. -/
def insB (bs : List Bool) : Bool := decide (bs.length ≤ 1000) && bal (bitAt bs) bs.length && decide (bs.length ≠ 0)

set_option maxHeartbeats 2000000 in
theorem lawNestInside_not (A : Option Addr) (c : Nat) (bs : List Bool) (a b : Int) (w : World) (hl : Lst w A (bools bs)) (hT : Tab w) (h : insB bs = false) :
    Calls Tryd.prog 11 #[.slice A bs.length c, .int .u16 a, .int .u16 b] w fun e w' => e = .returned (.bool true) ∧ Below w.heap.size w w' := by
  by_cases h1 : 1000 < bs.length
  · have g1 : decide ((bs.length : Int) > 1000) = true := decide_eq_true (by omega)
    have g1N : (1000 : Int) < (bs.length : Int) := by omega
    go_enter Tryd.func11, Tryd.ntmps11
    go_wp2_with fail
    refine (awake8 _).mono ?_
    rintro e w1 ⟨rfl, hB1⟩
    go_wp2_with fail
    refine (awake8 _).mono ?_
    rintro e w2 ⟨rfl, hB2⟩
    go_wp2_with fail
    go_ret
    exact ⟨rfl, hB1.trans (hB2.mono hB1.size)⟩
  · have g1N : ¬ ((1000 : Int) < (bs.length : Int)) := by omega
    have HRB := hid (fun W (hW : Lst W A (bools bs)) => refBalanced_any A c bs W hW (by omega))
    cases hb : bal (bitAt bs) bs.length with
    | false =>
      rw [hb] at HRB
      clear hb h
      go_enter Tryd.func11, Tryd.ntmps11
      go_wp2_with fail
      refine (awake8 _).mono ?_
      rintro e w1 ⟨rfl, hB1⟩
      go_wp2_with fail
      refine (HRB.out _ (hl.below hB1)).mono ?_
      rintro e w' ⟨rfl, rfl⟩
      go_wp2_with fail
      refine (awake8 _).mono ?_
      rintro e w2 ⟨rfl, hB2⟩
      go_wp2_with fail
      go_ret
      exact ⟨rfl, hB1.trans (hB2.mono hB1.size)⟩
    | true =>
      rw [hb] at HRB
      have h0 : bs.length = 0 := by
        unfold insB at h
        rw [hb] at h
        simp at h
        rcases Nat.eq_zero_or_pos bs.length with h2 | h2
        · exact h2
        · exact absurd (h (by omega)) (by intro e; rw [e] at h2; simp at h2)
      have g2 : ((bs.length : Int) == 0) = true := by rw [beq_iff_eq]; omega
      clear hb h
      generalize bs.length = n at *
      subst h0
      go_enter Tryd.func11, Tryd.ntmps11
      go_wp2_with fail
      refine (awake8 _).mono ?_
      rintro e w1 ⟨rfl, hB1⟩
      go_wp2_with fail
      refine (HRB.out _ (hl.below hB1)).mono ?_
      rintro e w' ⟨rfl, rfl⟩
      go_wp2_with fail
      refine (awake8 _).mono ?_
      rintro e w2 ⟨rfl, hB2⟩
      go_wp2_with fail
      go_ret
      exact ⟨rfl, hB1.trans (hB2.mono hB1.size)⟩

set_option maxHeartbeats 4000000 in
theorem lawNestInside_true (A : Option Addr) (c : Nat) (bs : List Bool) (a b : Nat) (w : World) (hl : Lst w A (bools bs)) (hT : Tab w) (h : insB bs = true) (ha : a < 65536) (hb : b < 65536) :
    Calls Tryd.prog 11 #[.slice A bs.length c, .int .u16 (a : Nat), .int .u16 (b : Nat)] w fun e w' => e = .returned (.bool true) ∧ Below w.heap.size w w' := by
  unfold insB at h
  simp only [Bool.and_eq_true, decide_eq_true_eq] at h
  obtain ⟨⟨h1, hbal⟩, h0⟩ := h
  have g1N : ¬ ((1000 : Int) < (bs.length : Int)) := by omega
  have g2 : ((bs.length : Int) == 0) = false := by rw [beq_eq_false_iff_ne]; omega
  have HRB := hid (fun W (hW : Lst W A (bools bs)) => refBalanced_any A c bs W hW (by omega))
  rw [hbal] at HRB
  have HNW := hid (fun gx A c W hW => nestNew_any gx A c bs W hW hbal)
  have B := Bal.of hbal
  clear hbal
  have HNN := hid (fun s W hs => nNodes_any s bs W hs)
  -- there is a node
  have hpos : 0 < kc true bs bs.length := by
    refine Nat.pos_of_ne_zero fun hz => ?_
    have hf : bitAt bs 0 = true := by
      have h2 := e0_node (bitAt bs) 0
      have h3 := B.nonneg 1 (by omega)
      rw [e0_zero] at h2
      cases hf : bitAt bs 0 with
      | true => rfl
      | false => rw [hf] at h2; simp at h2; omega
    have := kc_step true bs 0 bs.length (by omega) (by omega) hf
    omega
  have hkl := kc_le true bs bs.length
  obtain ⟨N, hN⟩ : ∃ N, N = kc true bs bs.length := ⟨_, rfl⟩
  rw [← hN] at HNN hpos hkl
  obtain ⟨pi, hpi1, hpi2, hpi3, hpi4⟩ := kc_exists true bs (a % N) bs.length (by rw [← hN]; exact Nat.mod_lt _ hpos)
  obtain ⟨pk, hpk1, hpk2, hpk3, hpk4⟩ := kc_exists true bs (b % N) bs.length (by rw [← hN]; exact Nat.mod_lt _ hpos)
  have HI := hid (fun s W hs hT => nNode_at s bs (a % N) pi W hs hT hpi3 hpi4)
  have HK := hid (fun s W hs hT => nNode_at s bs (b % N) pk W hs hT hpk3 hpk4)
  have hN0 : ((N : Int) == 0) = false := by rw [beq_eq_false_iff_ne]; omega
  have hN0N : ¬ N = 0 := by omega
  have haw : IntKind.i64.wrap (a : Int) = (a : Int) := by rw [IntKind.wrap_i64]; omega
  have hbw : IntKind.i64.wrap (b : Int) = (b : Int) := by rw [IntKind.wrap_i64]; omega
  have haN : (a : Int) % (N : Int) = ((a % N : Nat) : Int) := by norm_cast
  have hbN : (b : Int) % (N : Int) = ((b % N : Nat) : Int) := by norm_cast
  have hal : a % N < N := Nat.mod_lt _ hpos
  have hbl : b % N < N := Nat.mod_lt _ hpos
  have hq1 : IntKind.i64.wrap ((a % N : Nat) : Int) = ((a % N : Nat) : Int) := by rw [IntKind.wrap_i64]; omega
  have hq2 : IntKind.i64.wrap ((b % N : Nat) : Int) = ((b % N : Nat) : Int) := by rw [IntKind.wrap_i64]; omega
  generalize a % N = a1 at *
  generalize b % N = b1 at *
  obtain ⟨x, hx⟩ : ∃ x, x = min pi pk := ⟨_, rfl⟩
  obtain ⟨y, hy⟩ : ∃ y, y = max pi pk := ⟨_, rfl⟩
  have hmin : min (pi : Int) (pk : Int) = (x : Int) := by omega
  have hmax : max (pi : Int) (pk : Int) = (y : Int) := by omega
  have hfx : bitAt bs x = true := by rcases Nat.le_total pi pk with h | h <;> (first | (rw [hx, Nat.min_eq_left h]; exact hpi3) | (rw [hx, Nat.min_eq_right h]; exact hpk3))
  have hfy : bitAt bs y = true := by rcases Nat.le_total pi pk with h | h <;> (first | (rw [hy, Nat.max_eq_right h]; exact hpk3) | (rw [hy, Nat.max_eq_left h]; exact hpi3))
  have hxy : x ≤ y := by omega
  have hxn : x < bs.length := by omega
  have hyn : y < bs.length := by omega
  clear hx hy hpi1 hpi2 hpi3 hpi4 hpk1 hpk2 hpk3 hpk4 hN
  obtain ⟨mx, x1, x2, x3, x4, x5, x6, _⟩ := B.close hfx hxn
  obtain ⟨my, y1, y2, y3, y4, y5, y6, _⟩ := B.close hfy hyn
  have hmm0 : x = y → mx = my := fun e => by subst e; omega
  have HCX := hid (fun s W hs => nClose_at s bs x W hs hfx)
  have HCY := hid (fun s W hs => nClose_at s bs y W hs hfy)
  rw [x3] at HCX
  rw [y3] at HCY
  have HDX := hid (fun s W hs => nDepth_at s bs x W hs hfx)
  have HDY := hid (fun s W hs => nDepth_at s bs y W hs hfy)
  have HBB := hid B
  have HX5 := hid x5
  have HY5 := hid y5
  have HX4 := hid x4
  have HY4 := hid y4
  have HPA := hid (fun s W u (hu : bitAt bs u = true) hs => (⟨fun (j : Nat) hj => nParent_at s bs u j W hs hu hj, fun hj => nParent_none s bs u W hs hu hj⟩ : (∀ j : Nat, backN (bitAt bs) 0 u 1 = (j : Int) → _) ∧ (backN (bitAt bs) 0 u 1 = -1 → _)))
  have he : ∀ q, eb (bitAt bs) 0 q = e0 (bitAt bs) q := fun _ => rfl
  have HXE := hid (B.nonneg x (by omega))
  have HYH := hid (B.half y (by omega))
  clear x3 x4 x5 x6 y3 y4 y5 y6 he B
  obtain ⟨dx, hdx⟩ : ∃ dx, e0 (bitAt bs) x = dx := ⟨_, rfl⟩
  obtain ⟨dy, hdy⟩ : ∃ dy, e0 (bitAt bs) y = dy := ⟨_, rfl⟩
  rw [show eb (bitAt bs) 0 x = dx from hdx] at HDX
  rw [show eb (bitAt bs) 0 y = dy from hdy] at HDY
  have HDXE := hid hdx
  have HDYE := hid hdy
  clear hdx hdy
  go_enter Tryd.func11, Tryd.ntmps11
  go_wp2_with fail
  refine (awake8 _).mono ?_
  rintro e w1 ⟨rfl, hB1⟩
  have hz1 := hB1.size
  go_wp2_with fail
  refine (HRB.out _ (hl.below hB1)).mono ?_
  rintro e w' ⟨rfl, rfl⟩
  go_wp2_with fail
  refine (made_any A c bs _ (hl.below hB1) (by omega)).mono ?_
  rintro e w2 ⟨gx, Ax, cx', rfl, hr2, _, _, hB2⟩
  have hBb := hB1.trans (hB2.mono hz1)
  have hzb := hBb.size
  go_wp2_with fail
  refine (HNW.out gx Ax cx' w2 hr2).mono ?_
  rintro e w3 ⟨s, rfl, hs3, hB3⟩
  have hBc := hBb.trans (hB3.mono hzb)
  have hzc := hBc.size
  go_wp2_with fail
  refine (HNN.out s _ hs3).mono ?_
  rintro e w' ⟨rfl, rfl⟩
  go_wp2_with fail
  refine (HI.out s _ hs3 (hT.below hBc)).mono ?_
  rintro e w4 ⟨rfl, hB4⟩
  have hs4 := hs3.below hB4
  have hBd := hBc.trans (hB4.mono hzc)
  have hzd := hBd.size
  go_wp2_with fail
  refine (HNN.out s _ hs4).mono ?_
  rintro e w' ⟨rfl, rfl⟩
  go_wp2_with fail
  refine (HK.out s _ hs4 (hT.below hBd)).mono ?_
  rintro e w5 ⟨rfl, hB5⟩
  have hs5 := hs4.below hB5
  have hBe := hBd.trans (hB5.mono hzd)
  clear hB1 hB2 hB3 hB4 hB5 hBb hBc hBd hr2 hs3 hs4 hz1 hzb hzc hzd
  go_wp2_with fail
  refine (HCX.out s _ hs5).mono ?_
  rintro e w' ⟨rfl, m1, rfl⟩
  go_wp2_with fail
  refine (HCY.out s _ (by exact hs5)).mono ?_
  rintro e w' ⟨rfl, m2, rfl⟩
  go_wp2_with fail
  refine (HDX.out s _ (by exact hs5)).mono ?_
  rintro e w' ⟨rfl, m3, rfl⟩
  go_wp2_with fail
  refine (HDY.out s _ (by exact hs5)).mono ?_
  rintro e w' ⟨rfl, m4, rfl⟩
  go_wp2_with fail
  go_loopw [23, 24] (fun uv nv wr => ∃ (u k m : Nat), uv = .int .i64 (u : Nat) ∧ nv = .int .i64 (k : Nat) ∧ wr = w5.drewN m ∧ u ≤ y ∧ k ≤ 600 ∧ Hid (Enc (bitAt bs) u y) ∧ Hid ((k : Int) + e0 (bitAt bs) u = e0 (bitAt bs) y) ∧ Hid (my < mx → x ≤ u)) (fun uv _ _ => (intOf uv).toNat)
  case atStart => exact ⟨y, 0, m1 + m2 + m3 + m4, rfl, rfl, by first | rfl | simp [World.drewN_drewN], by omega, by omega, hid (Enc.refl hfy), hid (by omega), hid (fun _ => hxy)⟩
  case round =>
    obtain ⟨u, k, m, rfl, rfl, rfl, huy, hk6, HEN, HKE, HXU⟩ := hrel
    have hfu : bitAt bs u = true := HEN.out.2.1
    have hu0 := HBB.out.nonneg u (by omega)
    have hke := HKE.out
    have hyh := HYH.out
    have hk5 : k < 600 := by omega
    have hkI : (k : Int) < 600 := by omega
    have hse : NestAt (w5.drewN m) s bs := by exact hs5
    rcases Nat.lt_or_ge x u with hlt | hge
    · have hltI : (x : Int) < (u : Int) := by omega
      have hins : mx ≤ my → mx ≤ y := fun hc => Classical.byContradiction fun hn => by
        have := HBB.out.inside hfy (show x < y by omega) (by omega) x2 HX4.out HX5.out y1 HY4.out HY5.out
        omega
      rcases HBB.out.parent hfu (by omega) with ⟨p1, p2⟩ | ⟨j, j1, j2, j3, j4, j5⟩
      · have hmm : mx ≤ my := Classical.byContradiction fun hn => by
          have h1 := HX5.out u hlt (by omega)
          have h2 := HXE.out
          omega
        have hmy := hins hmm
        have g1 : ¬ ((my : Int) - 1 < (mx : Int) - 1) := by omega
        have g2 : (mx : Int) - 1 < (y : Int) := by omega
        have g3 : ¬ u = x := by omega
        have g4 : ((u : Int) == (x : Int)) = false := by rw [beq_eq_false_iff_ne]; omega
        have HP := hid ((HPA.out s (w5.drewN m) u hfu hse).2 p1)
        clear hke hyh p1 p2 hu0 hfu hins
        go_wp2_with fail
        refine (HP.out).mono ?_
        rintro e w' ⟨rfl, m5, rfl⟩
        go_wp2_with fail
        go_ret
        exact ⟨rfl, by first | exact hBe | exact below_drewN hBe _ | exact below_drewN (below_drewN hBe _) _⟩
      · have HP := hid ((HPA.out s (w5.drewN m) u hfu hse).1 j j2)
        have hE2 : Enc (bitAt bs) j y := HEN.out.up j1 j3 j4 j5
        have hx2 : my < mx → x ≤ j := fun hm => Classical.byContradiction fun hn => by
          have h1 := HX5.out u hlt (by omega)
          have h2 := j5 x (by omega) (by omega)
          omega
        have HE2 := hid hE2
        have HX2 := hid hx2
        have HK2 := hid (show ((k + 1 : Nat) : Int) + e0 (bitAt bs) j = e0 (bitAt bs) y by omega)
        clear hke hyh hu0 hfu hins j2 j3 j4 j5 hE2 hx2
        go_wp2_with fail
        refine (HP.out).mono ?_
        rintro e w' ⟨rfl, m5, rfl⟩
        go_wp2_with fail
        exact ⟨⟨j, k + 1, m + m5, rfl, by go_num, by first | rfl | simp [World.drewN_drewN], by omega, by omega, HE2, HK2, HX2⟩, by simp [intOf]; omega⟩
    · have hgeI : ¬ ((x : Int) < (u : Int)) := by omega
      rcases Nat.lt_or_ge my mx with hm | hm
      · obtain rfl : u = x := by have := HXU.out hm; omega
        have hxy2 : u < y := by
          rcases Nat.eq_or_lt_of_le hxy with h | h
          · have := hmm0 h; omega
          · exact h
        have h1 := HX5.out y hxy2 (by omega)
        rw [HDXE.out, HDYE.out] at h1
        have g1 : (my : Int) - 1 < (mx : Int) - 1 := by omega
        clear hke hyh hu0 hfu
        go_wp2_with fail
        go_ret
        exact ⟨rfl, by first | exact hBe | exact below_drewN hBe _ | exact below_drewN (below_drewN hBe _) _⟩
      · have g1 : ¬ ((my : Int) - 1 < (mx : Int) - 1) := by omega
        rcases Nat.eq_or_lt_of_le hxy with h | h
        · subst h
          have g2 : ¬ ((mx : Int) - 1 < (x : Int)) := by omega
          clear hke hyh hu0 hfu
          go_wp2_with fail
          go_ret
          exact ⟨rfl, by first | exact hBe | exact below_drewN hBe _ | exact below_drewN (below_drewN hBe _) _⟩
        · have hmy : mx ≤ y := Classical.byContradiction fun hn => by
            have := HBB.out.inside hfy h (by omega) x2 HX4.out HX5.out y1 HY4.out HY5.out
            omega
          have hux : ¬ u = x := fun e => by
            subst e
            have h1 := HEN.out.2.2 mx (by omega) hmy
            have h2 := HX4.out
            omega
          have g2 : (mx : Int) - 1 < (y : Int) := by omega
          have g4 : ((u : Int) == (x : Int)) = false := by rw [beq_eq_false_iff_ne]; omega
          clear hke hyh hu0 hfu
          go_wp2_with fail
          go_ret
          exact ⟨rfl, by first | exact hBe | exact below_drewN hBe _ | exact below_drewN (below_drewN hBe _) _⟩

theorem lawNestInside_any (A : Option Addr) (c : Nat) (bs : List Bool) (a b : Nat) (w : World) (hl : Lst w A (bools bs)) (hT : Tab w) (ha : a < 65536) (hb : b < 65536) :
    Calls Tryd.prog 11 #[.slice A bs.length c, .int .u16 (a : Nat), .int .u16 (b : Nat)] w fun e w' => e = .returned (.bool true) ∧ Below w.heap.size w w' := by
  cases h : insB bs with
  | true => exact lawNestInside_true A c bs a b w hl hT h ha hb
  | false => exact lawNestInside_not A c bs a b w hl hT h
end Go.Proofs.YtlpnbkfcbamnbaaDoor
