/- Walks: the law NestSums returns true. -/
import Derived.Test.YtlpnbkfcbamnbaaDoorLawNestB
import Derived.Test.YtlpnbkfcbamnbaaDoorNestD
set_option linter.unusedVariables false
set_option linter.unusedSimpArgs false
set_option maxRecDepth 100000
namespace Go.Proofs.YtlpnbkfcbamnbaaDoor
open Go.RowKit L

/-- Children of the nodes ahead of a place, and roots. -/
def L.sU (bs : List Bool) (q : Nat) : Nat := cU (bitAt bs) bs.length q + cT (bitAt bs) q
theorem L.sU_succ (bs : List Bool) (q : Nat) : sU bs (q + 1) = sU bs q + kids (bitAt bs) bs.length q + (bitAt bs q && decide (e0 (bitAt bs) q = 0)).toNat := by
  have e : cT (bitAt bs) (q + 1) = cT (bitAt bs) q + (bitAt bs q && decide (e0 (bitAt bs) q = 0)).toNat := rfl
  unfold sU; rw [cU_succ, e]; omega
theorem L.sU_mono (bs : List Bool) (q : Nat) : ∀ k, sU bs q ≤ sU bs (q + k)
  | 0 => Nat.le_refl _
  | k + 1 => by have h1 := sU_mono bs q k; have h2 := sU_succ bs (q + k); rw [← Nat.add_assoc]; omega
theorem L.sU_all {bs : List Bool} (b : Bal (bitAt bs) bs.length) : sU bs bs.length = kc true bs bs.length := by
  unfold sU; rw [cU_all b, kc_cP bs _ (Nat.le_refl _)]
theorem L.sU_gap {bs : List Bool} (b : Bal (bitAt bs) bs.length) (p : Nat) : ∀ k, p + k ≤ bs.length → kc true bs (p + k) = kc true bs p → sU bs (p + k) = sU bs p
  | 0, _, _ => rfl
  | k + 1, h, he => by
    have h1 := kc_mono true bs (show p ≤ p + k by omega)
    have h2 := kc_next true bs (p + k) (by omega)
    rw [show p + (k + 1) = p + k + 1 from rfl] at *
    have h3 : bitAt bs (p + k) = false := by
      cases hb : bitAt bs (p + k) with
      | false => rfl
      | true => rw [hb] at h2; simp at h2; omega
    rw [sU_succ, kids_not b h3, h3, sU_gap b p k (by omega) (by rw [h3] at h2; simp at h2; omega)]
    rfl
theorem L.sU_eq {bs : List Bool} (b : Bal (bitAt bs) bs.length) {p q : Nat} (hp : p ≤ bs.length) (hq : q ≤ bs.length) (h : kc true bs p = kc true bs q) : sU bs p = sU bs q := by
  rcases Nat.le_total p q with e | e
  · have := sU_gap b p (q - p) (by omega) (by rw [show p + (q - p) = q from by omega]; exact h.symm)
    rw [show p + (q - p) = q from by omega] at this; exact this.symm
  · have := sU_gap b q (p - q) (by omega) (by rw [show q + (p - q) = p from by omega]; exact h)
    rwa [show q + (p - q) = p from by omega] at this
theorem L.bal_nodes {bs : List Bool} (b : Bal (bitAt bs) bs.length) : 2 * kc true bs bs.length = bs.length := by
  have h1 := e0_cP (bitAt bs) bs.length
  rw [b.all] at h1
  rw [kc_cP bs _ (Nat.le_refl _)]; omega

set_option maxHeartbeats 2000000 in
theorem lawNestSums_not (A : Option Addr) (c : Nat) (bs : List Bool) (w : World) (hl : Lst w A (bools bs)) (h : (decide (bs.length ≤ 1000) && bal (bitAt bs) bs.length) = false) :
    Calls Tryd.prog 8 #[.slice A bs.length c] w fun e w' => e = .returned (.bool true) ∧ Below w.heap.size w w' := by
  by_cases h1 : 1000 < bs.length
  · have g1N : (1000 : Int) < (bs.length : Int) := by omega
    go_enter Tryd.func8, Tryd.ntmps8
    go_wp2_with fail
    refine (awake8 _).mono ?_
    rintro e w1 ⟨rfl, hB1⟩
    go_wp2_with fail
    refine (awake8 _).mono ?_
    rintro e w2 ⟨rfl, hB2⟩
    go_wp2_with fail
    go_ret
    exact ⟨rfl, hB1.trans (hB2.mono hB1.size)⟩
  · have g1N : ¬ ((1000 : Int) < (bs.length : Int)) := by omega
    have HRB := hid (fun W (hW : Lst W A (bools bs)) => refBalanced_any A c bs W hW (by omega))
    have hb : bal (bitAt bs) bs.length = false := by rw [decide_eq_true (show bs.length ≤ 1000 by omega)] at h; simpa using h
    rw [hb] at HRB
    clear hb h
    go_enter Tryd.func8, Tryd.ntmps8
    go_wp2_with fail
    refine (awake8 _).mono ?_
    rintro e w1 ⟨rfl, hB1⟩
    go_wp2_with fail
    refine (HRB.out _ (hl.below hB1)).mono ?_
    rintro e w' ⟨rfl, rfl⟩
    go_wp2_with fail
    refine (awake8 _).mono ?_
    rintro e w2 ⟨rfl, hB2⟩
    go_wp2_with fail
    go_ret
    exact ⟨rfl, hB1.trans (hB2.mono hB1.size)⟩

set_option maxHeartbeats 4000000 in
theorem lawNestSums_true (A : Option Addr) (c : Nat) (bs : List Bool) (w : World) (hl : Lst w A (bools bs)) (hT : Tab w) (h1 : bs.length ≤ 1000) (hbal : bal (bitAt bs) bs.length = true) :
    Calls Tryd.prog 8 #[.slice A bs.length c] w fun e w' => e = .returned (.bool true) ∧ Below w.heap.size w w' := by
  have g1N : ¬ ((1000 : Int) < (bs.length : Int)) := by omega
  have HRB := hid (fun W (hW : Lst W A (bools bs)) => refBalanced_any A c bs W hW (by omega))
  rw [hbal] at HRB
  have HNW := hid (fun gx A c W hW => nestNew_any gx A c bs W hW hbal)
  have B := Bal.of hbal
  clear hbal
  have HNN := hid (fun s W hs => nNodes_any s bs W hs)
  have HSA := hid (sU_all B)
  have hnod := bal_nodes B
  obtain ⟨N, hN⟩ : ∃ N, N = kc true bs bs.length := ⟨_, rfl⟩
  rw [← hN] at HNN HSA hnod
  have HN := hid hN
  have HBB := hid B
  have HC := hid (fun s W u (hu : bitAt bs u = true) hs => nCount_at s bs u W hs B hu)
  have HI := hid (fun s W k p hs hT (hp : bitAt bs p = true) hk => nNode_at s bs k p W hs hT hp hk)
  have HD := hid (fun s W u (hu : bitAt bs u = true) hs => (show Calls Tryd.prog 35 #[.pointer (some ⟨s, 0, none⟩), .int .i64 (u : Nat)] W fun e w' => e = .returned (.tuple #[.int .i64 (e0 (bitAt bs) u), .int .i64 0]) ∧ ∃ m, w' = W.drewN m from nDepth_at s bs u W hs hu))
  clear hN B
  go_enter Tryd.func8, Tryd.ntmps8
  go_wp2_with fail
  refine (awake8 _).mono ?_
  rintro e w1 ⟨rfl, hB1⟩
  have hz1 := hB1.size
  go_wp2_with fail
  refine (HRB.out _ (hl.below hB1)).mono ?_
  rintro e w' ⟨rfl, rfl⟩
  go_wp2_with fail
  refine (made_any A c bs _ (hl.below hB1) (by omega)).mono ?_
  rintro e w2 ⟨gx, Ax, cx', rfl, hr2, _, _, hB2⟩
  have hBb := hB1.trans (hB2.mono hz1)
  have hzb := hBb.size
  go_wp2_with fail
  refine (HNW.out gx Ax cx' w2 hr2).mono ?_
  rintro e w3 ⟨s, rfl, hs3, hB3⟩
  have hBc := hBb.trans (hB3.mono hzb)
  have hzc := hBc.size
  have hT3 := hT.below hBc
  clear hB1 hB2 hB3 hBb hr2 hz1 hzb
  go_wp2_with fail
  go_loopw [5, 6] (fun nv kv wr => ∃ (k q : Nat), k ≤ N ∧ q ≤ bs.length ∧ nv = .int .i64 (sU bs q : Nat) ∧ kv = .int .i64 (k : Nat) ∧ Hid (kc true bs q = k) ∧ Below w3.heap.size w3 wr) (fun _ kv _ => N - (intOf kv).toNat)
  case atStart => exact ⟨0, 0, Nat.zero_le _, Nat.zero_le _, by rw [show sU bs 0 = 0 from by unfold sU; rw [cU_zero]; rfl]; rfl, rfl, hid rfl, Below.refl _ _⟩
  case round =>
    obtain ⟨k, q, hk, hq, rfl, rfl, HK, hB⟩ := hrel
    have hsr := hs3.below hB
    have hzr := hB.size
    rcases Nat.lt_or_ge k N with hlt | hge
    · obtain ⟨p, p1, p2, p3, p4⟩ := kc_exists true bs k bs.length (by rw [← HN.out]; exact hlt)
      have hltI : (k : Int) < (N : Int) := by omega
      have hSe : sU bs q = sU bs p := sU_eq HBB.out hq (by omega) (by rw [HK.out, p4])
      have hSs := sU_succ bs p
      rw [p3] at hSs
      have hSl : sU bs (p + 1) ≤ N := by rw [← HSA.out]; have := sU_mono bs (p + 1) (bs.length - (p + 1)); rwa [show p + 1 + (bs.length - (p + 1)) = bs.length from by omega] at this
      have hK1 : kc true bs (p + 1) = k + 1 := by rw [kc_next true bs p p2, p3, p4]; rfl
      have HK1 := hid hK1
      have HP3 := hid p3
      have HP4 := hid p4
      rw [hSe]
      have HCp := hid (fun W hs => HC.out s W p p3 hs)
      have HDp := hid (fun W hs => HD.out s W p p3 hs)
      have HIp := hid (HI.out s wr k p hsr (hT3.below hB) p3 p4)
      have hcl : sU bs p + kids (bitAt bs) bs.length p ≤ N := by omega
      have hN1 : N ≤ 1000 := by omega
      generalize kids (bitAt bs) bs.length p = cc at *
      rcases Int.decEq (e0 (bitAt bs) p) 0 with hd | hd
      · have hSn : sU bs (p + 1) = sU bs p + cc := by rw [hSs, decide_eq_false hd]; rfl
        have HSN := hid hSn
        generalize e0 (bitAt bs) p = dd at *
        have hdN : (dd == 0) = false := by rw [beq_eq_false_iff_ne]; exact hd
        clear hSe hSs p1 p3 p4 hK1 hSn
        generalize sU bs p = S at *
        go_wp2_with fail
        refine (HNN.out s _ hsr).mono ?_
        rintro e w' ⟨rfl, rfl⟩
        go_wp2_with fail
        refine (HIp.out).mono ?_
        rintro e w5 ⟨rfl, hB5⟩
        have hs5 := hsr.below hB5
        have hz5 := hB5.size
        go_wp2_with fail
        refine (HCp.out _ hs5).mono ?_
        rintro e w6 ⟨rfl, hB6⟩
        have hs6 := hs5.below hB6
        have hBn := hB.trans ((hB5.mono hzr).trans (hB6.mono (by omega)))
        go_wp2_with fail
        refine (HDp.out _ hs6).mono ?_
        rintro e w7 ⟨rfl, m7, rfl⟩
        go_wp2_with fail
        exact ⟨⟨k + 1, p + 1, by omega, by omega, by rw [HSN.out]; first | rfl | go_num, by go_num, HK1, below_drewN hBn _⟩, by simp [intOf]; omega⟩
      · have hSn : sU bs (p + 1) = sU bs p + cc + 1 := by rw [hSs, decide_eq_true hd]; rfl
        have HSN := hid hSn
        rw [hd] at HDp
        clear hSe hSs p1 p3 p4 hK1 hd
        have hSb : sU bs p + cc + 1 ≤ 1000 := by omega
        clear hSn
        generalize sU bs p = S at *
        go_wp2_with fail
        refine (HNN.out s _ hsr).mono ?_
        rintro e w' ⟨rfl, rfl⟩
        go_wp2_with fail
        refine (HIp.out).mono ?_
        rintro e w5 ⟨rfl, hB5⟩
        have hs5 := hsr.below hB5
        have hz5 := hB5.size
        go_wp2_with fail
        refine (HCp.out _ hs5).mono ?_
        rintro e w6 ⟨rfl, hB6⟩
        have hs6 := hs5.below hB6
        have hBn := hB.trans ((hB5.mono hzr).trans (hB6.mono (by omega)))
        go_wp2_with fail
        refine (HDp.out _ hs6).mono ?_
        rintro e w7 ⟨rfl, m7, rfl⟩
        go_wp2_with fail
        exact ⟨⟨k + 1, p + 1, by omega, by omega, by rw [HSN.out]; first | rfl | go_num, by go_num, HK1, below_drewN hBn _⟩, by simp [intOf]; omega⟩
    · obtain rfl : k = N := by omega
      have hltI : ¬ ((k : Int) < (k : Int)) := by omega
      have hSq : sU bs q = k := by rw [← HSA.out]; exact sU_eq HBB.out hq (Nat.le_refl _) (by rw [HK.out]; exact HN.out)
      rw [hSq]
      have hh : (bs.length : Int) / 2 = (k : Int) := by omega
      go_wp2_with fail
      refine (HNN.out s _ hsr).mono ?_
      rintro e w' ⟨rfl, rfl⟩
      go_wp2_with fail
      refine (HNN.out s _ hsr).mono ?_
      rintro e w' ⟨rfl, rfl⟩
      go_wp2_with fail
      go_ret
      exact ⟨by first | rfl | simp [hh], hBc.trans (hB.mono hzc)⟩

theorem lawNestSums_any (A : Option Addr) (c : Nat) (bs : List Bool) (w : World) (hl : Lst w A (bools bs)) (hT : Tab w) :
    Calls Tryd.prog 8 #[.slice A bs.length c] w fun e w' => e = .returned (.bool true) ∧ Below w.heap.size w w' := by
  cases h : (decide (bs.length ≤ 1000) && bal (bitAt bs) bs.length) with
  | true =>
    simp only [Bool.and_eq_true, decide_eq_true_eq] at h
    exact lawNestSums_true A c bs w hl hT h.1 h.2
  | false => exact lawNestSums_not A c bs w hl h
end Go.Proofs.YtlpnbkfcbamnbaaDoor
