/- Walks: the law NestTells returns true. -/
import Derived.Test.YtlpnbkfcbamnbaaDoorNestN
import Derived.Test.YtlpnbkfcbamnbaaDoorLawNestA
import Derived.Test.YtlpnbkfcbamnbaaDoorLawNestB
set_option linter.unusedVariables false
set_option linter.unusedSimpArgs false
set_option maxRecDepth 100000
namespace Go.Proofs.YtlpnbkfcbamnbaaDoor
open Go.RowKit L

theorem refNumber_any (A : Option Addr) (c : Nat) (bs : List Bool) (L : List Nd) (x : Int) (w : World) (hL : LOk bs L) (hl : NdAt w A L) (hsm : bs.length ≤ 4000) :
    Calls Tryd.prog 51 #[.slice A L.length c, .int .i64 x] w fun e w' => ∃ m : Int, e = .returned (.int .i64 m) ∧ ((∃ u, bitAt bs u = true ∧ x = (u : Nat) ∧ m = (cP (bitAt bs) u : Nat)) ∨ (rowBit bs x = false ∧ m < 0)) ∧ w = w' := by
  have hLl : L.length ≤ 4000 := by rw [hL.len]; have := cP_le (bitAt bs) bs.length; omega
  have hall : ∀ (k : Nat) (d : Nd), L[k]? = some d → ∃ v, v < bs.length ∧ bitAt bs v = true ∧ d.at' = (v : Int) := fun k d h => by
    have hk := (List.getElem?_eq_some_iff.1 h).1
    rw [hL.len] at hk
    obtain ⟨v, v1, v2, v3⟩ := cP_ex (bitAt bs) bs.length k hk
    have h2 := hL.nd v v1 v2
    rw [v3, h] at h2
    injection h2 with h2
    exact ⟨v, v1, v2, by rw [h2]; rfl⟩
  cases hx : rowBit bs x with
  | true =>
    obtain ⟨u, rfl⟩ : ∃ u : Nat, x = u := by
      refine ⟨x.toNat, ?_⟩
      unfold rowBit at hx
      simp at hx
      omega
    rw [rowBit_nat] at hx
    have hun := bitAt_lt hx
    have hLu := hL.nd u hun hx
    have hkL := (List.getElem?_eq_some_iff.1 hLu).1
    obtain ⟨g, o, rfl, hg, hc⟩ := hl.cells (by omega)
    refine (refNumber_at g o L.length c (cP (bitAt bs) u) (fun k => ((L[k]?.map Nd.at').getD 0)) (u : Nat) w hkL (by omega) (fun k hk => ?_) (by show ((L[cP (bitAt bs) u]?.map Nd.at').getD 0) = _; rw [hLu]; rfl) (fun k hk he => ?_)).mono ?_
    · have h1 : L[k]? = some L[k] := List.getElem?_eq_getElem hk
      have h2 := (hc k _ h1).1
      show _ = some (Value.int .i64 ((L[k]?.map Nd.at').getD 0))
      rw [h1]; exact h2
    · have hkl : k < L.length := by omega
      rw [hL.len] at hkl
      obtain ⟨v, v1, v2, v3⟩ := cP_ex (bitAt bs) bs.length k hkl
      have h2 := hL.nd v v1 v2
      rw [v3] at h2
      rw [h2] at he
      have : v = u := by simp [ndOf] at he; omega
      rw [this] at v3
      omega
    · rintro e w' ⟨rfl, rfl⟩
      exact ⟨_, rfl, Or.inl ⟨u, hx, rfl, rfl⟩, rfl⟩
  | false =>
    have hne : ∀ (k : Nat) (d : Nd), L[k]? = some d → d.at' ≠ x := fun k d h he => by
      obtain ⟨v, v1, v2, v3⟩ := hall k d h
      rw [← he, v3, rowBit_nat, v2] at hx
      cases hx
    rcases Nat.eq_zero_or_pos L.length with h0 | h0
    · have hlen0 : ¬ ((0 : Int) < ((L.length : Nat) : Int)) := by omega
      rw [h0]
      go_enter Tryd.func51, Tryd.ntmps51
      go_wp2_with fail
      go_loopw [5] (fun kv wr => kv = .int .i64 ((0 : Nat) : Int) ∧ wr = w) (fun kv _ => 0)
      case atStart => exact ⟨rfl, rfl⟩
      case round =>
        obtain ⟨rfl, rfl⟩ := hrel
        go_wp2_with fail
        go_ret
        exact ⟨-1, by first | rfl | simp, Or.inr ⟨by first | trivial | rfl, by omega⟩, by first | trivial | rfl⟩
    · obtain ⟨g, o, rfl, hg, hc⟩ := hl.cells h0
      refine (refNumber_none g o L.length c (fun k => ((L[k]?.map Nd.at').getD 0)) x w (by omega) (fun k hk => ?_) (fun k hk he => ?_)).mono ?_
      · have h1 : L[k]? = some L[k] := List.getElem?_eq_getElem hk
        have h2 := (hc k _ h1).1
        show _ = some (Value.int .i64 ((L[k]?.map Nd.at').getD 0))
        rw [h1]; exact h2
      · have h1 : L[k]? = some L[k] := List.getElem?_eq_getElem hk
        rw [h1] at he
        exact hne k _ h1 he
      · rintro e w' ⟨rfl, rfl⟩
        exact ⟨_, rfl, Or.inr ⟨rfl, by omega⟩, rfl⟩

set_option maxHeartbeats 8000000 in
theorem lawNestTells_true (A : Option Addr) (c : Nat) (ps : List (Bool × Nat)) (B : Option Addr) (d : Nat) (ats : List Int) (k : Int) (w : World) (hl : Lst w A (pcCells ps)) (hx : ∀ o ∈ ps, o.2 < 65536) (hn : ps.length ≤ maxLen) (ha : Lst w B (cells8 ats)) (h10 : ats.length ≤ 10) (hT : Tab w) (hbal : bal (bitAt (pieceBits ps)) (pieceBits ps).length = true) :
    Calls Tryd.prog 13 #[.slice A ps.length c, .slice B ats.length d, .int .i64 k] w fun e w' => e = .returned (.bool true) ∧ Below w.heap.size w w' := by
  have g1N : ¬ ((10 : Int) < (ats.length : Int)) := by omega
  have hbl := pieceBits_length ps
  have HPB := hid (fun W hW => pbits_any A c ps W hW hx hn)
  generalize pieceBits ps = bs at *
  have HRB := hid (fun A c W (hW : Lst W A (bools bs)) => refBalanced_any A c bs W hW (by omega))
  rw [hbal] at HRB
  have HNW := hid (fun gx A c W hW => nestNew_any gx A c bs W hW hbal)
  have HND := hid (fun A c W hW => refNodes_any A c bs W hW hbal hbl)
  have HBB := hid (Bal.of hbal)
  clear hbal hx hn
  go_enter Tryd.func13, Tryd.ntmps13
  go_wp2_with fail
  refine (awake8 _).mono ?_
  rintro e w1 ⟨rfl, hB1⟩
  have hz1 := hB1.size
  go_wp2_with fail
  refine (HPB.out _ (hl.below hB1)).mono ?_
  rintro e w2 ⟨A2, c2, rfl, hl2, hB2⟩
  have hz2 := hB2.size
  go_wp2_with fail
  refine (made_any A2 c2 bs _ hl2 (by omega)).mono ?_
  rintro e w3 ⟨gx, Ax, cx', rfl, hr3, _, _, hB3⟩
  have hz3 := hB3.size
  have hl3 := hl2.below hB3
  have hB123 := hB1.trans ((hB2.mono hz1).trans (hB3.mono (by omega)))
  go_wp2_with fail
  refine (HNW.out gx Ax cx' _ hr3).mono ?_
  rintro e w4 ⟨s, rfl, hs4, hB4⟩
  have hz4 := hB4.size
  have hl4 := hl3.below hB4
  have hB1234 := hB123.trans (hB4.mono (by omega))
  clear hB1 hB2 hB3 hB4 hl2 hl3 hr3 hB123
  go_wp2_with fail
  refine (HRB.out A2 c2 _ hl4).mono ?_
  rintro e w' ⟨rfl, rfl⟩
  go_wp2_with fail
  refine (HND.out A2 c2 _ hl4).mono ?_
  rintro e w5 ⟨A5, c5, L, rfl, hl5, hL, hB5⟩
  have hs5 := hs4.below hB5
  have hz5 := hB5.size
  have hB0 := hB1234.trans (hB5.mono (by omega))
  have ha5 := ha.below hB0
  have hT5 := hT.below hB0
  have hz0 := hB0.size
  clear hB5 hB1234 hl4 hs4 hl ha
  have HNU := hid (fun x W hW => refNumber_any A5 c5 bs L x W hL hW hbl)
  have HNO := hid (fun u W hs hu hW => lawnode8_any s A5 c5 bs L u k W hs hL HBB.out hu hW hbl)
  go_wp2_with fail
  go_loopw [11] (fun kv wr => ∃ i : Nat, i ≤ ats.length ∧ kv = .int .i64 (i : Nat) ∧ Below w5.heap.size w5 wr) (fun kv _ => ats.length - (intOf kv).toNat)
  case atStart => exact ⟨0, Nat.zero_le _, rfl, Below.refl _ _⟩
  case round =>
    obtain ⟨i, hi, rfl, hB⟩ := hrel
    have hsr := hs5.below hB
    have hlr : NdAt wr A5 L := Lst.below hl5 hB
    have har := ha5.below hB
    have hzr := hB.size
    rcases Nat.lt_or_ge i ats.length with hlt | hge
    · have hki : (i : Int) < (ats.length : Int) := by omega
      have hk0 : (0 : Int) ≤ (i : Int) := by omega
      obtain ⟨ab, ao, rfl, had, hcl⟩ := har.lit (by rw [cells8, List.length_map]; omega)
      have q0 : (cells8 ats)[i]? = some (.int .i64 ats[i]) := by rw [cells8, List.getElem?_map, List.getElem?_eq_getElem hlt]; rfl
      have wk := hcl _ _ q0
      have HCK := hid (fun W (h : Below w5.heap.size w5 W) => (show W.cell? ⟨ab, ao + i, none⟩ = some (.int .i64 ats[i]) from ((ha5.below h).lit (by rw [cells8, List.length_map]; omega)).elim fun _ h1 => h1.elim fun _ h2 => by obtain ⟨e, _, h3⟩ := h2; injection e with e; injection e with e1 e2; subst e1; subst e2; exact h3 _ _ q0))
      clear q0 hcl
      obtain ⟨x, hx⟩ : ∃ x, x = ats[i] := ⟨_, rfl⟩
      rw [← hx] at wk HCK
      clear hx
      have HN1 := hid (HNU.out x wr hlr)
      go_wp2_with fail
      refine (HN1.out).mono ?_
      rintro e w' ⟨m, rfl, hm, rfl⟩
      rcases hm with ⟨u, hu, rfl, rfl⟩ | ⟨hr, hm⟩
      · have hm0 : (0 : Int) ≤ (cP (bitAt bs) u : Nat) := by omega
        have HN2 := hid (fun W hs hW => HNO.out u W hs hu hW)
        go_wp2_with fail
        refine (HN2.out _ hsr hlr).mono ?_
        rintro e w7 ⟨rfl, hB7⟩
        go_wp2_with fail
        exact ⟨⟨i + 1, by omega, by go_num, hB.trans (hB7.mono hzr)⟩, by simp [intOf]; omega⟩
      · have hm0 : ¬ ((0 : Int) ≤ m) := by omega
        have NC := hid (fun W hs => nClose_no s bs x W hs hr)
        have NP := hid (fun W hs => nParent_no s bs x W hs hr)
        have NH := hid (fun W hs => nChild_no s bs x k W hs hr)
        have NE := hid (fun W hs => nDepth_no s bs x W hs hr)
        have NV := hid (fun W hs => nPrev_no s bs x W hs hr)
        go_wp2_with fail
        refine (NC.out _ hsr).mono ?_
        rintro e w' ⟨rfl, rfl⟩
        go_wp2_with fail
        refine (NP.out _ hsr).mono ?_
        rintro e w' ⟨rfl, rfl⟩
        go_wp2_with fail
        refine (NH.out _ hsr).mono ?_
        rintro e w7 ⟨rfl, hB7⟩
        have hB8 := hB.trans (hB7.mono hzr)
        have wk8 := HCK.out _ hB8
        go_wp2_with fail
        refine (NE.out _ (hs5.below hB8)).mono ?_
        rintro e w' ⟨rfl, rfl⟩
        go_wp2_with fail
        refine (NV.out _ (hs5.below hB8)).mono ?_
        rintro e w' ⟨rfl, rfl⟩
        go_wp2_with fail
        exact ⟨⟨i + 1, by omega, by go_num, hB8⟩, by simp [intOf]; omega⟩
    · obtain rfl : i = ats.length := by omega
      have hki : ¬ ((ats.length : Int) < (ats.length : Int)) := by omega
      have HNN := hid (fun W hs => nNodes_any s bs W hs)
      have HSZ := hid (fun W hs => nSize_any s bs W hs (by omega))
      have hkc : kc true bs bs.length = L.length := by rw [hL.len, kc_cP bs _ (Nat.le_refl _)]
      rw [hkc] at HNN
      have hTr := hT5.below hB
      rcases Int.lt_or_le k 0 with hk | hk
      · have HK := hid (fun W hs => nNode_none s bs k W hs (Or.inl hk))
        have hk1 : ¬ (0 ≤ k) := by omega
        go_wp2_with fail
        refine (HK.out _ hsr).mono ?_
        rintro e w' ⟨rfl, rfl⟩
        go_wp2_with fail
        refine (HNN.out _ hsr).mono ?_
        rintro e w' ⟨rfl, rfl⟩
        go_wp2_with fail
        refine (HSZ.out _ hsr).mono ?_
        rintro e w' ⟨sz, rfl, hsz, m1, rfl⟩
        have hszI : (sz : Int) ≤ 4 * (bs.length : Int) + 4096 := by omega
        have hsz0 : (0 : Int) ≤ (sz : Int) := by omega
        go_wp2_with fail
        refine (HSZ.out _ (by exact hsr)).mono ?_
        rintro e w' ⟨sy, rfl, hsy, m2, rfl⟩
        have hsyI : (sy : Int) ≤ 4 * (bs.length : Int) + 4096 := by omega
        go_wp2_with fail
        go_ret
        exact ⟨rfl, hB0.trans (below_drewN (hB.mono hz0) _)⟩
      · obtain ⟨K, rfl⟩ : ∃ K : Nat, k = K := ⟨k.toNat, by omega⟩
        rcases Nat.lt_or_ge K L.length with hlt | hge
        · obtain ⟨p, p1, p2, p3⟩ := cP_ex (bitAt bs) bs.length K (by rw [← hL.len]; exact hlt)
          have hkp : kc true bs p = K := by rw [kc_cP bs p (by omega)]; exact p3
          have hLp := hL.nd p p1 p2
          rw [p3] at hLp
          obtain ⟨g, o, rfl, hg, hcl⟩ := hlr.cells (by omega)
          have KC := hid (show ∀ W, Below w5.heap.size w5 W → W.cell? ⟨g, o + K * 4, none⟩ = some (.int .i64 (p : Nat)) from fun W hW => by
            obtain ⟨g', o', e', _, hcl'⟩ := (show NdAt W (some ⟨g, o, none⟩) L from Lst.below hl5 hW).cells (by omega)
            simp only [Option.some.injEq, Addr.mk.injEq, and_true] at e'
            obtain ⟨rfl, rfl⟩ := e'
            exact (hcl' K _ hLp).1)
          have HK := hid (fun W hs hT => nNode_at s bs K p W hs hT p2 hkp)
          have hkI : (K : Int) < (L.length : Int) := by omega
          have hLle : L.length ≤ 4000 := by rw [hL.len]; have := cP_le (bitAt bs) bs.length; omega
          have hmm : max (min (K : Int) ((L.length : Int) - 1)) 0 = (K : Int) := by omega
          have hmn : (max (min (K : Int) ((L.length : Int) - 1)) 0).toNat = K := by omega
          have KS := hid (show ∀ W, Below w5.heap.size w5 W → NestAt W s bs from fun W hW => hs5.below hW)
          clear hcl hLp p1 p2 p3 hkp hkc
          go_wp2_with fail
          refine (HK.out _ hsr hTr).mono ?_
          rintro e w7 ⟨rfl, hB7⟩
          have hB8 := hB.trans (hB7.mono hzr)
          have hs8 := KS.out _ hB8
          have k8 := KC.out _ hB8
          go_wp2_with fail
          refine (HNN.out _ hs8).mono ?_
          rintro e w' ⟨rfl, rfl⟩
          go_wp2_with fail
          refine (HSZ.out _ hs8).mono ?_
          rintro e w' ⟨sz, rfl, hsz, m1, rfl⟩
          have hszI : (sz : Int) ≤ 4 * (bs.length : Int) + 4096 := by omega
          have hsz0 : (0 : Int) ≤ (sz : Int) := by omega
          go_wp2_with fail
          refine (HSZ.out _ (by exact hs8)).mono ?_
          rintro e w' ⟨sy, rfl, hsy, m2, rfl⟩
          have hsyI : (sy : Int) ≤ 4 * (bs.length : Int) + 4096 := by omega
          go_wp2_with fail
          go_ret
          exact ⟨rfl, hB0.trans (below_drewN (hB8.mono hz0) _)⟩
        · have HK := hid (fun W hs => nNode_none s bs K W hs (Or.inr (by rw [hkc]; omega)))
          have hkI : ¬ ((K : Int) < (L.length : Int)) := by omega
          have hkI2 : (L.length : Int) ≤ (K : Int) := by omega
          go_wp2_with fail
          refine (HK.out _ hsr).mono ?_
          rintro e w' ⟨rfl, rfl⟩
          go_wp2_with fail
          refine (HNN.out _ hsr).mono ?_
          rintro e w' ⟨rfl, rfl⟩
          go_wp2_with fail
          refine (HSZ.out _ hsr).mono ?_
          rintro e w' ⟨sz, rfl, hsz, m1, rfl⟩
          have hszI : (sz : Int) ≤ 4 * (bs.length : Int) + 4096 := by omega
          have hsz0 : (0 : Int) ≤ (sz : Int) := by omega
          go_wp2_with fail
          refine (HSZ.out _ (by exact hsr)).mono ?_
          rintro e w' ⟨sy, rfl, hsy, m2, rfl⟩
          have hsyI : (sy : Int) ≤ 4 * (bs.length : Int) + 4096 := by omega
          go_wp2_with fail
          go_ret
          exact ⟨rfl, hB0.trans (below_drewN (hB.mono hz0) _)⟩

set_option maxHeartbeats 4000000 in
theorem lawNestTells_not (A : Option Addr) (c : Nat) (ps : List (Bool × Nat)) (B : Option Addr) (d : Nat) (ats : List Int) (k : Int) (w : World) (hl : Lst w A (pcCells ps)) (hx : ∀ o ∈ ps, o.2 < 65536) (hn : ps.length ≤ maxLen) (h10 : ats.length ≤ 10) (hbal : bal (bitAt (pieceBits ps)) (pieceBits ps).length = false) :
    Calls Tryd.prog 13 #[.slice A ps.length c, .slice B ats.length d, .int .i64 k] w fun e w' => e = .returned (.bool true) ∧ Below w.heap.size w w' := by
  have g1N : ¬ ((10 : Int) < (ats.length : Int)) := by omega
  have hbl := pieceBits_length ps
  have HPB := hid (fun W hW => pbits_any A c ps W hW hx hn)
  generalize pieceBits ps = bs at *
  have HRB := hid (fun A c W (hW : Lst W A (bools bs)) => refBalanced_any A c bs W hW (by omega))
  rw [hbal] at HRB
  have HNW := hid (fun gx A c W hW => nestNew_not gx A c bs W hW hbal)
  clear hbal hx hn
  go_enter Tryd.func13, Tryd.ntmps13
  go_wp2_with fail
  refine (awake8 _).mono ?_
  rintro e w1 ⟨rfl, hB1⟩
  have hz1 := hB1.size
  go_wp2_with fail
  refine (HPB.out _ (hl.below hB1)).mono ?_
  rintro e w2 ⟨A2, c2, rfl, hl2, hB2⟩
  have hz2 := hB2.size
  go_wp2_with fail
  refine (made_any A2 c2 bs _ hl2 (by omega)).mono ?_
  rintro e w3 ⟨gx, Ax, cx', rfl, hr3, _, _, hB3⟩
  have hz3 := hB3.size
  have hl3 := hl2.below hB3
  have hB123 := hB1.trans ((hB2.mono hz1).trans (hB3.mono (by omega)))
  go_wp2_with fail
  refine (HNW.out gx Ax cx' _ hr3).mono ?_
  rintro e w4 ⟨rfl, hB4⟩
  have hl4 := hl3.below hB4
  have hB1234 := hB123.trans (hB4.mono (by omega))
  go_wp2_with fail
  refine (HRB.out A2 c2 _ hl4).mono ?_
  rintro e w' ⟨rfl, rfl⟩
  go_wp2_with fail
  go_ret
  exact ⟨rfl, hB1234⟩

theorem lawNestTells_long (A : Option Addr) (n c : Nat) (B : Option Addr) (m d : Nat) (k : Int) (w : World) (h10 : 10 < m) :
    Calls Tryd.prog 13 #[.slice A n c, .slice B m d, .int .i64 k] w fun e w' => e = .returned (.bool true) ∧ Below w.heap.size w w' := by
  have g1N : (10 : Int) < (m : Int) := by omega
  go_enter Tryd.func13, Tryd.ntmps13
  go_wp2_with fail
  refine (awake8 _).mono ?_
  rintro e w1 ⟨rfl, hB1⟩
  go_wp2_with fail
  refine (awake8 _).mono ?_
  rintro e w2 ⟨rfl, hB2⟩
  go_wp2_with fail
  go_ret
  exact ⟨rfl, hB1.trans (hB2.mono hB1.size)⟩

theorem lawNestTells_any (A : Option Addr) (c : Nat) (ps : List (Bool × Nat)) (B : Option Addr) (d : Nat) (ats : List Int) (k : Int) (w : World) (hl : Lst w A (pcCells ps)) (hx : ∀ o ∈ ps, o.2 < 65536) (hn : ps.length ≤ maxLen) (ha : Lst w B (cells8 ats)) (hT : Tab w) :
    Calls Tryd.prog 13 #[.slice A ps.length c, .slice B ats.length d, .int .i64 k] w fun e w' => e = .returned (.bool true) ∧ Below w.heap.size w w' := by
  rcases Nat.lt_or_ge 10 ats.length with h10 | h10
  · exact lawNestTells_long A ps.length c B ats.length d k w h10
  · cases hb : bal (bitAt (pieceBits ps)) (pieceBits ps).length with
    | true => exact lawNestTells_true A c ps B d ats k w hl hx hn ha h10 hT hb
    | false => exact lawNestTells_not A c ps B d ats k w hl hx hn h10 hb
end Go.Proofs.YtlpnbkfcbamnbaaDoor
