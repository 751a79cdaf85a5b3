/- Walks: the law NestWalks returns true. -/
import Derived.Test.YtlpnbkfcbamnbaaDoorLawNestB
import Derived.Test.YtlpnbkfcbamnbaaDoorNestF
set_option linter.unusedVariables false
set_option linter.unusedSimpArgs false
set_option maxRecDepth 100000
namespace Go.Proofs.YtlpnbkfcbamnbaaDoor
open Go.RowKit L

theorem L.cP_imp {p q : Nat → Bool} : ∀ n, (∀ i, p i = true → q i = true) → cP p n ≤ cP q n
  | 0, _ => Nat.le_refl _
  | n + 1, h => by
    have h1 := cP_imp n h
    have h2 := h n
    show cP p n + _ ≤ cP q n + _
    cases hp : p n with
    | false => simp; omega
    | true => rw [h2 hp]; omega
theorem L.kids_half {f : Nat → Bool} {n : Nat} (b : Bal f n) (u : Nat) : 2 * kids f n u ≤ n := by
  have h1 := e0_cP f n
  rw [b.all] at h1
  have h2 : kids f n u ≤ cP f n := cP_imp n (fun i h => by unfold isKid at h; simp only [Bool.and_eq_true] at h; exact h.1)
  omega
theorem L.kid_told {f : Nat → Bool} {n : Nat} (b : Bal f n) {u : Nat} (hu : f u = true) (hn : u < n) {m : Nat} (hm : m < kids f n u) : f (kid f n u m) = true ∧ kid f n u m < n ∧ backN f 0 (kid f n u m) 1 = (u : Int) ∧ e0 f (kid f n u m) = e0 f u + 1 ∧ forthN f (kid f n u m) n 0 = (kid f n u (m + 1) : Int) - 1 ∧ backN f 0 (kid f n u (m + 1)) 0 = (kid f n u m : Int) ∧ f (kid f n u (m + 1) - 1) = false ∧ 1 ≤ kid f n u (m + 1) ∧ kid f n u (m + 1) < n := by
  have ht := kid_true b hu hn m hm
  have hi := kid_inv b hu hn m (fun j hj => kid_true b hu hn j (by omega))
  have hl := kid_lt b hu hn m (by omega)
  have hl2 := kid_lt b hu hn (m + 1) (by omega)
  obtain ⟨h1, h2, h3, h4, h5, h6⟩ := b.behN hu hn
  obtain ⟨a1, a2, a3, a4, a5, a6⟩ := b.behN ht hl.2
  obtain ⟨mm, c1, c2, c3, c4, c5, c6, c7⟩ := b.close ht hl.2
  have hk := isKid_is ht hi.1 hi.2.2.1 (fun q q1 q2 => h4 q q1 (by omega))
  have e : behN f n (kid f n u m) = mm := by rw [c3] at a6; omega
  have e2 : kid f n u (m + 1) = mm := e
  unfold isKid at hk
  simp only [Bool.and_eq_true, decide_eq_true_eq] at hk
  exact ⟨ht, hl.2, hk.2, hi.2.2.1, by rw [e2]; exact c3, by rw [e2]; exact c7, by rw [e2]; exact c6, by rw [e2]; omega, hl2.2⟩

set_option maxHeartbeats 2000000 in
theorem lawNestWalks_not (A : Option Addr) (c : Nat) (bs : List Bool) (w : World) (hl : Lst w A (bools bs)) (h : (decide (bs.length ≤ 1000) && bal (bitAt bs) bs.length) = false) :
    Calls Tryd.prog 12 #[.slice A bs.length c] w fun e w' => e = .returned (.bool true) ∧ Below w.heap.size w w' := by
  by_cases h1 : 1000 < bs.length
  · have g1N : (1000 : Int) < (bs.length : Int) := by omega
    go_enter Tryd.func12, Tryd.ntmps12
    go_wp2_with fail
    refine (awake8 _).mono ?_
    rintro e w1 ⟨rfl, hB1⟩
    go_wp2_with fail
    refine (awake8 _).mono ?_
    rintro e w2 ⟨rfl, hB2⟩
    go_wp2_with fail
    go_ret
    exact ⟨rfl, hB1.trans (hB2.mono hB1.size)⟩
  · have g1N : ¬ ((1000 : Int) < (bs.length : Int)) := by omega
    have HRB := hid (fun W (hW : Lst W A (bools bs)) => refBalanced_any A c bs W hW (by omega))
    have hb : bal (bitAt bs) bs.length = false := by rw [decide_eq_true (show bs.length ≤ 1000 by omega)] at h; simpa using h
    rw [hb] at HRB
    clear hb h
    go_enter Tryd.func12, Tryd.ntmps12
    go_wp2_with fail
    refine (awake8 _).mono ?_
    rintro e w1 ⟨rfl, hB1⟩
    go_wp2_with fail
    refine (HRB.out _ (hl.below hB1)).mono ?_
    rintro e w' ⟨rfl, rfl⟩
    go_wp2_with fail
    refine (awake8 _).mono ?_
    rintro e w2 ⟨rfl, hB2⟩
    go_wp2_with fail
    go_ret
    exact ⟨rfl, hB1.trans (hB2.mono hB1.size)⟩

set_option maxHeartbeats 8000000 in
theorem lawNestWalks_true (A : Option Addr) (c : Nat) (bs : List Bool) (w : World) (hl : Lst w A (bools bs)) (hT : Tab w) (h1 : bs.length ≤ 1000) (hbal : bal (bitAt bs) bs.length = true) :
    Calls Tryd.prog 12 #[.slice A bs.length c] w fun e w' => e = .returned (.bool true) ∧ Below w.heap.size w w' := by
  have g1N : ¬ ((1000 : Int) < (bs.length : Int)) := by omega
  have HRB := hid (fun W (hW : Lst W A (bools bs)) => refBalanced_any A c bs W hW (by omega))
  rw [hbal] at HRB
  have HNW := hid (fun gx A c W hW => nestNew_any gx A c bs W hW hbal)
  have B := Bal.of hbal
  clear hbal
  have HNN := hid (fun s W hs => nNodes_any s bs W hs)
  obtain ⟨N, hN⟩ : ∃ N, N = kc true bs bs.length := ⟨_, rfl⟩
  rw [← hN] at HNN
  have hNle : N ≤ 1000 := by rw [hN]; have := kc_le true bs bs.length; omega
  have HN := hid hN
  have HBB := hid B
  clear hN B
  go_enter Tryd.func12, Tryd.ntmps12
  go_wp2_with fail
  refine (awake8 _).mono ?_
  rintro e w1 ⟨rfl, hB1⟩
  have hz1 := hB1.size
  go_wp2_with fail
  refine (HRB.out _ (hl.below hB1)).mono ?_
  rintro e w' ⟨rfl, rfl⟩
  go_wp2_with fail
  refine (made_any A c bs _ (hl.below hB1) (by omega)).mono ?_
  rintro e w2 ⟨gx, Ax, cx', rfl, hr2, _, _, hB2⟩
  have hBb := hB1.trans (hB2.mono hz1)
  have hzb := hBb.size
  go_wp2_with fail
  refine (HNW.out gx Ax cx' w2 hr2).mono ?_
  rintro e w3 ⟨s, rfl, hs3, hB3⟩
  have hBc := hBb.trans (hB3.mono hzb)
  have hzc := hBc.size
  have hT3 := hT.below hBc
  clear hB1 hB2 hB3 hBb hr2 hz1 hzb
  go_wp2_with fail
  go_loopw [5] (fun kv wr => ∃ (k : Nat), k ≤ N ∧ kv = .int .i64 (k : Nat) ∧ Below w3.heap.size w3 wr) (fun kv _ => N - (intOf kv).toNat)
  case atStart => exact ⟨0, Nat.zero_le _, rfl, Below.refl _ _⟩
  case round =>
    obtain ⟨k, hk, rfl, hB⟩ := hrel
    have hsr := hs3.below hB
    have hzr := hB.size
    rcases Nat.lt_or_ge k N with hlt | hge
    · obtain ⟨p, p1, p2, p3, p4⟩ := kc_exists true bs k bs.length (by rw [← HN.out]; exact hlt)
      have hltI : (k : Int) < (N : Int) := by omega
      have HIp := hid (nNode_at s bs k p wr hsr (hT3.below hB) p3 p4)
      have HDp := hid (fun W hs => (show Calls Tryd.prog 35 #[.pointer (some ⟨s, 0, none⟩), .int .i64 (p : Nat)] W fun e w' => e = .returned (.tuple #[.int .i64 (e0 (bitAt bs) p), .int .i64 0]) ∧ ∃ m, w' = W.drewN m from nDepth_at s bs p W hs p3))
      have HCp := hid (fun W hs => nCount_at s bs p W hs HBB.out p3)
      have HCH := hid (fun W m hs hm => nChild_at s bs p m W hs HBB.out p3 hm)
      have HKT := hid (fun m (hm : m < kids (bitAt bs) bs.length p) => kid_told HBB.out p3 p2 hm)
      have HKF := hid (kid_false HBB.out p3 p2)
      have HK0 := hid (show kid (bitAt bs) bs.length p 0 = p + 1 from rfl)
      have hkh := kids_half HBB.out p
      have hp0 := HBB.out.nonneg p (by omega)
      have hph := HBB.out.half p (by omega)
      have HF1 := hid (fun W hs (hk : bitAt bs (p + 1) = true) => nFirst_at s bs p W hs p3 hk)
      have HF2 := hid (fun W hs (hk : bitAt bs (p + 1) = false) => nFirst_none s bs p W hs p3 hk)
      have HKT0 := hid (fun m (hm : m < kids (bitAt bs) bs.length p) => kid_true HBB.out p3 p2 m hm)
      obtain ⟨C, hC⟩ : ∃ C, C = kids (bitAt bs) bs.length p := ⟨_, rfl⟩
      have HC := hid hC
      rw [← hC] at HCp HCH HKT HKF HKT0 hkh
      obtain ⟨d, hd⟩ : ∃ d, d = e0 (bitAt bs) p := ⟨_, rfl⟩
      rw [← hd] at HDp HKT hp0 hph
      have hdw : IntKind.i64.wrap (d + 1) = d + 1 := by rw [IntKind.wrap_i64]; omega
      clear p1 p3 p4 hC hd
      go_wp2_with fail
      refine (HNN.out s _ hsr).mono ?_
      rintro e w' ⟨rfl, rfl⟩
      go_wp2_with fail
      refine (HIp.out).mono ?_
      rintro e w5 ⟨rfl, hB5⟩
      have hs5 := hsr.below hB5
      have hz5 := hB5.size
      go_wp2_with fail
      refine (HDp.out _ hs5).mono ?_
      rintro e w6 ⟨rfl, m6, rfl⟩
      go_wp2_with fail
      refine (HCp.out _ (by exact hs5)).mono ?_
      rintro e w7 ⟨rfl, hB7⟩
      have hs7 : NestAt w7 s bs := NestAt.below (w := w5.drewN m6) hs5 hB7
      have hB57 : Below w5.heap.size w5 w7 := (below_drewN (Below.refl _ _) m6).trans hB7
      have hBn := hB.trans ((hB5.mono hzr).trans (hB57.mono (by omega)))
      have hzn := hBn.size
      clear hB5 hs5 hz5 hB57 hB7 hsr HIp HDp HCp
      have hmore : (Calls Tryd.prog 45 #[.pointer (some ⟨s, 0, none⟩), .int .i64 (p : Nat)] w7 fun e w' => (∃ at' f, e = .returned (.tuple #[.int .i64 at', .int .i64 f]) ∧ ((0 < C ∧ at' = (kid (bitAt bs) bs.length p 0 : Nat) ∧ f = 0) ∨ (0 = C ∧ at' = 0 ∧ f = 7))) ∧ w7 = w') := by
        rcases Nat.eq_zero_or_pos C with h | h
        · refine (HF2.out w7 hs7 (by have := HKF.out; rw [h, HK0.out] at this; exact this)).mono ?_
          rintro e w' ⟨rfl, rfl⟩
          exact ⟨⟨_, _, rfl, Or.inr ⟨h.symm, rfl, rfl⟩⟩, rfl⟩
        · refine (HF1.out w7 hs7 (by have := HKT0.out 0 h; rw [HK0.out] at this; exact this)).mono ?_
          rintro e w' ⟨rfl, rfl⟩
          exact ⟨⟨_, _, rfl, Or.inl ⟨h, by rw [HK0.out], rfl⟩⟩, rfl⟩
      have HM := hid hmore
      clear hmore HF1 HF2
      go_wp2_with fail
      refine (HM.out).mono ?_
      rintro e w' ⟨⟨at', f, rfl, hst⟩, rfl⟩
      have HST := hid hst
      clear hst
      go_wp2_with fail
      go_loopw [12, 13, 14] (fun av fv nv wr2 => ∃ m : Nat, m ≤ C ∧ nv = .int .i64 (m : Nat) ∧ Hid ((m < C ∧ av = .int .i64 (kid (bitAt bs) bs.length p m : Nat) ∧ fv = .int .i64 0) ∨ (m = C ∧ av = .int .i64 0 ∧ fv = .int .i64 7)) ∧ Below w7.heap.size w7 wr2) (fun _ _ nv _ => 1 + C - (intOf nv).toNat)
      case atStart =>
        refine ⟨0, Nat.zero_le _, rfl, hid ?_, Below.refl _ _⟩
        rcases HST.out with ⟨a1, a2, a3⟩ | ⟨a1, a2, a3⟩
        · exact Or.inl ⟨a1, by rw [a2], by rw [a3]⟩
        · exact Or.inr ⟨a1, by rw [a2], by rw [a3]⟩
      case round =>
        obtain ⟨m, hmC, rfl, HS, hBi⟩ := hrel
        have hsi := hs7.below hBi
        have hzi := hBi.size
        have hm6 : (m : Int) < 600 := by omega
        have hst := HS.out
        clear HS
        rcases hst with ⟨hm, rfl, rfl⟩ | ⟨hm, rfl, rfl⟩
        · obtain ⟨t1, t2, t3, t4, t5, t6, t7, t8, t9⟩ := HKT.out m hm
          have HCHm := hid (fun W hs => HCH.out W m hs hm)
          have HKNF := hid (fun e : m + 1 = C => show bitAt bs (kid (bitAt bs) bs.length p (m + 1)) = false by rw [e]; exact HKF.out)
          have HKNT := hid (fun e : m + 1 < C => HKT0.out (m + 1) e)
          have HNX := hid (show kid (bitAt bs) bs.length p (m + 1) = kid (bitAt bs) bs.length p (m + 1) from rfl)
          obtain ⟨nx, hnx⟩ : ∃ nx, nx = kid (bitAt bs) bs.length p (m + 1) := ⟨_, rfl⟩
          rw [← hnx] at t5 t6 t7 t8 t9 HKNF HKNT
          have HNE := hid hnx
          clear hnx
          obtain ⟨a, ha⟩ : ∃ a, a = kid (bitAt bs) bs.length p m := ⟨_, rfl⟩
          rw [← ha] at t1 t2 t3 t4 t5 t6 HCHm
          have HPA := hid (fun W hs => nParent_at s bs a p W hs t1 t3)
          have HDA := hid (fun W hs => (show Calls Tryd.prog 35 #[.pointer (some ⟨s, 0, none⟩), .int .i64 (a : Nat)] W fun e w' => e = .returned (.tuple #[.int .i64 (d + 1), .int .i64 0]) ∧ ∃ m, w' = W.drewN m from by have := nDepth_at s bs a W hs t1; rwa [show eb (bitAt bs) 0 a = d + 1 from t4] at this))
          rw [← ha]
          clear ha
          rcases Nat.lt_or_ge (m + 1) C with hmm | hmm
          · have hfn := HKNT.out hmm
            have HNA := hid (fun W hs => nNext_at s bs a nx W hs t1 t5 (by omega) hfn)
            have HPR := hid (fun W hs => nPrev_at s bs nx (nx - 1) a W hs hfn (by omega) t7 t6)
            clear t1 t2 t3 t4 t5 t6 t7 t8 hfn
            go_wp2_with fail
            refine (HPA.out _ hsi).mono ?_
            rintro e w' ⟨rfl, n1, rfl⟩
            go_wp2_with fail
            refine (HDA.out _ (by exact hsi)).mono ?_
            rintro e w' ⟨rfl, n2, rfl⟩
            go_wp2_with fail
            refine (HCHm.out _ (by exact hsi)).mono ?_
            rintro e w9 ⟨rfl, hB9⟩
            have hB9' := hBi.trans (((below_drewN (Below.refl _ _) (n1 + n2)).trans hB9).mono hzi)
            have hs9 := hs7.below hB9'
            clear hB9
            go_wp2_with fail
            refine (HNA.out _ hs9).mono ?_
            rintro e w' ⟨rfl, n3, rfl⟩
            go_wp2_with fail
            refine (HPR.out _ (by exact hs9)).mono ?_
            rintro e w' ⟨rfl, n4, rfl⟩
            go_wp2_with fail
            exact ⟨⟨m + 1, by omega, by go_num, hid (Or.inl ⟨hmm, by rw [HNE.out], rfl⟩), by first | exact below_drewN hB9' _ | exact below_drewN (below_drewN hB9' _) _⟩, by simp [intOf]; omega⟩
          · have hme : m + 1 = C := by omega
            have hfn := HKNF.out hme
            have HNA := hid (fun W hs => nNext_none s bs a nx W hs t1 t5 (by omega) hfn)
            clear t1 t2 t3 t4 t5 t6 t7 t8 hfn
            have HME := hid hme
            clear hme
            go_wp2_with fail
            refine (HPA.out _ hsi).mono ?_
            rintro e w' ⟨rfl, n1, rfl⟩
            go_wp2_with fail
            refine (HDA.out _ (by exact hsi)).mono ?_
            rintro e w' ⟨rfl, n2, rfl⟩
            go_wp2_with fail
            refine (HCHm.out _ (by exact hsi)).mono ?_
            rintro e w9 ⟨rfl, hB9⟩
            have hB9' := hBi.trans (((below_drewN (Below.refl _ _) (n1 + n2)).trans hB9).mono hzi)
            have hs9 := hs7.below hB9'
            clear hB9
            go_wp2_with fail
            refine (HNA.out _ hs9).mono ?_
            rintro e w' ⟨rfl, n3, rfl⟩
            go_wp2_with fail
            exact ⟨⟨m + 1, by omega, by go_num, hid (Or.inr ⟨HME.out, rfl, rfl⟩), below_drewN hB9' _⟩, by simp [intOf]; omega⟩
        · subst hm
          go_wp2_with fail
          exact ⟨⟨k + 1, by omega, by go_num, hBn.trans (hBi.mono hzn)⟩, by simp [intOf]; omega⟩
    · obtain rfl : k = N := by omega
      have hltI : ¬ ((k : Int) < (k : Int)) := by omega
      go_wp2_with fail
      refine (HNN.out s _ hsr).mono ?_
      rintro e w' ⟨rfl, rfl⟩
      go_wp2_with fail
      go_ret
      exact ⟨rfl, hBc.trans (hB.mono hzc)⟩

theorem lawNestWalks_any (A : Option Addr) (c : Nat) (bs : List Bool) (w : World) (hl : Lst w A (bools bs)) (hT : Tab w) :
    Calls Tryd.prog 12 #[.slice A bs.length c] w fun e w' => e = .returned (.bool true) ∧ Below w.heap.size w w' := by
  cases h : (decide (bs.length ≤ 1000) && bal (bitAt bs) bs.length) with
  | true =>
    simp only [Bool.and_eq_true, decide_eq_true_eq] at h
    exact lawNestWalks_true A c bs w hl hT h.1 h.2
  | false => exact lawNestWalks_not A c bs w hl h
end Go.Proofs.YtlpnbkfcbamnbaaDoor
