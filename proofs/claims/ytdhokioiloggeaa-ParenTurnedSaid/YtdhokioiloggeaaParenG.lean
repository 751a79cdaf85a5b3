/- Walks: the reference of layer 6. -/
import Derived.Test.YtdhokioiloggeaaParenF
set_option linter.unusedVariables false
set_option linter.unusedSimpArgs false
set_option maxRecDepth 100000
namespace Go.Proofs.Ytdhokioiloggeaa
open Go.RowKit L

theorem refEnds_any (A : Option Addr) (c n : Nat) (i j : Int) (w : World) (hs : n ≤ 4294967296) :
    Calls Try.prog 71 #[.slice A n c, .int .i64 i, .int .i64 j] w fun e w' => e = .returned (.tuple #[.int .i64 (held n i : Nat), .int .i64 (heldTo n i j : Nat)]) ∧ w = w' := by
  have hpl := held_le n i
  have HPI := hid (show min (max i 0) ((n : Nat) : Int) = ((held n i : Nat) : Int) by unfold held; omega)
  have HPJ := hid (show min (max j ((held n i : Nat) : Int)) ((n : Nat) : Int) = ((heldTo n i j : Nat) : Int) by unfold heldTo; omega)
  generalize heldTo n i j = q at *
  generalize held n i = p at *
  have e1 := HPI.out
  have e2 := HPJ.out
  go_enter Try.func71, Try.ntmps71
  go_wp2
  go_ret2
  exact ⟨rfl, rfl⟩

theorem ex_next (f : Nat → Bool) (k : Nat) : ex f (k + 1) = ex f k + sgn (f k) := rfl
theorem sh_at (bs : List Bool) (a k : Nat) : sh (bitAt bs) a k = bitAt bs (a + k) := rfl
theorem fnd_next0 (f : Nat → Bool) (d : Int) (k : Nat) (h : fnd f d k = 0) : fnd f d (k + 1) = if ex f (k + 1) = d then k + 1 else 0 := by
  have e : fnd f d (k + 1) = if fnd f d k ≠ 0 then fnd f d k else if ex f (k + 1) = d then k + 1 else 0 := rfl
  rw [e, if_neg (by omega)]
theorem fnd_hit (f : Nat → Bool) (d : Int) (k r : Nat) (h : fnd f d k = 0) (he : ex f (k + 1) = d) : fnd f d (k + 1 + r) = k + 1 := by
  have e := fnd_next0 f d k h
  rw [if_pos he] at e
  rw [fnd_keep f d (k + 1) r (by omega), e]

set_option maxHeartbeats 1000000 in
theorem refExcess_any (A : Option Addr) (c : Nat) (bs : List Bool) (i j : Int) (w : World) (hl : Lst w A (bools bs)) (hs : bs.length ≤ 4294967296) :
    Calls Try.prog 51 #[.slice A bs.length c, .int .i64 i, .int .i64 j] w fun e w' =>
      e = .returned (.int .i64 (ex (sh (bitAt bs) (held bs.length i)) (heldTo bs.length i j - held bs.length i))) ∧ w = w' := by
  have h1 := heldTo_ge bs.length i j
  have h2 := heldTo_le bs.length i j
  have HE := hid (fun W => refEnds_any A c bs.length i j W hs)
  generalize heldTo bs.length i j = b at *
  generalize held bs.length i = a at *
  go_enter Try.func51, Try.ntmps51
  go_wp2_with fail
  refine (HE.out _).mono ?_
  rintro e w' ⟨rfl, rfl⟩
  go_wp2_with fail
  go_loop [9, 10] (fun e i => ∃ k : Nat, a + k ≤ b ∧ i = .int .i64 (a + k : Nat) ∧ e = .int .i64 (ex (sh (bitAt bs) a) k)) (fun _ i => b - (intOf i).toNat)
  case atStart => exact ⟨0, by omega, rfl, rfl⟩
  case round =>
    obtain ⟨k, hk, rfl, rfl⟩ := hrel
    have hex := ex_abs (sh (bitAt bs) a) k
    rcases Nat.lt_or_ge (a + k) b with hlt | hge
    · have q0 := bools_get bs (i := a + k) (by omega)
      obtain ⟨ab, ao, rfl, had, hcl⟩ := hl.lit (by rw [bools_length]; omega)
      have wc := hcl _ _ q0
      have hki : (a : Int) + (k : Int) < (b : Int) := by omega
      have hki2 : (a : Int) + (k : Int) < (bs.length : Int) := by omega
      have H := hid (ex_next (sh (bitAt bs) a) k)
      clear hcl q0
      cases hb : bitAt bs (a + k)
      all_goals
        rw [hb] at wc
        have H' := hid (show ex (sh (bitAt bs) a) (k + 1) = ex (sh (bitAt bs) a) k + sgn _ by rw [H.out, sh_at, hb])
        clear hb H
        go_wp2
        go_round
        case rel => exact ⟨k + 1, by omega, by go_num, by rw [H'.out]; rfl⟩
        case measure => simp [intOf]; omega
    · obtain rfl : b = a + k := by omega
      go_wp2
      go_ret
      exact ⟨by first | rfl | (rw [show a + k - a = k from by omega]; rfl), rfl⟩

set_option maxHeartbeats 2000000 in
theorem refForth_any (A : Option Addr) (c : Nat) (bs : List Bool) (i j d : Int) (w : World) (hl : Lst w A (bools bs)) (hs : bs.length ≤ 4294967296) :
    Calls Try.prog 55 #[.slice A bs.length c, .int .i64 i, .int .i64 j, .int .i64 d] w fun e w' =>
      e = .returned (.int .i64 (forthN (bitAt bs) (held bs.length i) (heldTo bs.length i j) d)) ∧ w = w' := by
  have h1 := heldTo_ge bs.length i j
  have h2 := heldTo_le bs.length i j
  have HE := hid (fun W => refEnds_any A c bs.length i j W hs)
  generalize heldTo bs.length i j = b at *
  generalize held bs.length i = a at *
  go_enter Try.func55, Try.ntmps55
  go_wp2_with fail
  refine (HE.out _).mono ?_
  rintro e w' ⟨rfl, rfl⟩
  go_wp2_with fail
  go_loop [11, 12] (fun e i => ∃ k : Nat, a + k ≤ b ∧ i = .int .i64 (a + k : Nat) ∧ e = .int .i64 (ex (sh (bitAt bs) a) k) ∧ Hid (fnd (sh (bitAt bs) a) d k = 0)) (fun _ i => b - (intOf i).toNat)
  case atStart => exact ⟨0, by omega, rfl, rfl, hid rfl⟩
  case round =>
    obtain ⟨k, hk, rfl, rfl, hf⟩ := hrel
    have hex := ex_abs (sh (bitAt bs) a) k
    rcases Nat.lt_or_ge (a + k) b with hlt | hge
    · have q0 := bools_get bs (i := a + k) (by omega)
      obtain ⟨ab, ao, rfl, had, hcl⟩ := hl.lit (by rw [bools_length]; omega)
      have wc := hcl _ _ q0
      have hki : (a : Int) + (k : Int) < (b : Int) := by omega
      have hki2 : (a : Int) + (k : Int) < (bs.length : Int) := by omega
      have H := hid (ex_next (sh (bitAt bs) a) k)
      have HN := hid (fnd_next0 (sh (bitAt bs) a) d k hf.out)
      have HH := hid (fnd_hit (sh (bitAt bs) a) d k (b - a - (k + 1)) hf.out)
      clear hcl q0
      cases hb : bitAt bs (a + k)
      all_goals
        rw [hb] at wc
        have H' := hid (show ex (sh (bitAt bs) a) (k + 1) = ex (sh (bitAt bs) a) k + sgn _ by rw [H.out, sh_at, hb])
        clear hb H
        by_cases he : ex (sh (bitAt bs) a) (k + 1) = d
      · have ht : (ex (sh (bitAt bs) a) k - 1 == d) = true := by rw [beq_iff_eq, ← he, H'.out]; rfl
        have HR := hid (forthN_at (f := bitAt bs) (a := a) (b := b) (d := d) (p := k + 1) (by rw [show b - a = k + 1 + (b - a - (k + 1)) from by omega]; exact HH.out he) (by omega))
        clear he
        go_wp2
        go_ret
        exact ⟨by rw [HR.out]; go_num, rfl⟩
      · have ht : (ex (sh (bitAt bs) a) k - 1 == d) = false := by rw [beq_eq_false_iff_ne]; intro h; exact he (by rw [← h, H'.out]; rfl)
        have HZ := hid (show fnd (sh (bitAt bs) a) d (k + 1) = 0 by rw [HN.out, if_neg he])
        clear he
        go_wp2
        go_round
        case rel => exact ⟨k + 1, by omega, by go_num, by rw [H'.out]; rfl, HZ⟩
        case measure => simp [intOf]; omega
      · have ht : (ex (sh (bitAt bs) a) k + 1 == d) = true := by rw [beq_iff_eq, ← he, H'.out]; rfl
        have HR := hid (forthN_at (f := bitAt bs) (a := a) (b := b) (d := d) (p := k + 1) (by rw [show b - a = k + 1 + (b - a - (k + 1)) from by omega]; exact HH.out he) (by omega))
        clear he
        go_wp2
        go_ret
        exact ⟨by rw [HR.out]; go_num, rfl⟩
      · have ht : (ex (sh (bitAt bs) a) k + 1 == d) = false := by rw [beq_eq_false_iff_ne]; intro h; exact he (by rw [← h, H'.out]; rfl)
        have HZ := hid (show fnd (sh (bitAt bs) a) d (k + 1) = 0 by rw [HN.out, if_neg he])
        clear he
        go_wp2
        go_round
        case rel => exact ⟨k + 1, by omega, by go_num, by rw [H'.out]; rfl, HZ⟩
        case measure => simp [intOf]; omega
    · obtain rfl : b = a + k := by omega
      have HR := hid (forthN_none hf.out)
      go_wp2
      go_ret
      exact ⟨by rw [HR.out]; rfl, rfl⟩

set_option maxHeartbeats 2000000 in
theorem refBack_any (A : Option Addr) (c : Nat) (bs : List Bool) (i j d : Int) (w : World) (hl : Lst w A (bools bs)) (hs : bs.length ≤ 4294967296) :
    Calls Try.prog 57 #[.slice A bs.length c, .int .i64 i, .int .i64 j, .int .i64 d] w fun e w' =>
      e = .returned (.int .i64 (backN (bitAt bs) (held bs.length i) (heldTo bs.length i j) d)) ∧ w = w' := by
  have h1 := heldTo_ge bs.length i j
  have h2 := heldTo_le bs.length i j
  have HE := hid (fun W => refEnds_any A c bs.length i j W hs)
  generalize heldTo bs.length i j = b at *
  generalize held bs.length i = a at *
  go_enter Try.func57, Try.ntmps57
  go_wp2_with fail
  refine (HE.out _).mono ?_
  rintro e w' ⟨rfl, rfl⟩
  go_wp2_with fail
  go_loop [11, 12] (fun e i => ∃ (k : Nat) (I : Int), a + k ≤ b ∧ I = (b : Int) - 1 - k ∧ i = .int .i64 I ∧ e = .int .i64 (ex (rv (bitAt bs) b) k) ∧ Hid (fnd (rv (bitAt bs) b) d k = 0)) (fun _ i => (intOf i + 1).toNat)
  case atStart => exact ⟨0, _, by omega, by omega, rfl, rfl, hid rfl⟩
  case round =>
    obtain ⟨k, I, hk, hI, rfl, rfl, hf⟩ := hrel
    have hex := ex_abs (rv (bitAt bs) b) k
    rcases Nat.lt_or_ge (a + k) b with hlt | hge
    · obtain ⟨t, rfl⟩ : ∃ t, b = t + 1 + k := ⟨b - 1 - k, by omega⟩
      obtain rfl : I = (t : Int) := by omega
      have q0 := bools_get bs (i := t) (by omega)
      obtain ⟨ab, ao, rfl, had, hcl⟩ := hl.lit (by rw [bools_length]; omega)
      have wc := hcl _ _ q0
      have hki : (a : Int) ≤ (t : Int) := by omega
      have hki2 : (t : Int) < (bs.length : Int) := by omega
      have H := hid (show ex (rv (bitAt bs) (t + 1 + k)) (k + 1) = ex (rv (bitAt bs) (t + 1 + k)) k + sgn (bitAt bs t) by
        rw [ex_next]; unfold rv; rw [show t + 1 + k - 1 - k = t from by omega])
      have HN := hid (fnd_next0 (rv (bitAt bs) (t + 1 + k)) d k hf.out)
      have HH := hid (fnd_hit (rv (bitAt bs) (t + 1 + k)) d k (t + 1 + k - a - (k + 1)) hf.out)
      clear hcl q0 hI
      cases hb : bitAt bs t
      all_goals
        rw [hb] at wc
        have H' := hid (show ex (rv (bitAt bs) (t + 1 + k)) (k + 1) = ex (rv (bitAt bs) (t + 1 + k)) k + sgn _ by rw [H.out, hb])
        clear hb H
        by_cases he : ex (rv (bitAt bs) (t + 1 + k)) (k + 1) = d
      · have ht : (ex (rv (bitAt bs) (t + 1 + k)) k - 1 == d) = true := by rw [beq_iff_eq, ← he, H'.out]; rfl
        have HR := hid (backN_at (f := bitAt bs) (a := a) (b := t + 1 + k) (d := d) (p := k + 1) (by rw [show t + 1 + k - a = k + 1 + (t + 1 + k - a - (k + 1)) from by omega]; exact HH.out he) (by omega))
        clear he
        go_wp2
        go_ret
        exact ⟨by rw [HR.out]; go_num, rfl⟩
      · have ht : (ex (rv (bitAt bs) (t + 1 + k)) k - 1 == d) = false := by rw [beq_eq_false_iff_ne]; intro h; exact he (by rw [← h, H'.out]; rfl)
        have HZ := hid (show fnd (rv (bitAt bs) (t + 1 + k)) d (k + 1) = 0 by rw [HN.out, if_neg he])
        clear he
        go_wp2
        go_round
        case rel => exact ⟨k + 1, _, by omega, by omega, rfl, by rw [H'.out]; rfl, HZ⟩
        case measure => first | (simp [intOf]; done) | (simp [intOf]; omega)
      · have ht : (ex (rv (bitAt bs) (t + 1 + k)) k + 1 == d) = true := by rw [beq_iff_eq, ← he, H'.out]; rfl
        have HR := hid (backN_at (f := bitAt bs) (a := a) (b := t + 1 + k) (d := d) (p := k + 1) (by rw [show t + 1 + k - a = k + 1 + (t + 1 + k - a - (k + 1)) from by omega]; exact HH.out he) (by omega))
        clear he
        go_wp2
        go_ret
        exact ⟨by rw [HR.out]; go_num, rfl⟩
      · have ht : (ex (rv (bitAt bs) (t + 1 + k)) k + 1 == d) = false := by rw [beq_eq_false_iff_ne]; intro h; exact he (by rw [← h, H'.out]; rfl)
        have HZ := hid (show fnd (rv (bitAt bs) (t + 1 + k)) d (k + 1) = 0 by rw [HN.out, if_neg he])
        clear he
        go_wp2
        go_round
        case rel => exact ⟨k + 1, _, by omega, by omega, rfl, by rw [H'.out]; rfl, HZ⟩
        case measure => first | (simp [intOf]; done) | (simp [intOf]; omega)
    · obtain rfl : b = a + k := by omega
      obtain rfl : I = (a : Int) - 1 := by omega
      have HR := hid (backN_none hf.out)
      clear hI
      go_wp2
      go_ret
      exact ⟨by rw [HR.out]; rfl, rfl⟩

set_option maxHeartbeats 4000000 in
theorem refReach_any (A : Option Addr) (c : Nat) (bs : List Bool) (i j : Int) (w : World) (hl : Lst w A (bools bs)) (hs : bs.length ≤ 4294967296) :
    Calls Try.prog 48 #[.slice A bs.length c, .int .i64 i, .int .i64 j] w fun e w' =>
      e = .returned (.tuple #[.int .i64 (lo (sh (bitAt bs) (held bs.length i)) (heldTo bs.length i j - held bs.length i)), .int .i64 (hi (sh (bitAt bs) (held bs.length i)) (heldTo bs.length i j - held bs.length i))]) ∧ w = w' := by
  have h1 := heldTo_ge bs.length i j
  have h2 := heldTo_le bs.length i j
  have HE := hid (fun W => refEnds_any A c bs.length i j W hs)
  generalize heldTo bs.length i j = b at *
  generalize held bs.length i = a at *
  go_enter Try.func48, Try.ntmps48
  go_wp2_with fail
  refine (HE.out _).mono ?_
  rintro e w' ⟨rfl, rfl⟩
  go_wp2_with fail
  go_loop [10, 11, 12, 13] (fun l m e i => ∃ k : Nat, a + k ≤ b ∧ i = .int .i64 (a + k : Nat) ∧ e = .int .i64 (ex (sh (bitAt bs) a) k) ∧ l = .int .i64 (lo (sh (bitAt bs) a) k) ∧ m = .int .i64 (hi (sh (bitAt bs) a) k)) (fun _ _ _ i => b - (intOf i).toNat)
  case atStart => exact ⟨0, by omega, rfl, rfl, rfl, rfl⟩
  case round =>
    obtain ⟨k, hk, rfl, rfl, rfl, rfl⟩ := hrel
    have hex := ex_abs (sh (bitAt bs) a) k
    have hlo := lo_bound (sh (bitAt bs) a) k
    have hhi := hi_bound (sh (bitAt bs) a) k
    rcases Nat.lt_or_ge (a + k) b with hlt | hge
    · have q0 := bools_get bs (i := a + k) (by omega)
      obtain ⟨ab, ao, rfl, had, hcl⟩ := hl.lit (by rw [bools_length]; omega)
      have wc := hcl _ _ q0
      have hki : (a : Int) + (k : Int) < (b : Int) := by omega
      have hki2 : (a : Int) + (k : Int) < (bs.length : Int) := by omega
      have H := hid (ex_next (sh (bitAt bs) a) k)
      have HL := hid (lo_step (sh (bitAt bs) a) k)
      have HM := hid (hi_step (sh (bitAt bs) a) k)
      clear hcl q0
      cases hb : bitAt bs (a + k)
      all_goals
        rw [hb] at wc
        have H' := hid (show ex (sh (bitAt bs) a) (k + 1) = ex (sh (bitAt bs) a) k + sgn _ by rw [H.out, sh_at, hb])
        clear hb H
        generalize lo (sh (bitAt bs) a) k = l0 at *
        generalize hi (sh (bitAt bs) a) k = m0 at *
        generalize ex (sh (bitAt bs) a) k = e0 at *
        by_cases hk0 : k = 0
      · have ht : ((a : Int) + (k : Int) == (a : Int)) = true := by rw [beq_iff_eq]; omega
        have HK := hid hk0
        clear hk0
        go_wp2
        go_round
        case rel => exact ⟨k + 1, by omega, by go_num, by rw [H'.out]; rfl, by rw [HL.out, if_pos (Or.inl HK.out), H'.out]; rfl, by rw [HM.out, if_pos (Or.inl HK.out), H'.out]; rfl⟩
        case measure => simp [intOf]; omega
      · have ht : ((a : Int) + (k : Int) == (a : Int)) = false := by rw [beq_eq_false_iff_ne]; omega
        have hkp : 0 < k := by omega
        clear hk0
        go_wp2
        all_goals
          go_round
          case rel => exact ⟨k + 1, by omega, by go_num, by rw [H'.out]; rfl, by rw [HL.out, H'.out]; first | (rw [if_pos (Or.inr (by simp only [sgn, Bool.false_eq_true, if_true, if_false]; omega))]; rfl) | (rw [if_neg (by simp only [sgn, Bool.false_eq_true, if_true, if_false]; omega)]), by rw [HM.out, H'.out]; first | (rw [if_pos (Or.inr (by simp only [sgn, Bool.false_eq_true, if_true, if_false]; omega))]; rfl) | (rw [if_neg (by simp only [sgn, Bool.false_eq_true, if_true, if_false]; omega)])⟩
          case measure => simp [intOf]; omega
      · have ht : ((a : Int) + (k : Int) == (a : Int)) = true := by rw [beq_iff_eq]; omega
        have HK := hid hk0
        clear hk0
        go_wp2
        go_round
        case rel => exact ⟨k + 1, by omega, by go_num, by rw [H'.out]; rfl, by rw [HL.out, if_pos (Or.inl HK.out), H'.out]; rfl, by rw [HM.out, if_pos (Or.inl HK.out), H'.out]; rfl⟩
        case measure => simp [intOf]; omega
      · have ht : ((a : Int) + (k : Int) == (a : Int)) = false := by rw [beq_eq_false_iff_ne]; omega
        have hkp : 0 < k := by omega
        clear hk0
        go_wp2
        all_goals
          go_round
          case rel => exact ⟨k + 1, by omega, by go_num, by rw [H'.out]; rfl, by rw [HL.out, H'.out]; first | (rw [if_pos (Or.inr (by simp only [sgn, Bool.false_eq_true, if_true, if_false]; omega))]; rfl) | (rw [if_neg (by simp only [sgn, Bool.false_eq_true, if_true, if_false]; omega)]), by rw [HM.out, H'.out]; first | (rw [if_pos (Or.inr (by simp only [sgn, Bool.false_eq_true, if_true, if_false]; omega))]; rfl) | (rw [if_neg (by simp only [sgn, Bool.false_eq_true, if_true, if_false]; omega)])⟩
          case measure => simp [intOf]; omega
    · obtain rfl : b = a + k := by omega
      go_wp2
      go_ret2
      exact ⟨by first | rfl | (rw [show a + k - a = k from by omega]; rfl), rfl⟩

set_option maxHeartbeats 2000000 in
theorem refBalanced_any (A : Option Addr) (c : Nat) (bs : List Bool) (w : World) (hl : Lst w A (bools bs)) (hs : bs.length ≤ 4294967296) :
    Calls Try.prog 52 #[.slice A bs.length c] w fun e w' => e = .returned (.bool (bal (bitAt bs) bs.length)) ∧ w = w' := by
  go_enter Try.func52, Try.ntmps52
  go_wp2_with fail
  go_loop [3, 4] (fun e i => ∃ k : Nat, k ≤ bs.length ∧ i = .int .i64 (k : Nat) ∧ e = .int .i64 (ex (bitAt bs) k) ∧ Hid (∀ q, q < k → 0 ≤ ex (bitAt bs) q)) (fun _ i => bs.length - (intOf i).toNat)
  case atStart => exact ⟨0, by omega, rfl, rfl, hid (fun q hq => by omega)⟩
  case round =>
    obtain ⟨k, hk, rfl, rfl, hf⟩ := hrel
    have hex := ex_abs (bitAt bs) k
    rcases Nat.lt_or_ge k bs.length with hlt | hge
    · have hki : (k : Int) < (bs.length : Int) := by omega
      by_cases h0 : 0 ≤ ex (bitAt bs) k
      · have q0 := bools_get bs (i := k) (by omega)
        obtain ⟨ab, ao, rfl, had, hcl⟩ := hl.lit (by rw [bools_length]; omega)
        have wc := hcl _ _ q0
        have H := hid (ex_next (bitAt bs) k)
        have HQ := hid (fun q (hq : q < k + 1) => show 0 ≤ ex (bitAt bs) q from by
          rcases Nat.lt_or_ge q k with h | h
          · exact hf.out q h
          · have : q = k := by omega
            subst this; exact h0)
        clear hcl q0
        cases hb : bitAt bs k
        all_goals
          rw [hb] at wc
          have H' := hid (show ex (bitAt bs) (k + 1) = ex (bitAt bs) k + sgn _ by rw [H.out, hb])
          clear hb H
          go_wp2
          go_round
          case rel => exact ⟨k + 1, by omega, by go_num, by rw [H'.out]; rfl, HQ⟩
          case measure => simp [intOf]; omega
      · have HR := hid (bal_stop (bitAt bs) bs.length k (by omega) hf.out (Or.inr (by omega)))
        have hd : decide (0 ≤ ex (bitAt bs) k) = false := decide_eq_false h0
        clear hf
        go_wp2
        go_ret
        exact ⟨by rw [HR.out]; exact ret_bool' (by rw [Bool.eq_iff_iff]; simp), rfl⟩
    · obtain rfl : k = bs.length := by omega
      have HR := hid (bal_stop (bitAt bs) bs.length bs.length (by omega) hf.out (Or.inl rfl))
      clear hf
      go_wp2
      go_ret
      exact ⟨by rw [HR.out]; exact ret_bool' (by rw [Bool.eq_iff_iff]; simp), rfl⟩

end Go.Proofs.Ytdhokioiloggeaa
