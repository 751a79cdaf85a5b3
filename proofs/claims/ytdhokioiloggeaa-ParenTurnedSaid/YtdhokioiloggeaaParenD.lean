/- Walks: where a beginning, and an end, has an excess. -/
import Derived.Test.YtdhokioiloggeaaParenC
import Derived.Test.YtdhokioiloggeaaSupB
set_option linter.unusedVariables false
set_option linter.unusedSimpArgs false
set_option maxRecDepth 100000
namespace Go.Proofs.Ytdhokioiloggeaa
open Go.RowKit L

/-- May an excess be met? -/
def mayB (e d : Int) (n : Nat) : Bool := decide (e - n ≤ d) && decide (d ≤ e + n)
theorem mayB_false {e d : Int} {n : Nat} (h : mayB e d n = false) : d - e < -(n : Int) ∨ (n : Int) < d - e := by
  unfold mayB at h
  rw [Bool.and_eq_false_iff] at h
  rcases h with h | h
  · have := of_decide_eq_false h; omega
  · have := of_decide_eq_false h; omega
theorem mayB_true {e d : Int} {n : Nat} (h : mayB e d n = true) : e - n ≤ d ∧ d ≤ e + n := by
  unfold mayB at h
  rw [Bool.and_eq_true, decide_eq_true_eq, decide_eq_true_eq] at h
  exact h

set_option maxHeartbeats 400000 in
theorem may_any (e d : Int) (n : Nat) (w : World) (h1 : -4294967296 ≤ e) (h2 : e ≤ 4294967296) (hn : n ≤ 64) :
    Calls Try.prog 77 #[.int .i64 e, .int .i64 d, .int .i64 (n : Nat)] w fun r w' => r = .returned (.bool (mayB e d n)) ∧ ∃ m, w' = w.drewN m := by
  by_cases ha : e - n ≤ d
  · have HB := hid (show mayB e d n = decide (d ≤ e + n) by unfold mayB; rw [decide_eq_true ha, Bool.true_and])
    go_enter Try.func77, Try.ntmps77
    go_wp2
    try go_quiet (fail)
    go_wp2
    go_ret
    exact ⟨by rw [HB.out]; rfl, 0, rfl⟩
  · have HB := hid (show mayB e d n = false by unfold mayB; rw [decide_eq_false ha, Bool.false_and])
    have ha2 : decide (e - n ≤ d) = false := decide_eq_false ha
    go_enter Try.func77, Try.ntmps77
    go_wp2
    try go_quiet (fail)
    go_wp2
    go_ret
    exact ⟨by rw [HB.out]; rfl, 0, rfl⟩

/-- One round of Forth. -/
theorem forth_miss (f : Nat → Bool) (d : Int) (k n : Nat) (h0 : fnd f d k = 0) (h : fnd (sh f k) (d - ex f k) n = 0) : fnd f d (k + n) = 0 := by rw [fnd_add f d k n h0, if_pos h]
theorem forth_hit (f : Nat → Bool) (d : Int) (k n m : Nat) (h0 : fnd f d k = 0) (h : fnd (sh f k) (d - ex f k) n ≠ 0) : fnd f d (k + n + m) = k + fnd (sh f k) (d - ex f k) n := by
  have e : fnd f d (k + n) = k + fnd (sh f k) (d - ex f k) n := by rw [fnd_add f d k n h0, if_neg h]
  rw [fnd_keep f d (k + n) m (by omega), e]
theorem forthN_none {f : Nat → Bool} {a k : Nat} {d : Int} (h : fnd (sh f a) d k = 0) : forthN f a (a + k) d = -1 := by
  unfold forthN; rw [show a + k - a = k from by omega, if_pos h]
theorem forthN_at {f : Nat → Bool} {a b : Nat} {d : Int} {p : Nat} (h : fnd (sh f a) d (b - a) = p) (h0 : p ≠ 0) : forthN f a b d = (a : Int) + p - 1 := by
  unfold forthN; rw [h, if_neg h0]
theorem backN_none {f : Nat → Bool} {a k : Nat} {d : Int} (h : fnd (rv f (a + k)) d k = 0) : backN f a (a + k) d = -1 := by
  unfold backN; rw [show a + k - a = k from by omega, if_pos h]
theorem backN_at {f : Nat → Bool} {a b : Nat} {d : Int} {p : Nat} (h : fnd (rv f b) d (b - a) = p) (h0 : p ≠ 0) : backN f a b d = (b : Int) - p := by
  unfold backN; rw [h, if_neg h0]

set_option maxHeartbeats 1000000 in
theorem pForth_any (g : Nat) (A : Option Addr) (c : Nat) (bs : List Bool) (i j d : Int) (w : World) (hr : RowAt w g A c bs) (hd1 : -9223372036854775808 ≤ d) (hd2 : d ≤ 9223372036854775807) :
    Calls Try.prog 54 #[.pointer (some ⟨g, 0, none⟩), .int .i64 i, .int .i64 j, .int .i64 d] w fun e w' =>
      e = .returned (.int .i64 (forthN (bitAt bs) (held bs.length i) (heldTo bs.length i j) d)) ∧ ∃ m, w' = w.drewN m := by
  have hsm := hr.small
  have h1 := heldTo_ge bs.length i j
  have h2 := heldTo_le bs.length i j
  have HE := hid (fun W hW => ends_any g A c bs i j W hW)
  generalize heldTo bs.length i j = b at *
  generalize held bs.length i = a at *
  go_enter Try.func54, Try.ntmps54
  go_wp2_with fail
  refine wp_scope_fall 0 (fun a' w' => ∃ (k m : Nat) (F E : Int) (u4 u5 u6 u7 u10 u11 u12 u13 u14 u15 u16 u17 u18 u19 u20 u21 u22 u23 u24 u25 u26 u27 u28 u29 u30 u31 u32 u33 u34 u35 u36 u37 u38 u39 u40 u41 u42 u43 u44 u45 u46 u47 u48 u49 u50 u51 u52 u53 : Value), a' = { tmps := #[.pointer (some ⟨g, 0, none⟩), .int .i64 F, .int .i64 (b : Nat), .int .i64 d, u4, u5, u6, u7, .int .i64 0, .int .i64 E, u10, u11, u12, u13, u14, u15, u16, u17, u18, u19, u20, u21, u22, u23, u24, u25, u26, u27, u28, u29, u30, u31, u32, u33, u34, u35, u36, u37, u38, u39, u40, u41, u42, u43, u44, u45, u46, u47, u48, u49, u50, u51, u52, u53], defers := [] } ∧ F = (a + k : Nat) ∧ E = ex (sh (bitAt bs) a) k ∧ a + k ≤ b ∧ fnd (sh (bitAt bs) a) d k = 0 ∧ w' = w.drewN m) (fun a' _ => b - (intOf (a'.tmps.getD 1 undef)).toNat) rfl ?_ ?_
  · rintro a' w' ⟨k, m, F, E, u4, u5, u6, u7, u10, u11, u12, u13, u14, u15, u16, u17, u18, u19, u20, u21, u22, u23, u24, u25, u26, u27, u28, u29, u30, u31, u32, u33, u34, u35, u36, u37, u38, u39, u40, u41, u42, u43, u44, u45, u46, u47, u48, u49, u50, u51, u52, u53, rfl, rfl, rfl, hk, hf, rfl⟩
    have hex := ex_abs (sh (bitAt bs) a) k
    rcases Nat.lt_or_ge (a + k) b with hlt | hge
    · have heq : (((a + k : Nat) : Int) == (b : Int)) = false := by rw [beq_eq_false_iff_ne]; omega
      have hr2 : RowAt (w.drewN m) g A c bs := hr
      go_wp2_with fail
      refine (piece_any g A c bs (a + k) b _ hr2 (by omega) h2).mono ?_
      rintro e w' ⟨rfl, m2, rfl⟩
      have hn1 : 0 < min 64 (b - (a + k)) := by omega
      have hn2 : min 64 (b - (a + k)) ≤ 64 := by omega
      have hn3 : a + k + min 64 (b - (a + k)) ≤ b := by omega
      generalize min 64 (b - (a + k)) = n at *
      obtain ⟨r, rfl⟩ : ∃ r, b = a + (k + n + r) := ⟨b - (a + (k + n)), by omega⟩
      have hv := fld_lt64 bs (a + k) n hn2
      have HX := hid (show ex (fld bs (a + k) n).testBit (clampN (n : Int)) = ex (sh (sh (bitAt bs) a) k) n by
        rw [show clampN (n : Int) = n from by unfold clampN; omega]
        refine ex_congr n (fun i hi => ?_)
        rw [fld_testBit bs _ _ _ hi]; unfold sh; rw [Nat.add_assoc])
      have HY := hid (fun D : Int => show fnd (fld bs (a + k) n).testBit D (clampN (n : Int)) = fnd (sh (sh (bitAt bs) a) k) D n by
        rw [show clampN (n : Int) = n from by unfold clampN; omega]
        refine fnd_congr D n (fun i hi => ?_)
        rw [fld_testBit bs _ _ _ hi]; unfold sh; rw [Nat.add_assoc])
      have HA := hid (ex_add (sh (bitAt bs) a) k n)
      have hex2 := ex_abs (sh (bitAt bs) a) (k + n)
      have hex3 := ex_abs (sh (sh (bitAt bs) a) k) n
      have HM := hid (forth_miss (sh (bitAt bs) a) d k n hf)
      have HH := hid (forth_hit (sh (bitAt bs) a) d k n r hf)
      generalize fld bs (a + k) n = v at *
      go_wp2_with fail
      refine (may_any _ d n _ (by omega) (by omega) hn2).mono ?_
      rcases hmay : mayB (ex (sh (bitAt bs) a) k) d n with _ | _
      · have hfar := mayB_false hmay
        have hz := fnd_far (sh (sh (bitAt bs) a) k) _ n hfar
        have hnew := HM.out hz
        have HZ := hid hnew
        clear hnew hz hmay hfar
        rintro e w' ⟨rfl, m3, rfl⟩
        go_wp2_with fail
        refine (excess_any v (n : Nat) _ hv).mono ?_
        rw [HX.out]
        rintro e w' ⟨rfl, rfl⟩
        go_wp2
        go_step3
        refine ⟨rfl, ⟨k + n, m + m2 + m3, _, _, _, _, _, _, _, _, _, _, _, _, _, _, _, _, _, _, _, _, _, _, _, _, _, _, _, _, _, _, _, _, _, _, _, _, _, _, _, _, _, _, _, _, _, _, _, _, _, _, rfl, by omega, by rw [HA.out], by omega, HZ.out, rfl⟩, ?_⟩
        simp [intOf]; omega
      · have hmay2 := mayB_true hmay
        clear hmay
        rintro e w' ⟨rfl, m3, rfl⟩
        go_wp2_with fail
        refine (find_any v (n : Nat) _ _ hv).mono ?_
        rw [HY.out]
        rintro e w' ⟨rfl, rfl⟩
        have hfl := fnd_le (sh (sh (bitAt bs) a) k) (d - ex (sh (bitAt bs) a) k) n
        by_cases hz : fnd (sh (sh (bitAt bs) a) k) (d - ex (sh (bitAt bs) a) k) n = 0
        · have HZ := hid (HM.out hz)
          have hgt : ((0 : Int) < ((fnd (sh (sh (bitAt bs) a) k) (d - ex (sh (bitAt bs) a) k) n : Nat) : Int)) = False := by rw [hz]; simp
          generalize fnd (sh (sh (bitAt bs) a) k) (d - ex (sh (bitAt bs) a) k) n = y at *
          clear hfl
          subst hz
          go_wp2_with fail
          refine (excess_any v (n : Nat) _ hv).mono ?_
          rw [HX.out]
          rintro e w' ⟨rfl, rfl⟩
          go_wp2
          go_step3
          refine ⟨rfl, ⟨k + n, m + m2 + m3, _, _, _, _, _, _, _, _, _, _, _, _, _, _, _, _, _, _, _, _, _, _, _, _, _, _, _, _, _, _, _, _, _, _, _, _, _, _, _, _, _, _, _, _, _, _, _, _, _, _, rfl, by omega, by rw [HA.out], by omega, HZ.out, rfl⟩, ?_⟩
          simp [intOf]; omega
        · have HR := hid (HH.out hz)
          generalize fnd (sh (sh (bitAt bs) a) k) (d - ex (sh (bitAt bs) a) k) n = y at *
          have hgt : 0 < y := by omega
          have hgt2 : (0 : Int) < (y : Int) := by omega
          have hres := forthN_at (f := bitAt bs) (a := a) (b := a + (k + n + r)) (d := d) (p := k + y) (by rw [show a + (k + n + r) - a = k + n + r from by omega]; exact HR.out) (by omega)
          have HF := hid hres
          clear hres hz
          go_wp2
          simp only [Exit.jump]
          go_ret
          exact ⟨by rw [HF.out]; go_num, _, rfl⟩
    · obtain rfl : b = a + k := by omega
      have heq : (((a + k : Nat) : Int) == ((a + k : Nat) : Int)) = true := by rw [beq_iff_eq]
      have HF := hid (forthN_none hf)
      clear hf
      go_wp2
      simp only [Exit.jump]
      go_ret
      exact ⟨by rw [HF.out]; rfl, _, rfl⟩
  · intro enter
    go_wp2_with fail
    refine (HE.out _ hr).mono ?_
    rintro e w' ⟨rfl, rfl⟩
    go_wp2_with fail
    go_step3
    rename_i hK
    refine hK _ _ (enter _ _ ?_)
    refine ⟨0, 0, _, _, _, _, _, _, _, _, _, _, _, _, _, _, _, _, _, _, _, _, _, _, _, _, _, _, _, _, _, _, _, _, _, _, _, _, _, _, _, _, _, _, _, _, _, _, _, _, _, _, rfl, ?_, rfl, ?_, rfl, rfl⟩
    · first | rfl | (simp; done) | omega
    · omega

end Go.Proofs.Ytdhokioiloggeaa
