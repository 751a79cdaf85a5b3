/- Walks: where an end has an excess; balanced rows. -/
import Derived.Test.YtdhokioiloggeaaParenD
set_option linter.unusedVariables false
set_option linter.unusedSimpArgs false
set_option maxRecDepth 100000
namespace Go.Proofs.Ytdhokioiloggeaa
open Go.RowKit L

theorem back_bit (bs : List Bool) (b k n i : Nat) (hn : n ≤ 64) (hi : i < n) (h : k + n ≤ b) : (fieldN (rev64 (fld bs (b - (k + n)) n)) ((64 : Int) - (n : Int)) (n : Int)).testBit i = sh (rv (bitAt bs) b) k i := by
  rw [turned_bit _ n i (fld_lt64 bs _ n hn) hn hi, fld_testBit bs _ _ _ (show n - 1 - i < n by omega)]
  show bitAt bs (b - (k + n) + (n - 1 - i)) = bitAt bs (b - 1 - (k + i))
  congr 1; omega
theorem back_ex (bs : List Bool) (b k n : Nat) (hn : n ≤ 64) (h : k + n ≤ b) : ex (fld bs (b - (k + n)) n).testBit n = ex (sh (rv (bitAt bs) b) k) n := by
  rw [← ex_rev (fld bs (b - (k + n)) n).testBit n]
  refine ex_congr n (fun i hi => ?_)
  rw [fld_testBit bs _ _ _ (show n - 1 - i < n by omega)]
  show bitAt bs (b - (k + n) + (n - 1 - i)) = bitAt bs (b - 1 - (k + i))
  congr 1; omega

set_option maxHeartbeats 1000000 in
theorem pBack_any (g : Nat) (A : Option Addr) (c : Nat) (bs : List Bool) (i j d : Int) (w : World) (hr : RowAt w g A c bs) (hd1 : -9223372036854775808 ≤ d) (hd2 : d ≤ 9223372036854775807) :
    Calls Try.prog 56 #[.pointer (some ⟨g, 0, none⟩), .int .i64 i, .int .i64 j, .int .i64 d] w fun e w' =>
      e = .returned (.int .i64 (backN (bitAt bs) (held bs.length i) (heldTo bs.length i j) d)) ∧ ∃ m, w' = w.drewN m := by
  have hsm := hr.small
  have h1 := heldTo_ge bs.length i j
  have h2 := heldTo_le bs.length i j
  have HE := hid (fun W hW => ends_any g A c bs i j W hW)
  generalize heldTo bs.length i j = b at *
  generalize held bs.length i = a at *
  go_enter Try.func56, Try.ntmps56
  go_wp2_with fail
  refine wp_scope_fall 0 (fun a' w' => ∃ (k m : Nat) (F E : Int) (u4 u5 u6 u7 u10 u11 u12 u13 u14 u15 u16 u17 u18 u19 u20 u21 u22 u23 u24 u25 u26 u27 u28 u29 u30 u31 u32 u33 u34 u35 u36 u37 u38 u39 u40 u41 u42 u43 u44 u45 u46 u47 u48 u49 u50 u51 u52 u53 u54 u55 u56 u57 u58 u59 u60 u61 : Value), a' = { tmps := #[.pointer (some ⟨g, 0, none⟩), .int .i64 (a : Nat), .int .i64 F, .int .i64 d, u4, u5, u6, u7, .int .i64 0, .int .i64 E, u10, u11, u12, u13, u14, u15, u16, u17, u18, u19, u20, u21, u22, u23, u24, u25, u26, u27, u28, u29, u30, u31, u32, u33, u34, u35, u36, u37, u38, u39, u40, u41, u42, u43, u44, u45, u46, u47, u48, u49, u50, u51, u52, u53, u54, u55, u56, u57, u58, u59, u60, u61], defers := [] } ∧ F = (b - k : Nat) ∧ E = ex (rv (bitAt bs) b) k ∧ a + k ≤ b ∧ fnd (rv (bitAt bs) b) d k = 0 ∧ w' = w.drewN m) (fun a' _ => (intOf (a'.tmps.getD 2 undef)).toNat) rfl ?_ ?_
  · rintro a' w' ⟨k, m, F, E, u4, u5, u6, u7, u10, u11, u12, u13, u14, u15, u16, u17, u18, u19, u20, u21, u22, u23, u24, u25, u26, u27, u28, u29, u30, u31, u32, u33, u34, u35, u36, u37, u38, u39, u40, u41, u42, u43, u44, u45, u46, u47, u48, u49, u50, u51, u52, u53, u54, u55, u56, u57, u58, u59, u60, u61, rfl, rfl, rfl, hk, hf, rfl⟩
    have hex := ex_abs (rv (bitAt bs) b) k
    rcases Nat.lt_or_ge (a + k) b with hlt | hge
    · have heq : ((a : Int) == ((b - k : Nat) : Int)) = false := by rw [beq_eq_false_iff_ne]; omega
      have hr2 : RowAt (w.drewN m) g A c bs := hr
      obtain ⟨n, hn⟩ : ∃ n, n = min 64 (b - k - a) := ⟨_, rfl⟩
      have hn1 : 0 < n := by omega
      have hn2 : n ≤ 64 := by omega
      have hn3 : a + k + n ≤ b := by omega
      obtain ⟨t, ht⟩ : ∃ t, t = b - k := ⟨_, rfl⟩
      have hmin : min (64 : Int) ((t : Int) - (a : Int)) = (n : Int) := by omega
      have hsub : (t : Int) - (n : Int) = ((b - (k + n) : Nat) : Int) := by omega
      have htb : t ≤ b := by omega
      have htn : n ≤ t := by omega
      have hta : a < t := by omega
      have hnew : (t : Int) - (n : Int) = ((b - (k + n) : Nat) : Int) := by omega
      rw [← ht] at heq ⊢
      have HT := hid ht
      have HN := hid hn
      have HB : b - k = t := ht.symm
      clear ht hn
      have hv := fld_lt64 bs (b - (k + n)) n hn2
      have HX := hid (show ex (fld bs (b - (k + n)) n).testBit (clampN (n : Int)) = ex (sh (rv (bitAt bs) b) k) n by
        rw [show clampN (n : Int) = n from by unfold clampN; omega]
        exact back_ex bs b k n hn2 (by omega))
      have hv2 := turned_lt (fld bs (b - (k + n)) n) n hn2
      have HY := hid (fun D : Int => show fnd (fieldN (rev64 (fld bs (b - (k + n)) n)) ((64 : Int) - (n : Int)) (n : Int)).testBit D (clampN (n : Int)) = fnd (sh (rv (bitAt bs) b) k) D n by
        rw [show clampN (n : Int) = n from by unfold clampN; omega]
        exact fnd_congr D n (fun i hi => back_bit bs b k n i hn2 hi (by omega)))
      have HA := hid (ex_add (rv (bitAt bs) b) k n)
      have hex2 := ex_abs (rv (bitAt bs) b) (k + n)
      have hex3 := ex_abs (sh (rv (bitAt bs) b) k) n
      have HM := hid (forth_miss (rv (bitAt bs) b) d k n hf)
      have HH := hid (forth_hit (rv (bitAt bs) b) d k n (b - a - (k + n)) hf)
      have HRF := hid (fun W hW => rField_ok g A c bs (b - (k + n)) n W hW hn2 (by omega))
      have HP := hid (fun W => pturned_any (fld bs (b - (k + n)) n) n W hv hn2)
      generalize fieldN (rev64 (fld bs (b - (k + n)) n)) ((64 : Int) - (n : Int)) (n : Int) = v2 at *
      generalize fld bs (b - (k + n)) n = v at *
      clear HB
      go_wp2_with fail
      refine (HRF.out _ hr2).mono ?_
      rintro e w' ⟨rfl, m2, rfl⟩
      go_wp2_with fail
      refine (may_any _ d n _ (by omega) (by omega) hn2).mono ?_
      rcases hmay : mayB (ex (rv (bitAt bs) b) k) d n with _ | _
      · have hfar := mayB_false hmay
        have hz := fnd_far (sh (rv (bitAt bs) b) k) _ n hfar
        have HZ := hid (HM.out hz)
        clear hz hmay hfar
        rintro e w' ⟨rfl, m3, rfl⟩
        go_wp2_with fail
        refine (excess_any v (n : Nat) _ hv).mono ?_
        rw [HX.out]
        rintro e w' ⟨rfl, rfl⟩
        go_wp2
        go_step3
        refine ⟨rfl, ⟨k + n, m + m2 + m3, _, _, _, _, _, _, _, _, _, _, _, _, _, _, _, _, _, _, _, _, _, _, _, _, _, _, _, _, _, _, _, _, _, _, _, _, _, _, _, _, _, _, _, _, _, _, _, _, _, _, _, _, _, _, _, _, _, _, rfl, by first | rfl | omega, by rw [HA.out], by omega, HZ.out, rfl⟩, ?_⟩
        simp [intOf]; omega
      · have hmay2 := mayB_true hmay
        clear hmay
        rintro e w' ⟨rfl, m3, rfl⟩
        go_wp2_with fail
        refine (HP.out _).mono ?_
        rintro e w' ⟨rfl, m4, rfl⟩
        go_wp2_with fail
        refine (find_any v2 (n : Nat) _ _ hv2).mono ?_
        rw [HY.out]
        rintro e w' ⟨rfl, rfl⟩
        have hfl := fnd_le (sh (rv (bitAt bs) b) k) (d - ex (rv (bitAt bs) b) k) n
        by_cases hz : fnd (sh (rv (bitAt bs) b) k) (d - ex (rv (bitAt bs) b) k) n = 0
        · have HZ := hid (HM.out hz)
          generalize fnd (sh (rv (bitAt bs) b) k) (d - ex (rv (bitAt bs) b) k) n = y at *
          clear hfl
          subst hz
          go_wp2_with fail
          refine (excess_any v (n : Nat) _ hv).mono ?_
          rw [HX.out]
          rintro e w' ⟨rfl, rfl⟩
          go_wp2
          go_step3
          refine ⟨rfl, ⟨k + n, m + m2 + m3 + m4, _, _, _, _, _, _, _, _, _, _, _, _, _, _, _, _, _, _, _, _, _, _, _, _, _, _, _, _, _, _, _, _, _, _, _, _, _, _, _, _, _, _, _, _, _, _, _, _, _, _, _, _, _, _, _, _, _, _, rfl, by first | rfl | omega, by rw [HA.out], by omega, HZ.out, rfl⟩, ?_⟩
          simp [intOf]; omega
        · have HR := hid (HH.out hz)
          generalize fnd (sh (rv (bitAt bs) b) k) (d - ex (rv (bitAt bs) b) k) n = y at *
          have hgt : 0 < y := by omega
          have hgt2 : (0 : Int) < (y : Int) := by omega
          have hT := HT.out
          have hres := backN_at (f := bitAt bs) (a := a) (b := b) (d := d) (p := k + y) (by rw [show b - a = k + n + (b - a - (k + n)) from by omega]; exact HR.out) (by omega)
          have hval : (b : Int) - ((k + y : Nat) : Int) = (t : Int) - (y : Int) := by omega
          rw [hval] at hres
          have HF := hid hres
          clear hres hz hval hT
          go_wp2
          simp only [Exit.jump]
          go_ret
          exact ⟨by rw [HF.out]; rfl, _, rfl⟩
    · obtain rfl : b = a + k := by omega
      have hka : a + k - k = a := by omega
      rw [hka]
      have heq : ((a : Int) == (a : Int)) = true := by rw [beq_iff_eq]
      have HF := hid (backN_none hf)
      clear hf hka
      go_wp2
      simp only [Exit.jump]
      go_ret
      exact ⟨by rw [HF.out]; rfl, _, rfl⟩
  · intro enter
    go_wp2_with fail
    refine (HE.out _ hr).mono ?_
    rintro e w' ⟨rfl, rfl⟩
    go_wp2_with fail
    go_step3
    rename_i hK
    refine hK _ _ (enter _ _ ?_)
    refine ⟨0, 0, _, _, _, _, _, _, _, _, _, _, _, _, _, _, _, _, _, _, _, _, _, _, _, _, _, _, _, _, _, _, _, _, _, _, _, _, _, _, _, _, _, _, _, _, _, _, _, _, _, _, _, _, _, _, _, _, _, _, rfl, ?_, rfl, ?_, rfl, rfl⟩
    · first | rfl | (simp; done) | omega
    · omega

end Go.Proofs.Ytdhokioiloggeaa
