/- Walks: math/bits.TrailingZeros64 over its table, and word.Select. -/
import Derived.Test.YtlpnbkfcbamnbaaDoorWordB
import Derived.Test.YtlpnbkfcbamnbaaDoorSupB
import Derived.Test.YtlpnbkfcbamnbaaDoorMath10
import Derived.Test.YtlpnbkfcbamnbaaDoorMem
import Derived.Laws.Bits64b
set_option linter.unusedVariables false
set_option linter.unusedSimpArgs false
set_option maxRecDepth 100000
namespace Go.Proofs.YtlpnbkfcbamnbaaDoor
open Go.RowKit L

/-- math/bits' table, in its variable. -/
def Tab (w : World) : Prop := ∀ j, j < 64 → w.cell? ⟨0, j, none⟩ = some (.int .u8 (Lib.deBruijn64tab.getD j 0 : Nat))
theorem Tab.drewN {w : World} (h : Tab w) (n : Nat) : Tab (w.drewN n) := h
theorem Tab.kept {w w' : World} (h : Tab w) (hb : w'.heap[0]? = w.heap[0]?) : Tab w' := fun j hj => by
  rw [← h j hj]; exact World.cell?_of_block hb
theorem Tab.pos {w : World} (h : Tab w) : 0 < w.heap.size := by
  have := h 0 (by omega)
  rcases Nat.eq_zero_or_pos w.heap.size with h0 | h0
  · unfold World.cell? at this
    rw [Array.getElem?_eq_none (show w.heap.size ≤ (⟨0, 0, none⟩ : Addr).block by rw [h0]; exact Nat.zero_le _)] at this
    simp at this
  · exact h0
theorem Tab.below {w w' : World} (h : Tab w) (hb : Below w.heap.size w w') : Tab w' := h.kept (hb.block 0 h.pos)

theorem tz_key (x a : Nat) (hx : x < 18446744073709551616) (hx0 : x ≠ 0) (hlow : x &&& (18446744073709551616 - x) = a) :
    IntKind.u64.wrap (bits BinOp.and IntKind.u64 (x : Int) (IntKind.u64.wrap (-(x : Int))) * 285870213051353865) / 288230376151711744 = ((a * 285870213051353865 % 18446744073709551616 / 288230376151711744 : Nat) : Int) := by
  have e1 : IntKind.u64.wrap (-(x : Int)) = ((18446744073709551616 - x : Nat) : Int) := by rw [IntKind.wrap_u64]; omega
  rw [e1, u64_and_nat x _ hx (by omega), hlow, IntKind.wrap_u64]
  omega

set_option maxHeartbeats 1000000 in
theorem tz_core (x k idx : Nat) (w : World) (hx0 : ((x : Int) == 0) = false)
    (key : IntKind.u64.wrap (bits BinOp.and IntKind.u64 (x : Int) (IntKind.u64.wrap (-(x : Int))) * 285870213051353865) / 288230376151711744 = (idx : Int))
    (hi : idx < 64) (hk : k < 64) (hcell : w.cell? ⟨0, idx, none⟩ = some (.int .u8 k)) :
    Calls Tryd.prog 142 #[.int .u64 x] w fun e w' => e = .returned (.int .i64 k) ∧ w = w' := by
  go_enter Tryd.func142, Tryd.ntmps142
  go_wp2_with (simp only [key])
  go_ret
  exact ⟨rfl, rfl⟩

theorem tz_any (x : Nat) (w : World) (hx : x < 18446744073709551616) (hx0 : x ≠ 0) (hT : Tab w) :
    Calls Tryd.prog 142 #[.int .u64 x] w fun e w' => e = .returned (.int .i64 (Lib.ctz 64 x : Nat)) ∧ w = w' := by
  obtain ⟨hlow, hk⟩ := Lib.lowest_bit 64 x hx0 hx
  obtain ⟨hi, htab⟩ := Lib.deBruijn64_at _ hk
  have hcell := hT _ hi
  rw [htab] at hcell
  exact tz_core x _ _ w (by simp; omega) (tz_key x _ hx hx0 hlow) hi hk hcell

theorem and255 (x : Nat) (hx : x < 18446744073709551616) : bits BinOp.and IntKind.u64 (x : Int) 255 = ((x &&& 255 : Nat) : Int) := u64_and_nat x 255 hx (by omega)
theorem and_pred (x : Nat) (h0 : 0 < x) (hx : x < 18446744073709551616) : bits BinOp.and IntKind.u64 (x : Int) ((x : Int) - 1) = ((x &&& (x - 1) : Nat) : Int) := by
  rw [show ((x : Int) - 1) = ((x - 1 : Nat) : Int) from by omega]
  exact u64_and_nat x (x - 1) hx (by omega)

set_option maxHeartbeats 1000000 in
theorem select_none (x : Nat) (k : Int) (w : World) (hx : x < 18446744073709551616) (h : k < 0 ∨ (onesTo x 64 : Int) ≤ k) :
    Calls Tryd.prog 113 #[.int .u64 (x : Int), .int .i64 k] w fun e w' => e = .returned (.int .i64 64) ∧ w = w' := by
  have HO := hid (fun W => ones64_any x W hx)
  by_cases h0 : k < 0
  · have hd : decide (k < 0) = true := decide_eq_true h0
    go_enter Tryd.func113, Tryd.ntmps113
    go_wp2_with fail
    go_step3
    go_wp2
    rw [Exit.noGoto_ret]
    go_ret
    exact ⟨rfl, rfl⟩
  · have hd : decide (k < 0) = false := decide_eq_false h0
    have h1 : (onesTo x 64 : Int) ≤ k := by omega
    generalize onesTo x 64 = o at *
    go_enter Tryd.func113, Tryd.ntmps113
    go_wp2_with fail
    go_step3
    go_wp2_with (go_at_call 141; refine (HO.out _).mono ?_; rintro e w' ⟨rfl, rfl⟩)
    rw [Exit.noGoto_ret]
    go_ret
    exact ⟨rfl, rfl⟩

set_option maxHeartbeats 2000000 in
theorem select_at (x p : Nat) (k : Nat) (w : World) (hx : x < 18446744073709551616) (hT : Tab w) (hp : x.testBit p = true) (hk : onesTo x p = k) (h64 : p < 64) :
    Calls Tryd.prog 113 #[.int .u64 (x : Int), .int .i64 (k : Nat)] w fun e w' => e = .returned (.int .i64 (p : Nat)) ∧ w = w' := by
  have HO := hid (fun W => ones64_any x W hx)
  have hst := onesTo_step x p 64 h64 hp
  have ho64 := onesTo_le x 64
  generalize onesTo x 64 = o at *
  have hki : (k : Int) < (o : Int) := by omega
  have hk2 : ¬ (o : Int) ≤ (k : Int) := by omega
  have HP := hid hp
  have HK := hid hk
  clear hp hk
  go_enter Tryd.func113, Tryd.ntmps113
  go_wp2_with fail
  refine wp_scope_falls (fun l a' w' => (l = 0 ∨ l = 1) ∧ w' = w ∧ ∃ (W K P at0 : Nat) (X Y Z : Int) (u2 u3 u6 u7 u8 u9 u10 u11 u12 u13 u14 u15 u16 u17 u18 u19 u20 u21 u22 u23 u24 u25 u26 u27 u28 u29 u30 u31 u32 u33 u34 u35 u36 u37 u38 u39 u40 u41 : Value), a' = { tmps := #[.int .u64 X, .int .i64 Y, u2, u3, .int .i64 0, .int .i64 Z, u6, u7, u8, u9, u10, u11, u12, u13, u14, u15, u16, u17, u18, u19, u20, u21, u22, u23, u24, u25, u26, u27, u28, u29, u30, u31, u32, u33, u34, u35, u36, u37, u38, u39, u40, u41], defers := [] } ∧ X = (W : Nat) ∧ Y = (K : Nat) ∧ Z = (at0 : Nat) ∧ W < 18446744073709551616 ∧ K ≤ 64 ∧ at0 + P = p ∧ Hid (W.testBit P = true) ∧ Hid (onesTo W P = K)) (fun l a' _ => if l = 0 then 200 + (64 - (intOf (a'.tmps.getD 5 undef)).toNat) else (intOf (a'.tmps.getD 1 undef)).toNat) ?_ ?_ ?_
  · rintro l a' w' ⟨h | h, _⟩
    · subst h; exact ⟨_, rfl⟩
    · subst h; exact ⟨_, rfl⟩
  · rintro l B hB a' w' ⟨hl, rfl, W, K, P, at0, X, Y, Z, u2, u3, u6, u7, u8, u9, u10, u11, u12, u13, u14, u15, u16, u17, u18, u19, u20, u21, u22, u23, u24, u25, u26, u27, u28, u29, u30, u31, u32, u33, u34, u35, u36, u37, u38, u39, u40, u41, rfl, rfl, rfl, rfl, hW, hK64, hP, hb, ho⟩ fall
    rcases hl with rfl | rfl
    · injection hB with hB
      injection hB with _ hB
      subst hB
      have hmask : W &&& 255 < 18446744073709551616 := Nat.lt_of_le_of_lt Nat.and_le_left hW
      have hma := and255 W hW
      have H1 := hid (show ∀ V, Calls Tryd.prog 141 #[.int .u64 ((W &&& 255 : Nat) : Int)] V fun e w' => e = .returned (.int .i64 (onesTo W 8 : Nat)) ∧ V = w' from fun V => by
        have := ones64_any (W &&& 255) V hmask
        rw [onesTo_mask W 8 64 (by omega)] at this
        exact this)
      have h8 := onesTo_le W 8
      have HN := hid (octet_on W P hb.out)
      have HO8 := hid (ho.out)
      generalize onesTo W 8 = c8 at *
      by_cases hc : c8 ≤ K
      · have hc' : (c8 : Int) ≤ (K : Int) := by omega
        obtain ⟨n1, n2, n3⟩ := HN.out (by rw [ho.out]; exact hc)
        rw [ho.out] at n3
        have N2 := hid n2
        have N3 := hid n3
        clear n2 n3
        go_wp2_with (go_at_call 141; refine (H1.out _).mono ?_; rintro e w' ⟨rfl, rfl⟩)
        go_step3
        refine ⟨⟨Or.inl rfl, rfl, W / 256, K - c8, P - 8, at0 + 8, _, _, _, _, _, _, _, _, _, _, _, _, _, _, _, _, _, _, _, _, _, _, _, _, _, _, _, _, _, _, _, _, _, _, _, _, _, _, _, _, _, rfl, by omega, by omega, by omega, by omega, by omega, by omega, N2, N3⟩, ?_⟩
        simp [intOf]; omega
      · have hc' : ¬ ((c8 : Int) ≤ (K : Int)) := by omega
        go_wp2_with (go_at_call 141; refine (H1.out _).mono ?_; rintro e w' ⟨rfl, rfl⟩)
        go_step3
        rename_i hQ
        refine hQ _ _ (fall 1 _ rfl _ _ ⟨Or.inr rfl, rfl, W, K, P, at0, _, _, _, _, _, _, _, _, _, _, _, _, _, _, _, _, _, _, _, _, _, _, _, _, _, _, _, _, _, _, _, _, _, _, _, _, _, _, _, _, _, rfl, rfl, rfl, rfl, hW, hK64, hP, hb, ho⟩ ?_)
        simp [intOf]; omega
    · injection hB with hB
      injection hB with _ hB
      subst hB
      have hW0 : W ≠ 0 := by intro e; have := hb.out; subst e; simp at this
      have HTZ := hid (fun V hV => tz_any W V hW hW0 hV)
      by_cases hK0 : K = 0
      · subst hK0
        have hct := low_first W P hW hb.out ho.out
        have hki : ¬ ((0 : Int) < ((0 : Nat) : Int)) := by omega
        rw [hct] at HTZ
        clear hct
        go_wp2_with (go_at_call 142; refine (HTZ.out _ hT).mono ?_; rintro e w' ⟨rfl, rfl⟩)
        go_ret
        exact ⟨by rw [← hP]; rfl, rfl⟩
      · have hkp : (0 : Int) < (K : Int) := by omega
        obtain ⟨n1, n2, n3⟩ := low_on W P hW hb.out (by rw [ho.out]; omega)
        rw [ho.out] at n2
        have N1 := hid n1
        have N2 := hid n2
        have hap := and_pred W (by omega) hW
        have hcut : W &&& (W - 1) < 18446744073709551616 := Nat.lt_of_le_of_lt Nat.and_le_left hW
        have hw1 : (1 : Int) ≤ (W : Int) := by omega
        clear n1 n2 hK0
        go_wp2_with (go_at_call 142; refine (HTZ.out _ hT).mono ?_; rintro e w' ⟨rfl, rfl⟩)
        go_step3
        refine ⟨⟨Or.inr rfl, rfl, W &&& (W - 1), K - 1, P, at0, _, _, _, _, _, _, _, _, _, _, _, _, _, _, _, _, _, _, _, _, _, _, _, _, _, _, _, _, _, _, _, _, _, _, _, _, _, _, _, _, _, rfl, by first | rfl | exact hap, by omega, rfl, hcut, by omega, hP, N1, N2⟩, ?_⟩
        simp [intOf]; omega
  · intro enter
    go_wp2_with (go_at_call 141; refine (HO.out _).mono ?_; rintro e w' ⟨rfl, rfl⟩)
    go_step3
    rename_i hQ
    refine hQ _ _ (enter 0 _ rfl _ _ ?_)
    exact ⟨Or.inl rfl, rfl, x, k, p, 0, _, _, _, _, _, _, _, _, _, _, _, _, _, _, _, _, _, _, _, _, _, _, _, _, _, _, _, _, _, _, _, _, _, _, _, _, _, _, _, _, _, rfl, rfl, rfl, rfl, hx, by omega, by omega, HP, HK⟩

theorem select_any (x : Nat) (k : Int) (w : World) (hx : x < 18446744073709551616) (hT : Tab w) :
    Calls Tryd.prog 113 #[.int .u64 (x : Int), .int .i64 k] w fun e w' => e = .returned (.int .i64 (selN x k : Nat)) ∧ w = w' := by
  by_cases h : k < 0 ∨ (onesTo x 64 : Int) ≤ k
  · rw [selN_none x k h]; exact select_none x k w hx h
  · obtain ⟨n, rfl⟩ := Int.eq_ofNat_of_zero_le (show 0 ≤ k by omega)
    obtain ⟨p, hp, h1, h2⟩ := sel_exists x n 64 (by omega)
    rw [selN_eq x p _ h1 (by rw [h2]) hp]
    exact select_at x p n w hx hT h1 h2 hp

end Go.Proofs.YtlpnbkfcbamnbaaDoor
