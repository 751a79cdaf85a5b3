/- Walks: where a beginning has an excess (minmax.Tree.Forth). -/
import Derived.Test.YtlpnbkfcbamnbaaDoorMinmaxF
set_option linter.unusedVariables false
set_option linter.unusedSimpArgs false
set_option maxRecDepth 100000
namespace Go.Proofs.YtlpnbkfcbamnbaaDoor
open Go.RowKit L

theorem pForth_nat (g : Nat) (A : Option Addr) (c : Nat) (bs : List Bool) (a b : Nat) (j d : Int) (w : World) (hr : RowAt w g A c bs) (ha : a ≤ bs.length) (hj : (a : Int) ≤ j) (hb : b = min j.toNat bs.length) (hd1 : -9223372036854775808 ≤ d) (hd2 : d ≤ 9223372036854775807) :
    Calls Tryd.prog 147 #[.pointer (some ⟨g, 0, none⟩), .int .i64 (a : Nat), .int .i64 j, .int .i64 d] w fun e w' => e = .returned (.int .i64 (forthN (bitAt bs) a b d)) ∧ ∃ m, w' = w.drewN m := by
  have h := pForth_any g A c bs (a : Nat) j d w hr hd1 hd2
  have e1 : held bs.length (a : Nat) = a := by unfold held; omega
  have e2 : heldTo bs.length (a : Nat) j = b := by unfold heldTo; rw [e1]; omega
  rwa [e1, e2] at h

namespace L
/-- Going up, at a node: nothing up to its end has the excess. -/
def UpS (f : Nat → Bool) (n F p : Nat) (d : Int) (k : Nat) (e : Int) : Prop := e = eb f p (nB n F k) ∧ p ≤ nB n F k ∧ fnd (sh f p) d (nB n F k - p) = 0
/-- Going down, at a node: within it is what has it first. -/
def DnS (f : Nat → Bool) (n F p : Nat) (d : Int) (k : Nat) (e : Int) : Prop := e = eb f p (nA n F k) ∧ p ≤ nA n F k ∧ fnd (sh f p) d (nA n F k - p) = 0 ∧ fnd (sh f p) d (nB n F k - p) ≠ 0
theorem UpS.small {f : Nat → Bool} {n F p : Nat} {d : Int} {k : Nat} {e : Int} (u : UpS f n F p d k e) (hn : n ≤ 4294967296) (hk : k ≠ 0) : -4294967296 ≤ e ∧ e ≤ 4294967296 := by
  have h1 := eb_abs f p (nB n F k)
  have h2 := nA_le n F k hk
  rw [u.1]; omega
theorem DnS.small {f : Nat → Bool} {n F p : Nat} {d : Int} {k : Nat} {e : Int} (u : DnS f n F p d k e) (hn : n ≤ 4294967296) (hk : k ≠ 0) : -4294967296 ≤ e ∧ e ≤ 4294967296 := by
  have h1 := eb_abs f p (nA n F k)
  have h2 := nA_le n F k hk
  rw [u.1]; omega
section
variable {f : Nat → Bool} {n h p : Nat} {d : Int} {k : Nat} {e : Int}
theorem UpS.done (u : UpS f n (2 ^ h) p d 1 e) (hn : n ≤ 512 * 2 ^ h) : forthN f p n d = -1 := by
  have h3 := u.2.2
  rw [(n_root n h hn).2] at h3
  exact L.forthN_none _ _ _ _ h3
theorem UpS.odd {j : Nat} (u : UpS f n (2 ^ h) p d k e) (hk : k = 2 * j + 1) (h0 : 0 < j) (hj : j < 2 ^ h) : UpS f n (2 ^ h) p d j e := by
  have q := (n_child n h j h0 hj).2.2
  rw [← hk] at q
  unfold UpS at *
  rw [q] at u; exact u
theorem UpS.within {j : Nat} (u : UpS f n (2 ^ h) p d k e) (hk : k = 2 * j) (h0 : 0 < j) (hj : j < 2 ^ h) (hi : inr (mv (nF f n (2 ^ h) (k + 1)) e) d = true) : DnS f n (2 ^ h) p d (k + 1) e := by
  obtain ⟨q1, q2, q3⟩ := n_child n h j h0 hj
  rw [← hk] at q1 q2 q3
  obtain ⟨u1, u2, u3⟩ := u
  have hab := (nA_le n (2 ^ h) (k + 1) (by omega)).1
  rw [q2] at u1 u2 u3
  have := (near_forth f p (nA n (2 ^ h) (k + 1)) (nB n (2 ^ h) (k + 1)) d u2 hab u3).1 (by rw [← u1]; exact hi)
  exact ⟨u1, u2, u3, this⟩
theorem UpS.past {j : Nat} (u : UpS f n (2 ^ h) p d k e) (hk : k = 2 * j) (h0 : 0 < j) (hj : j < 2 ^ h) (hi : inr (mv (nF f n (2 ^ h) (k + 1)) e) d = false) : UpS f n (2 ^ h) p d j (e + nE f n (2 ^ h) (k + 1)) := by
  obtain ⟨q1, q2, q3⟩ := n_child n h j h0 hj
  rw [← hk] at q1 q2 q3
  obtain ⟨u1, u2, u3⟩ := u
  have hab := (nA_le n (2 ^ h) (k + 1) (by omega)).1
  rw [q2] at u1 u2 u3
  have hn := near_forth f p (nA n (2 ^ h) (k + 1)) (nB n (2 ^ h) (k + 1)) d u2 hab u3
  refine ⟨?_, by rw [← q3]; omega, ?_⟩
  · rw [u1, ← q3]; exact eb_add f _ _ _ u2 hab
  · rw [← q3]
    refine Classical.byContradiction fun hc => ?_
    have := hn.2 hc
    unfold nF at hi
    rw [← u1] at this
    rw [this] at hi; cases hi
theorem DnS.leaf (u : DnS f n (2 ^ h) p d k e) (hk : k ≠ 0) : nA n (2 ^ h) k < nB n (2 ^ h) k ∧ forthN f (nA n (2 ^ h) k) (nB n (2 ^ h) k) (d - e) = forthN f p n d := by
  obtain ⟨u1, u2, u3, u4⟩ := u
  have hab := nA_le n (2 ^ h) k hk
  refine ⟨?_, ?_⟩
  · rcases Nat.eq_or_lt_of_le hab.1 with h2 | h2
    · rw [← h2] at u4; exact absurd u3 u4
    · exact h2
  · rw [u1]; exact far_forth f p _ _ n d u2 hab.1 hab.2 u3 u4
theorem DnS.left (u : DnS f n (2 ^ h) p d k e) (h0 : 0 < k) (hk : k < 2 ^ h) (hi : inr (mv (nF f n (2 ^ h) (2 * k)) e) d = true) : DnS f n (2 ^ h) p d (2 * k) e := by
  obtain ⟨q1, q2, q3⟩ := n_child n h k h0 hk
  obtain ⟨u1, u2, u3, u4⟩ := u
  rw [← q1] at u1 u2 u3
  have hab := (nA_le n (2 ^ h) (2 * k) (by omega)).1
  have := (near_forth f p (nA n (2 ^ h) (2 * k)) (nB n (2 ^ h) (2 * k)) d u2 hab u3).1 (by rw [← u1]; exact hi)
  exact ⟨u1, u2, u3, this⟩
theorem DnS.right (u : DnS f n (2 ^ h) p d k e) (h0 : 0 < k) (hk : k < 2 ^ h) (hi : inr (mv (nF f n (2 ^ h) (2 * k)) e) d = false) : DnS f n (2 ^ h) p d (2 * k + 1) (e + nE f n (2 ^ h) (2 * k)) := by
  obtain ⟨q1, q2, q3⟩ := n_child n h k h0 hk
  obtain ⟨u1, u2, u3, u4⟩ := u
  rw [← q1] at u1 u2 u3
  have hab := (nA_le n (2 ^ h) (2 * k) (by omega)).1
  have hn := near_forth f p (nA n (2 ^ h) (2 * k)) (nB n (2 ^ h) (2 * k)) d u2 hab u3
  refine ⟨?_, by rw [← q2]; omega, ?_, by rw [q3]; exact u4⟩
  · rw [u1, ← q2]; exact eb_add f _ _ _ u2 hab
  · rw [← q2]
    refine Classical.byContradiction fun hc => ?_
    have := hn.2 hc
    unfold nF at hi
    rw [← u1] at this
    rw [this] at hi; cases hi
end
end L

/-- A frame of Forth. -/
def FrF (g : Nat) (d e : Int) (i : Nat) (a : Act) : Prop := ∃ f : Nat → Value, a = { tmps := #[.pointer (some ⟨g, 0, none⟩), f 1, .int .i64 d, f 3, f 4, f 5, f 6, f 7, f 8, .int .i64 e, .int .i64 (i : Nat), f 11, f 12, f 13, f 14, f 15, f 16, f 17, f 18, f 19, f 20, f 21, f 22, f 23, f 24, f 25, f 26, f 27, f 28, f 29, f 30, f 31, f 32, f 33, f 34, f 35, f 36, f 37, f 38, f 39, f 40, f 41, f 42, f 43, f 44, f 45, f 46, f 47, f 48, f 49, f 50, f 51, f 52, f 53, f 54, f 55, f 56, f 57, f 58, f 59, f 60, f 61, f 62, f 63, f 64, f 65, f 66, f 67, f 68, f 69, f 70, f 71, f 72, f 73, f 74, f 75, f 76, f 77, f 78, f 79, f 80, f 81, f 82, f 83, f 84, f 85, f 86, f 87, f 88, f 89, f 90, f 91, f 92, f 93, f 94, f 95, f 96, f 97, f 98, f 99, f 100, f 101, f 102, f 103, f 104, f 105, f 106, f 107, f 108, f 109, f 110, f 111, f 112, f 113, f 114, f 115, f 116, f 117, f 118, f 119, f 120, f 121, f 122, f 123, f 124, f 125, f 126, f 127, f 128, f 129, f 130, f 131, f 132, f 133, f 134, f 135, f 136, f 137, f 138, f 139, f 140, f 141, f 142, f 143, f 144, f 145], defers := [] }
theorem FrF.mk (g : Nat) (d e : Int) (i : Nat) (u1 u3 u4 u5 u6 u7 u8 u11 u12 u13 u14 u15 u16 u17 u18 u19 u20 u21 u22 u23 u24 u25 u26 u27 u28 u29 u30 u31 u32 u33 u34 u35 u36 u37 u38 u39 u40 u41 u42 u43 u44 u45 u46 u47 u48 u49 u50 u51 u52 u53 u54 u55 u56 u57 u58 u59 u60 u61 u62 u63 u64 u65 u66 u67 u68 u69 u70 u71 u72 u73 u74 u75 u76 u77 u78 u79 u80 u81 u82 u83 u84 u85 u86 u87 u88 u89 u90 u91 u92 u93 u94 u95 u96 u97 u98 u99 u100 u101 u102 u103 u104 u105 u106 u107 u108 u109 u110 u111 u112 u113 u114 u115 u116 u117 u118 u119 u120 u121 u122 u123 u124 u125 u126 u127 u128 u129 u130 u131 u132 u133 u134 u135 u136 u137 u138 u139 u140 u141 u142 u143 u144 u145 : Value) : FrF g d e i { tmps := #[.pointer (some ⟨g, 0, none⟩), u1, .int .i64 d, u3, u4, u5, u6, u7, u8, .int .i64 e, .int .i64 (i : Nat), u11, u12, u13, u14, u15, u16, u17, u18, u19, u20, u21, u22, u23, u24, u25, u26, u27, u28, u29, u30, u31, u32, u33, u34, u35, u36, u37, u38, u39, u40, u41, u42, u43, u44, u45, u46, u47, u48, u49, u50, u51, u52, u53, u54, u55, u56, u57, u58, u59, u60, u61, u62, u63, u64, u65, u66, u67, u68, u69, u70, u71, u72, u73, u74, u75, u76, u77, u78, u79, u80, u81, u82, u83, u84, u85, u86, u87, u88, u89, u90, u91, u92, u93, u94, u95, u96, u97, u98, u99, u100, u101, u102, u103, u104, u105, u106, u107, u108, u109, u110, u111, u112, u113, u114, u115, u116, u117, u118, u119, u120, u121, u122, u123, u124, u125, u126, u127, u128, u129, u130, u131, u132, u133, u134, u135, u136, u137, u138, u139, u140, u141, u142, u143, u144, u145], defers := [] } :=
  ⟨fun i => ([undef, u1, undef, u3, u4, u5, u6, u7, u8, undef, undef, u11, u12, u13, u14, u15, u16, u17, u18, u19, u20, u21, u22, u23, u24, u25, u26, u27, u28, u29, u30, u31, u32, u33, u34, u35, u36, u37, u38, u39, u40, u41, u42, u43, u44, u45, u46, u47, u48, u49, u50, u51, u52, u53, u54, u55, u56, u57, u58, u59, u60, u61, u62, u63, u64, u65, u66, u67, u68, u69, u70, u71, u72, u73, u74, u75, u76, u77, u78, u79, u80, u81, u82, u83, u84, u85, u86, u87, u88, u89, u90, u91, u92, u93, u94, u95, u96, u97, u98, u99, u100, u101, u102, u103, u104, u105, u106, u107, u108, u109, u110, u111, u112, u113, u114, u115, u116, u117, u118, u119, u120, u121, u122, u123, u124, u125, u126, u127, u128, u129, u130, u131, u132, u133, u134, u135, u136, u137, u138, u139, u140, u141, u142, u143, u144, u145] : List Value)[i]?.getD undef, rfl⟩

set_option maxHeartbeats 4000000 in
theorem mmForth_any (g gl gx : Nat) (A : Option Addr) (c : Nat) (bs : List Bool) (h : Nat) (i d : Int) (w : World) (t : TreeAt w g gl gx A c bs h) (hd1 : -9223372036854775808 ≤ d) (hd2 : d ≤ 9223372036854775807) :
    Calls Tryd.prog 126 #[.pointer (some ⟨g, 0, none⟩), .int .i64 i, .int .i64 d] w fun e w' => e = .returned (.int .i64 (forthN (bitAt bs) (held bs.length i) bs.length d)) ∧ ∃ m, w' = w.drewN m := by
  have hsm := t.row.small
  have hp := held_le bs.length i
  have hpI := held_clamp bs.length i
  have HMA := hid (fun W hW => mmMay_any g gl gx A c bs h d W hW)
  generalize held bs.length i = p at *
  by_cases hmay : d ≤ (bs.length : Int) ∧ -(bs.length : Int) ≤ d
  case neg =>
    rw [show (decide (d ≤ (bs.length : Int)) && decide (-(bs.length : Int) ≤ d)) = false by simp; omega] at HMA
    have HR := hid (L.forthN_none (bitAt bs) p bs.length d (fnd_far _ _ _ (by omega)))
    go_enter Tryd.func126, Tryd.ntmps126
    go_wp2_with fail
    refine wp_scope_falls (fun _ _ _ => False) (fun _ _ _ => 0) (fun _ _ _ h => h.elim) (fun _ _ _ _ _ h => h.elim) ?_
    intro enter
    clear enter
    go_wp2_with fail
    refine (HMA.out _ t).mono ?_
    rintro e w' ⟨rfl, rfl⟩
    go_wp2_with fail
    (try simp only [Exit.jumps])
    go_ret
    exact ⟨by rw [HR.out]; rfl, 0, rfl⟩
  case pos =>
    rw [show (decide (d ≤ (bs.length : Int)) && decide (-(bs.length : Int) ≤ d)) = true by simp; omega] at HMA
    have hr := t.row
    have hcl := hr.cells.2
    have hFs := pow_small t.least hsm
    have hF1 := Nat.two_pow_pos h
    have hfit := t.fits
    have k0 : w.cell? ⟨g, 0, none⟩ = some (.pointer (some ⟨gx, 0, none⟩)) := t.blk.cell 0
    have k1 : w.cell? ⟨g, 1, none⟩ = some (.slice (some ⟨gl, 0, none⟩) (2 * 2 ^ h) (2 * 2 ^ h)) := t.blk.cell 1
    have k2 : w.cell? ⟨g, 2, none⟩ = some (.int .i64 (2 ^ h : Nat)) := t.blk.cell 2
    have HCE := hid (fun k (h0 : 0 < k) (hk : k < 2 * 2 ^ h) => t.cellE h0 hk)
    have HCF := hid (fun k (h0 : 0 < k) (hk : k < 2 * 2 ^ h) => t.cellF h0 hk)
    have HTT := hid t
    have HFO := hid (fun a b j d' W hW ha hj hb h1 h2 => pForth_nat gx A c bs a b j d' W hW ha hj hb h1 h2)
    obtain ⟨F, hF⟩ : ∃ F, 2 ^ h = F := ⟨_, rfl⟩
    rw [hF] at k1 k2 hFs hF1 hfit
    have HF := hid hF
    clear hF t
    obtain ⟨M, hM⟩ : ∃ M, M = 2 * F := ⟨_, rfl⟩
    rw [← hM] at k1
    have hMb : M ≤ 33554432 := by omega
    have HME := hid hM
    clear hM
    go_enter Tryd.func126, Tryd.ntmps126
    go_wp2_with fail
    refine wp_scope_falls (fun l a' w' => (∃ m, w' = w.drewN m) ∧ ∃ (k : Nat) (e : Int), FrF g d e k a' ∧ 1 ≤ k ∧ k < M ∧ ((l = 0 ∧ UpS (bitAt bs) bs.length (2 ^ h) p d k e) ∨ (l = 1 ∧ DnS (bitAt bs) bs.length (2 ^ h) p d k e))) (fun l a' _ => if l = 0 then 2 * M + (intOf (a'.tmps.getD 10 undef)).toNat else M - (intOf (a'.tmps.getD 10 undef)).toNat) ?_ ?_ ?_
    · rintro l a' w' ⟨_, k, e, _, _, _, ⟨h1, _⟩ | ⟨h1, _⟩⟩
      · subst h1; exact ⟨_, rfl⟩
      · subst h1; exact ⟨_, rfl⟩
    · rintro l B hB a' w' ⟨⟨m, rfl⟩, k, e, ⟨f, rfl⟩, hk1, hkM, hl⟩ fall
      rcases hl with ⟨rfl, hu⟩ | ⟨rfl, hu⟩
      · injection hB with hB
        injection hB with _ hB
        subst hB
        have hsmall := hu.small hsm (by omega)
        by_cases h1 : k = 1
        · subst h1
          have HR := hid (hu.done (by rw [HF.out]; exact hfit))
          clear hu
          go_wp2_with fail
          (try simp only [Exit.jumps])
          go_ret
          exact ⟨by rw [HR.out]; rfl, m, rfl⟩
        · have g1 : ((k : Int) == 1) = false := by rw [beq_eq_false_iff_ne]; omega
          have g1N : ¬ k = 1 := h1
          obtain ⟨j, hj⟩ : ∃ j, j = k / 2 := ⟨_, rfl⟩
          have hjI : (k : Int) / 2 = (j : Int) := by omega
          have hj0 : 0 < j := by omega
          have hjF : j < F := by have := HME.out; omega
          rcases Nat.mod_two_eq_zero_or_one k with h2 | h2
          · have g2 : ((k : Int) % 2) = 0 := by omega
            have hkj : k = 2 * j := by omega
            have HW := hid (fun hi => hu.within hkj hj0 (by rw [HF.out]; exact hjF) hi)
            have HP := hid (fun hi => hu.past hkj hj0 (by rw [HF.out]; exact hjF) hi)
            obtain ⟨b, hb⟩ : ∃ b, b = k + 1 := ⟨_, rfl⟩
            rw [← hb] at HW HP
            have hbw : IntKind.i64.wrap ((k : Int) + 1) = (b : Int) := by rw [IntKind.wrap_i64]; omega
            have hbM : (b : Int) < (M : Int) := by have := HME.out; omega
            have hb0 : (0 : Int) ≤ (b : Int) := by omega
            have cE : w.cell? ⟨gl, b * 3, none⟩ = some (.int .i64 (nE (bitAt bs) bs.length (2 ^ h) b)) := by rw [Nat.mul_comm]; exact HCE.out b (by omega) (by rw [HF.out]; have := HME.out; omega)
            have cF : w.cell? ⟨gl, b * 3 + 1, none⟩ = some (.complex .f64 (lxf (nF (bitAt bs) bs.length (2 ^ h) b)) (uxf (nF (bitAt bs) bs.length (2 ^ h) b))) := by rw [Nat.mul_comm]; exact HCF.out b (by omega) (by rw [HF.out]; have := HME.out; omega)
            have hsF := nF_small (bitAt bs) bs.length (2 ^ h) b hsm (by omega)
            have hsE := nE_small (bitAt bs) bs.length (2 ^ h) b hsm (by omega)
            have HMV := hid (fun W => moved_any (nF (bitAt bs) bs.length (2 ^ h) b) e W hsF.bd (by omega))
            have HWI := hid (fun W => within_any (mv (nF (bitAt bs) bs.length (2 ^ h) b) e) d W (hsF.mv (by omega)) (by omega))
            have HB := hid hb
            have HJ := hid hj
            clear hu hj hkj hb hsF h2
            generalize nF (bitAt bs) bs.length (2 ^ h) b = R at *
            generalize nE (bitAt bs) bs.length (2 ^ h) b = E at *
            have hwE : IntKind.i64.wrap (e + E) = e + E := by rw [IntKind.wrap_i64]; omega
            go_wp2_with fail
            refine (HMV.out _).mono ?_
            rintro x w' ⟨rfl, rfl⟩
            go_wp2_with fail
            refine (HWI.out _).mono ?_
            rintro x w' ⟨rfl, rfl⟩
            cases hin : inr (mv R e) d with
            | true =>
              have HD := hid (HW.out hin)
              clear HW HP hin HWI HMV
              go_wp2_with fail
              go_step3
              refine ⟨⟨⟨m, rfl⟩, b, e, FrF.mk .., by have := HB.out; omega, by have := HB.out; omega, Or.inr ⟨rfl, HD.out⟩⟩, ?_⟩
              simp [intOf]; omega
            | false =>
              have HD := hid (HP.out hin)
              clear HW HP hin HWI HMV
              go_wp2_with fail
              go_step3
              refine ⟨⟨⟨m, rfl⟩, j, e + E, FrF.mk .., by omega, by omega, Or.inl ⟨rfl, HD.out⟩⟩, ?_⟩
              have := HJ.out
              simp [intOf]; omega
          · have g2 : ((k : Int) % 2) = 1 := by omega
            have HD := hid (hu.odd (show k = 2 * j + 1 by omega) hj0 (by rw [HF.out]; exact hjF))
            have HJ := hid hj
            clear hu hj h2
            go_wp2_with fail
            go_step3
            refine ⟨⟨⟨m, rfl⟩, j, e, FrF.mk .., by omega, by omega, Or.inl ⟨rfl, HD.out⟩⟩, ?_⟩
            have := HJ.out
            simp [intOf]; omega
      · injection hB with hB
        injection hB with _ hB
        subst hB
        have hsmall := hu.small hsm (by omega)
        rcases Nat.lt_or_ge k F with hkF | hkF
        · have g1 : ¬ ((F : Int) ≤ (k : Int)) := by omega
          have g1b : decide ((k : Int) ≥ (F : Int)) = false := decide_eq_false (by omega)
          have HL := hid (fun hi => hu.left hk1 (by rw [HF.out]; exact hkF) hi)
          have HR := hid (fun hi => hu.right hk1 (by rw [HF.out]; exact hkF) hi)
          obtain ⟨b, hb⟩ : ∃ b, b = 2 * k := ⟨_, rfl⟩
          rw [← hb] at HL HR
          have hbw : IntKind.i64.wrap ((k : Int) * 2) = (b : Int) := by rw [IntKind.wrap_i64]; omega
          have hbw2 : IntKind.i64.wrap ((b : Int) + 1) = ((b + 1 : Nat) : Int) := by rw [IntKind.wrap_i64]; omega
          have hbM : (b : Int) < (M : Int) := by have := HME.out; omega
          have hb0 : (0 : Int) ≤ (b : Int) := by omega
          have cE : w.cell? ⟨gl, b * 3, none⟩ = some (.int .i64 (nE (bitAt bs) bs.length (2 ^ h) b)) := by rw [Nat.mul_comm]; exact HCE.out b (by omega) (by rw [HF.out]; have := HME.out; omega)
          have cF : w.cell? ⟨gl, b * 3 + 1, none⟩ = some (.complex .f64 (lxf (nF (bitAt bs) bs.length (2 ^ h) b)) (uxf (nF (bitAt bs) bs.length (2 ^ h) b))) := by rw [Nat.mul_comm]; exact HCF.out b (by omega) (by rw [HF.out]; have := HME.out; omega)
          have hsF := nF_small (bitAt bs) bs.length (2 ^ h) b hsm (by omega)
          have hsE := nE_small (bitAt bs) bs.length (2 ^ h) b hsm (by omega)
          have HMV := hid (fun W => moved_any (nF (bitAt bs) bs.length (2 ^ h) b) e W hsF.bd (by omega))
          have HWI := hid (fun W => within_any (mv (nF (bitAt bs) bs.length (2 ^ h) b) e) d W (hsF.mv (by omega)) (by omega))
          have HB := hid hb
          clear hu hb hsF
          generalize nF (bitAt bs) bs.length (2 ^ h) b = R at *
          generalize nE (bitAt bs) bs.length (2 ^ h) b = E at *
          have hwE : IntKind.i64.wrap (e + E) = e + E := by rw [IntKind.wrap_i64]; omega
          go_wp2_with fail
          refine (HMV.out _).mono ?_
          rintro x w' ⟨rfl, rfl⟩
          go_wp2_with fail
          refine (HWI.out _).mono ?_
          rintro x w' ⟨rfl, rfl⟩
          cases hin : inr (mv R e) d with
          | true =>
            have HD := hid (HL.out hin)
            clear HL HR hin HWI HMV
            go_wp2_with fail
            go_step3
            refine ⟨⟨⟨m, rfl⟩, b, e, FrF.mk .., by have := HB.out; omega, by omega, Or.inr ⟨rfl, HD.out⟩⟩, ?_⟩
            have := HB.out
            simp [intOf]; omega
          | false =>
            have HD := hid (HR.out hin)
            clear HL HR hin HWI HMV
            go_wp2_with fail
            go_step3
            refine ⟨⟨⟨m, rfl⟩, b + 1, e + E, FrF.mk .., by omega, by have := HB.out; have := HME.out; omega, Or.inr ⟨rfl, HD.out⟩⟩, ?_⟩
            have := HB.out
            simp [intOf]; omega
        · have g1 : (F : Int) ≤ (k : Int) := by omega
          have g1b : decide ((k : Int) ≥ (F : Int)) = true := decide_eq_true (by omega)
          have hlf := hu.leaf (by omega)
          have hnl := n_leaf bs.length h k (by rw [HF.out]; exact hkF) (by rw [HF.out]; have := HME.out; omega)
          rw [hnl.1, hnl.2, HF.out] at hlf
          obtain ⟨B0, hB0⟩ : ∃ B0, B0 = k - F := ⟨_, rfl⟩
          rw [← hB0] at hlf
          have hB0b : B0 ≤ 16777216 := by have := HME.out; omega
          obtain ⟨at0, hat0⟩ : ∃ at0, at0 = 512 * B0 := ⟨_, rfl⟩
          rw [← hat0] at hlf
          have hlt : at0 < bs.length := by have := hlf.1; omega
          rw [show min at0 bs.length = at0 by omega] at hlf
          have w1 : IntKind.i64.wrap ((k : Int) - (F : Int)) = (B0 : Int) := by rw [IntKind.wrap_i64]; omega
          have w2 : IntKind.i64.wrap ((B0 : Int) * 512) = (at0 : Int) := by rw [IntKind.wrap_i64]; omega
          have w3 : IntKind.i64.wrap ((at0 : Int) + 512) = (at0 : Int) + 512 := by rw [IntKind.wrap_i64]; omega
          have w4 : IntKind.i64.wrap (d - e) = d - e := by rw [IntKind.wrap_i64]; omega
          have HFN := hid (fun W hW => HFO.out at0 (min (at0 + 512) bs.length) ((at0 : Int) + 512) (d - e) W hW (by omega) (by omega) (by omega) (by omega) (by omega))
          rw [hlf.2] at HFN
          clear hu hlf hnl hB0 hat0
          generalize hres : forthN (bitAt bs) p bs.length d = res at *
          have HRES := hid hres
          clear hres
          go_wp2_with fail
          refine (HFN.out _ (by exact hr)).mono ?_
          rintro x w' ⟨rfl, m2, rfl⟩
          go_wp2_with fail
          (try simp only [Exit.jumps])
          go_ret
          exact ⟨by rw [HRES.out]; rfl, _, rfl⟩
    · intro enter
      have hcp : min (max i 0) (bs.length : Int) = (p : Int) := hpI.symm
      obtain ⟨B, hB⟩ : ∃ B, B = p / 512 := ⟨_, rfl⟩
      have hBI : (p : Int) / 512 = (B : Int) := by omega
      obtain ⟨E0, hE0⟩ : ∃ E0, E0 = 512 * (B + 1) := ⟨_, rfl⟩
      have w1 : IntKind.i64.wrap ((B : Int) + 1) = (B : Int) + 1 := by rw [IntKind.wrap_i64]; omega
      have w2 : IntKind.i64.wrap (((B : Int) + 1) * 512) = (E0 : Int) := by rw [IntKind.wrap_i64]; omega
      have w3 : IntKind.i64.wrap ((F : Int) + (B : Int)) = ((F + B : Nat) : Int) := by rw [IntKind.wrap_i64]; omega
      have HP1 := hid (fun W hW => HFO.out p (min E0 bs.length) (E0 : Int) d W hW hp (by omega) (by omega) hd1 hd2)
      have HS1 := hid (L.forthN_some (bitAt bs) p (min E0 bs.length) bs.length d (by omega) (by omega))
      have HS2 := hid (L.forthN_neg (bitAt bs) p (min E0 bs.length) d)
      have hBE := hid (show E0 = 512 * (B + 1) ∧ B = p / 512 from ⟨hE0, hB⟩)
      have hpE : p ≤ E0 := by omega
      have hE0b : E0 ≤ 8589934592 := by omega
      clear hpI hB hE0
      generalize hr1 : forthN (bitAt bs) p (min E0 bs.length) d = r1 at *
      have HR1 := hid hr1
      clear hr1
      go_wp2_with fail
      refine (HMA.out _ HTT.out).mono ?_
      rintro x w' ⟨rfl, rfl⟩
      go_wp2_with fail
      refine (rlen_any gx (bs.length : Nat) _ hcl).mono ?_
      rintro x w' ⟨rfl, rfl⟩
      go_wp2_with fail
      refine (HP1.out _ hr).mono ?_
      rintro x w' ⟨rfl, m1, rfl⟩
      by_cases hne : r1 = -1
      · subst hne
        have hcl1 : (w.drewN m1).cell? ⟨gx, 1, none⟩ = some (.int .i64 (bs.length : Nat)) := hcl
        by_cases hge : bs.length ≤ E0
        · have g1 : decide ((E0 : Int) ≥ (bs.length : Int)) = true := decide_eq_true (by omega)
          have g1N : (bs.length : Int) ≤ (E0 : Int) := by omega
          have HR := hid (show forthN (bitAt bs) p bs.length d = -1 by have := HR1.out; rwa [show min E0 bs.length = bs.length by omega] at this)
          go_wp2_with fail
          refine (rlen_any gx (bs.length : Nat) _ hcl1).mono ?_
          rintro x w' ⟨rfl, rfl⟩
          go_wp2_with fail
          (try simp only [Exit.jumps])
          go_ret
          exact ⟨by rw [HR.out]; rfl, m1, rfl⟩
        · have g1 : decide ((E0 : Int) ≥ (bs.length : Int)) = false := decide_eq_false (by omega)
          have g1N : ¬ ((bs.length : Int) ≤ (E0 : Int)) := by omega
          have hz := HS2.out rfl
          have hmin : min E0 bs.length = E0 := by omega
          rw [hmin] at hz
          have hnl := (n_leaf bs.length h (F + B) (by rw [HF.out]; omega) (by rw [HF.out]; have := hBE.out; omega)).2
          rw [HF.out, show 512 * (F + B - F) + 512 = E0 by have := hBE.out; omega, hmin] at hnl
          have HU := hid (show UpS (bitAt bs) bs.length (2 ^ h) p d (F + B) (eb (bitAt bs) p E0) from ⟨by rw [HF.out, hnl], by rw [HF.out, hnl]; exact hpE, by rw [HF.out, hnl]; exact hz⟩)
          have HEX := hid (fun W hW => pExcess_nat gx A c bs p E0 W hW hpE (by omega))
          have hBF : F + B < M := by have := HME.out; have := hBE.out; omega
          have hr1' : RowAt (w.drewN m1) gx A c bs := hr
          clear hz hnl hmin HS1 HS2 HP1
          generalize eb (bitAt bs) p E0 = e at *
          go_wp2_with fail
          refine (rlen_any gx (bs.length : Nat) _ hcl1).mono ?_
          rintro x w' ⟨rfl, rfl⟩
          go_wp2_with fail
          refine (HEX.out _ hr1').mono ?_
          rintro x w' ⟨rfl, m2, rfl⟩
          go_wp2_with fail
          go_step3
          rename_i hQ
          refine hQ _ _ (enter 0 _ rfl _ _ ⟨⟨m1 + m2, by first | rfl | rw [World.drewN_drewN]⟩, F + B, e, FrF.mk .., by omega, hBF, Or.inl ⟨rfl, HU.out⟩⟩)
      · have g1 : (r1 != -1) = true := by rw [bne_iff_ne]; exact hne
        have g1b : (r1 == -1) = false := by rw [beq_eq_false_iff_ne]; exact hne
        have HR := hid (show forthN (bitAt bs) p bs.length d = r1 from (HS1.out hne).symm)
        clear HS1 HS2 HP1
        go_wp2_with fail
        (try simp only [Exit.jumps])
        go_ret
        exact ⟨by rw [HR.out]; rfl, m1, rfl⟩
end Go.Proofs.YtlpnbkfcbamnbaaDoor
