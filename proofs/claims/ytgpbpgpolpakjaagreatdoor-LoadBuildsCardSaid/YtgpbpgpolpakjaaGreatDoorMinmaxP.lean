/- The texts MinmaxE, MinmaxF, MinmaxG, MinmaxH, in one. -/
import Derived.Test.YtgpbpgpolpakjaaGreatDoorMinmaxQ
/- Walks: what a tree tells (minmax): excesses, what may be, balance, size. -/

set_option linter.unusedVariables false
set_option linter.unusedSimpArgs false
set_option maxRecDepth 100000
namespace Go.Proofs.YtgpbpgpolpakjaaGreatDoor
open Go.RowKit L

end Go.Proofs.YtgpbpgpolpakjaaGreatDoor

/- Walks: what may be, what is met, balance, size (minmax). -/

set_option linter.unusedVariables false
set_option linter.unusedSimpArgs false
set_option maxRecDepth 100000
namespace Go.Proofs.YtgpbpgpolpakjaaGreatDoor
open Go.RowKit L

theorem L.sh_zero (f : Nat → Bool) : sh f 0 = f := by funext i; unfold sh; rw [Nat.zero_add]
theorem mmSize_any (g gl gx : Nat) (A : Option Addr) (c : Nat) (bs : List Bool) (h : Nat) (w : World) (t : TreeAt w g gl gx A c bs h) :
    Calls Tryz.prog 185 #[.pointer (some ⟨g, 0, none⟩)] w fun e w' => e = .returned (.int .i64 (640 * 2 ^ h : Nat)) ∧ w = w' := by
  have hsm := t.row.small
  have hFs := pow_small t.least hsm
  have k1 : w.cell? ⟨g, 1, none⟩ = some (.slice (some ⟨gl, 0, none⟩) (2 * 2 ^ h) (2 * 2 ^ h)) := t.blk.cell 1
  clear t
  obtain ⟨M, hM⟩ : ∃ M, M = 2 * 2 ^ h := ⟨_, rfl⟩
  rw [show 640 * 2 ^ h = M * 320 by omega]
  rw [← hM] at k1
  have hMw : IntKind.i64.wrap ((M : Int) * 320) = ((M * 320 : Nat) : Int) := by rw [IntKind.wrap_i64]; omega
  clear hM
  go_enter Tryz.func185, Tryz.ntmps185
  go_wp2_with fail
  go_ret
  exact ⟨by go_num, rfl⟩

theorem ge_fl0 (a : Int) (h : Small a) : (FloatKind.f64.format.order (fl a) 0 == some .gt || FloatKind.f64.format.order (fl a) 0 == some .eq) = decide (0 ≤ a) := by
  have := ge_fl a 0 h (by unfold Small; omega)
  rw [fl_nil] at this; exact this

set_option maxHeartbeats 1000000 in
theorem mmBalanced_any (g gl gx : Nat) (A : Option Addr) (c : Nat) (bs : List Bool) (h : Nat) (w : World) (t : TreeAt w g gl gx A c bs h) :
    Calls Tryz.prog 88 #[.pointer (some ⟨g, 0, none⟩)] w fun e w' => e = .returned (.bool (bal (bitAt bs) bs.length)) ∧ w = w' := by
  have hsm := t.row.small
  have hFs := pow_small t.least hsm
  have hF1 := Nat.two_pow_pos h
  have hcl := t.row.cells.2
  have k0 : w.cell? ⟨g, 0, none⟩ = some (.pointer (some ⟨gx, 0, none⟩)) := t.blk.cell 0
  have k1 : w.cell? ⟨g, 1, none⟩ = some (.slice (some ⟨gl, 0, none⟩) (2 * 2 ^ h) (2 * 2 ^ h)) := t.blk.cell 1
  have cE : w.cell? ⟨gl, 3, none⟩ = some (.int .i64 (nE (bitAt bs) bs.length (2 ^ h) 1)) := t.cellE (i := 1) (by omega) (by omega)
  have cF : w.cell? ⟨gl, 4, none⟩ = some (.complex .f64 (lxf (nF (bitAt bs) bs.length (2 ^ h) 1)) (uxf (nF (bitAt bs) bs.length (2 ^ h) 1))) := t.cellF (i := 1) (by omega) (by omega)
  have HRO := n_root bs.length h t.fits
  have e1 : nE (bitAt bs) bs.length (2 ^ h) 1 = ex (bitAt bs) bs.length := by
    unfold nE eb; rw [HRO.1, HRO.2, sh_zero, Nat.sub_zero]
  have hex := ex_abs (bitAt bs) bs.length
  have hlo := lo_bound (bitAt bs) bs.length
  rw [e1] at cE
  obtain ⟨M, hM⟩ : ∃ M, M = 2 * 2 ^ h := ⟨_, rfl⟩
  rw [← hM] at k1
  have hM1 : (1 : Int) < (M : Int) := by omega
  clear hM
  have HB := hid (show bal (bitAt bs) bs.length = (decide (ex (bitAt bs) bs.length = 0) && decide (0 ≤ lo (bitAt bs) bs.length)) from rfl)
  rcases Nat.eq_zero_or_pos bs.length with h0 | h0
  · have HT := hid (show bal (bitAt bs) bs.length = true by rw [h0]; rfl)
    have g0 : ((bs.length : Int) == 0) = true := by rw [beq_iff_eq]; omega
    clear t h0
    generalize bs.length = n at *
    go_enter Tryz.func88, Tryz.ntmps88
    go_wp2_with fail
    refine (rlen_any gx (n : Nat) _ hcl).mono ?_
    rintro e w' ⟨rfl, rfl⟩
    go_wp2_with fail
    go_ret
    exact ⟨by rw [HT.out]; rfl, rfl⟩
  · have g0 : ((bs.length : Int) == 0) = false := by rw [beq_eq_false_iff_ne]; omega
    have g0N : ¬ bs.length = 0 := by omega
    have e2 : nF (bitAt bs) bs.length (2 ^ h) 1 = some (lo (bitAt bs) bs.length, hi (bitAt bs) bs.length) := by
      unfold nF rf; rw [HRO.1, HRO.2, sh_zero, Nat.sub_zero, if_neg (by omega)]
    rw [e2] at cF
    have cF' : w.cell? ⟨gl, 4, none⟩ = some (.complex .f64 (fl (lo (bitAt bs) bs.length)) (fl (hi (bitAt bs) bs.length))) := cF
    have hge := ge_fl0 (lo (bitAt bs) bs.length) (by unfold Small; omega)
    clear t cF e1 e2 HRO
    generalize ex (bitAt bs) bs.length = X at *
    generalize lo (bitAt bs) bs.length = L1 at *
    generalize hi (bitAt bs) bs.length = L2 at *
    by_cases hX : X = 0
    · have g1 : (X == 0) = true := by rw [beq_iff_eq]; exact hX
      subst hX
      go_enter Tryz.func88, Tryz.ntmps88
      go_wp2_with fail
      refine (rlen_any gx (bs.length : Nat) _ hcl).mono ?_
      rintro e w' ⟨rfl, rfl⟩
      go_wp2_with fail
      go_ret
      exact ⟨by rw [HB.out]; first | rfl | simp, rfl⟩
    · have g1 : (X == 0) = false := by rw [beq_eq_false_iff_ne]; exact hX
      go_enter Tryz.func88, Tryz.ntmps88
      go_wp2_with fail
      refine (rlen_any gx (bs.length : Nat) _ hcl).mono ?_
      rintro e w' ⟨rfl, rfl⟩
      go_wp2_with fail
      go_ret
      exact ⟨by rw [HB.out, decide_eq_false hX]; first | rfl | simp, rfl⟩
end Go.Proofs.YtgpbpgpolpakjaaGreatDoor

/- Walks: where a beginning has an excess (minmax.Tree.Forth). -/

set_option linter.unusedVariables false
set_option linter.unusedSimpArgs false
set_option maxRecDepth 100000
namespace Go.Proofs.YtgpbpgpolpakjaaGreatDoor
open Go.RowKit L

namespace L
/-- Going up, at a node: nothing up to its end has the excess. -/
def UpS (f : Nat → Bool) (n F p : Nat) (d : Int) (k : Nat) (e : Int) : Prop := e = eb f p (nB n F k) ∧ p ≤ nB n F k ∧ fnd (sh f p) d (nB n F k - p) = 0
/-- Going down, at a node: within it is what has it first. -/
def DnS (f : Nat → Bool) (n F p : Nat) (d : Int) (k : Nat) (e : Int) : Prop := e = eb f p (nA n F k) ∧ p ≤ nA n F k ∧ fnd (sh f p) d (nA n F k - p) = 0 ∧ fnd (sh f p) d (nB n F k - p) ≠ 0
theorem UpS.small {f : Nat → Bool} {n F p : Nat} {d : Int} {k : Nat} {e : Int} (u : UpS f n F p d k e) (hn : n ≤ 4294967296) (hk : k ≠ 0) : -4294967296 ≤ e ∧ e ≤ 4294967296 := by
  have h1 := eb_abs f p (nB n F k)
  have h2 := nA_le n F k hk
  rw [u.1]; omega
theorem DnS.small {f : Nat → Bool} {n F p : Nat} {d : Int} {k : Nat} {e : Int} (u : DnS f n F p d k e) (hn : n ≤ 4294967296) (hk : k ≠ 0) : -4294967296 ≤ e ∧ e ≤ 4294967296 := by
  have h1 := eb_abs f p (nA n F k)
  have h2 := nA_le n F k hk
  rw [u.1]; omega
section
variable {f : Nat → Bool} {n h p : Nat} {d : Int} {k : Nat} {e : Int}
theorem UpS.done (u : UpS f n (2 ^ h) p d 1 e) (hn : n ≤ 512 * 2 ^ h) : forthN f p n d = -1 := by
  have h3 := u.2.2
  rw [(n_root n h hn).2] at h3
  exact L.forthN_none _ _ _ _ h3
theorem UpS.within {j : Nat} (u : UpS f n (2 ^ h) p d k e) (hk : k = 2 * j) (h0 : 0 < j) (hj : j < 2 ^ h) (hi : inr (mv (nF f n (2 ^ h) (k + 1)) e) d = true) : DnS f n (2 ^ h) p d (k + 1) e := by
  obtain ⟨q1, q2, q3⟩ := n_child n h j h0 hj
  rw [← hk] at q1 q2 q3
  obtain ⟨u1, u2, u3⟩ := u
  have hab := (nA_le n (2 ^ h) (k + 1) (by omega)).1
  rw [q2] at u1 u2 u3
  have := (near_forth f p (nA n (2 ^ h) (k + 1)) (nB n (2 ^ h) (k + 1)) d u2 hab u3).1 (by rw [← u1]; exact hi)
  exact ⟨u1, u2, u3, this⟩
theorem DnS.left (u : DnS f n (2 ^ h) p d k e) (h0 : 0 < k) (hk : k < 2 ^ h) (hi : inr (mv (nF f n (2 ^ h) (2 * k)) e) d = true) : DnS f n (2 ^ h) p d (2 * k) e := by
  obtain ⟨q1, q2, q3⟩ := n_child n h k h0 hk
  obtain ⟨u1, u2, u3, u4⟩ := u
  rw [← q1] at u1 u2 u3
  have hab := (nA_le n (2 ^ h) (2 * k) (by omega)).1
  have := (near_forth f p (nA n (2 ^ h) (2 * k)) (nB n (2 ^ h) (2 * k)) d u2 hab u3).1 (by rw [← u1]; exact hi)
  exact ⟨u1, u2, u3, this⟩
theorem DnS.right (u : DnS f n (2 ^ h) p d k e) (h0 : 0 < k) (hk : k < 2 ^ h) (hi : inr (mv (nF f n (2 ^ h) (2 * k)) e) d = false) : DnS f n (2 ^ h) p d (2 * k + 1) (e + nE f n (2 ^ h) (2 * k)) := by
  obtain ⟨q1, q2, q3⟩ := n_child n h k h0 hk
  obtain ⟨u1, u2, u3, u4⟩ := u
  rw [← q1] at u1 u2 u3
  have hab := (nA_le n (2 ^ h) (2 * k) (by omega)).1
  have hn := near_forth f p (nA n (2 ^ h) (2 * k)) (nB n (2 ^ h) (2 * k)) d u2 hab u3
  refine ⟨?_, by rw [← q2]; omega, ?_, by rw [q3]; exact u4⟩
  · rw [u1, ← q2]; exact eb_add f _ _ _ u2 hab
  · rw [← q2]
    refine Classical.byContradiction fun hc => ?_
    have := hn.2 hc
    unfold nF at hi
    rw [← u1] at this
    rw [this] at hi; cases hi
end
end L

/-- A frame of Forth. -/
def FrF (g : Nat) (d e : Int) (i : Nat) (a : Act) : Prop := ∃ f : Nat → Value, a = { tmps := #[.pointer (some ⟨g, 0, none⟩), f 1, .int .i64 d, f 3, f 4, f 5, f 6, f 7, f 8, .int .i64 e, .int .i64 (i : Nat), f 11, f 12, f 13, f 14, f 15, f 16, f 17, f 18, f 19, f 20, f 21, f 22, f 23, f 24, f 25, f 26, f 27, f 28, f 29, f 30, f 31, f 32, f 33, f 34, f 35, f 36, f 37, f 38, f 39, f 40, f 41, f 42, f 43, f 44, f 45, f 46, f 47, f 48, f 49, f 50, f 51, f 52, f 53, f 54, f 55, f 56, f 57, f 58, f 59, f 60, f 61, f 62, f 63, f 64, f 65, f 66, f 67, f 68, f 69, f 70, f 71, f 72, f 73, f 74, f 75, f 76, f 77, f 78, f 79, f 80, f 81, f 82, f 83, f 84, f 85, f 86, f 87, f 88, f 89, f 90, f 91, f 92, f 93, f 94, f 95, f 96, f 97, f 98, f 99, f 100, f 101, f 102, f 103, f 104, f 105, f 106, f 107, f 108, f 109, f 110, f 111, f 112, f 113, f 114, f 115, f 116, f 117, f 118, f 119, f 120, f 121, f 122, f 123, f 124, f 125, f 126, f 127, f 128, f 129, f 130, f 131, f 132, f 133, f 134, f 135, f 136, f 137, f 138, f 139, f 140, f 141, f 142, f 143, f 144, f 145], defers := [] }
theorem FrF.mk (g : Nat) (d e : Int) (i : Nat) (u1 u3 u4 u5 u6 u7 u8 u11 u12 u13 u14 u15 u16 u17 u18 u19 u20 u21 u22 u23 u24 u25 u26 u27 u28 u29 u30 u31 u32 u33 u34 u35 u36 u37 u38 u39 u40 u41 u42 u43 u44 u45 u46 u47 u48 u49 u50 u51 u52 u53 u54 u55 u56 u57 u58 u59 u60 u61 u62 u63 u64 u65 u66 u67 u68 u69 u70 u71 u72 u73 u74 u75 u76 u77 u78 u79 u80 u81 u82 u83 u84 u85 u86 u87 u88 u89 u90 u91 u92 u93 u94 u95 u96 u97 u98 u99 u100 u101 u102 u103 u104 u105 u106 u107 u108 u109 u110 u111 u112 u113 u114 u115 u116 u117 u118 u119 u120 u121 u122 u123 u124 u125 u126 u127 u128 u129 u130 u131 u132 u133 u134 u135 u136 u137 u138 u139 u140 u141 u142 u143 u144 u145 : Value) : FrF g d e i { tmps := #[.pointer (some ⟨g, 0, none⟩), u1, .int .i64 d, u3, u4, u5, u6, u7, u8, .int .i64 e, .int .i64 (i : Nat), u11, u12, u13, u14, u15, u16, u17, u18, u19, u20, u21, u22, u23, u24, u25, u26, u27, u28, u29, u30, u31, u32, u33, u34, u35, u36, u37, u38, u39, u40, u41, u42, u43, u44, u45, u46, u47, u48, u49, u50, u51, u52, u53, u54, u55, u56, u57, u58, u59, u60, u61, u62, u63, u64, u65, u66, u67, u68, u69, u70, u71, u72, u73, u74, u75, u76, u77, u78, u79, u80, u81, u82, u83, u84, u85, u86, u87, u88, u89, u90, u91, u92, u93, u94, u95, u96, u97, u98, u99, u100, u101, u102, u103, u104, u105, u106, u107, u108, u109, u110, u111, u112, u113, u114, u115, u116, u117, u118, u119, u120, u121, u122, u123, u124, u125, u126, u127, u128, u129, u130, u131, u132, u133, u134, u135, u136, u137, u138, u139, u140, u141, u142, u143, u144, u145], defers := [] } :=
  ⟨fun i => ([undef, u1, undef, u3, u4, u5, u6, u7, u8, undef, undef, u11, u12, u13, u14, u15, u16, u17, u18, u19, u20, u21, u22, u23, u24, u25, u26, u27, u28, u29, u30, u31, u32, u33, u34, u35, u36, u37, u38, u39, u40, u41, u42, u43, u44, u45, u46, u47, u48, u49, u50, u51, u52, u53, u54, u55, u56, u57, u58, u59, u60, u61, u62, u63, u64, u65, u66, u67, u68, u69, u70, u71, u72, u73, u74, u75, u76, u77, u78, u79, u80, u81, u82, u83, u84, u85, u86, u87, u88, u89, u90, u91, u92, u93, u94, u95, u96, u97, u98, u99, u100, u101, u102, u103, u104, u105, u106, u107, u108, u109, u110, u111, u112, u113, u114, u115, u116, u117, u118, u119, u120, u121, u122, u123, u124, u125, u126, u127, u128, u129, u130, u131, u132, u133, u134, u135, u136, u137, u138, u139, u140, u141, u142, u143, u144, u145] : List Value)[i]?.getD undef, rfl⟩

end Go.Proofs.YtgpbpgpolpakjaaGreatDoor

/- Walks: where an end has an excess (minmax.Tree.Back). -/

set_option linter.unusedVariables false
set_option linter.unusedSimpArgs false
set_option maxRecDepth 100000
namespace Go.Proofs.YtgpbpgpolpakjaaGreatDoor
open Go.RowKit L

namespace L
/-- Going up, at a node: no end from its beginning on has the excess. -/
def UpB (f : Nat → Bool) (n F p : Nat) (d : Int) (k : Nat) (e : Int) : Prop := e = eb f (nA n F k) p ∧ nA n F k ≤ p ∧ fnd (rv f p) d (p - nA n F k) = 0
/-- Going down, at a node: within it is the end that has it first. -/
def DnB (f : Nat → Bool) (n F p : Nat) (d : Int) (k : Nat) (e : Int) : Prop := e = eb f (nB n F k) p ∧ nB n F k ≤ p ∧ fnd (rv f p) d (p - nB n F k) = 0 ∧ fnd (rv f p) d (p - nA n F k) ≠ 0
section
variable {f : Nat → Bool} {n h p : Nat} {d : Int} {k : Nat} {e : Int}
theorem UpB.small (u : UpB f n (2 ^ h) p d k e) (hn : n ≤ 4294967296) (hp : p ≤ n) : -4294967296 ≤ e ∧ e ≤ 4294967296 := by
  have h1 := eb_abs f (nA n (2 ^ h) k) p
  rw [u.1]; omega
theorem DnB.small (u : DnB f n (2 ^ h) p d k e) (hn : n ≤ 4294967296) (hp : p ≤ n) : -4294967296 ≤ e ∧ e ≤ 4294967296 := by
  have h1 := eb_abs f (nB n (2 ^ h) k) p
  rw [u.1]; omega
theorem UpB.done (u : UpB f n (2 ^ h) p d 1 e) (hn : n ≤ 512 * 2 ^ h) : backN f 0 p d = -1 := by
  have h3 := u.2.2
  rw [(n_root n h hn).1] at h3
  exact L.backN_none _ _ _ _ h3
theorem UpB.within {j q : Nat} (u : UpB f n (2 ^ h) p d k e) (hk : k = 2 * j + 1) (hq : q = 2 * j) (h0 : 0 < j) (hj : j < 2 ^ h) (hi : inr (nK f n (2 ^ h) q) (nE f n (2 ^ h) q + e - d) = true) : DnB f n (2 ^ h) p d q e := by
  obtain ⟨q1, q2, q3⟩ := n_child n h j h0 hj
  rw [← hk] at q2 q3
  rw [← hq] at q1 q2
  obtain ⟨u1, u2, u3⟩ := u
  have hab := (nA_le n (2 ^ h) q (by omega)).1
  rw [← q2] at u1 u2 u3
  have := (near_back f (nA n (2 ^ h) q) (nB n (2 ^ h) q) p d hab u2 u3).1 (by rw [← u1]; exact hi)
  exact ⟨u1, u2, u3, this⟩
theorem DnB.right {q : Nat} (u : DnB f n (2 ^ h) p d k e) (hq : q = 2 * k + 1) (h0 : 0 < k) (hk : k < 2 ^ h) (hi : inr (nK f n (2 ^ h) q) (nE f n (2 ^ h) q + e - d) = true) : DnB f n (2 ^ h) p d q e := by
  obtain ⟨q1, q2, q3⟩ := n_child n h k h0 hk
  rw [← hq] at q2 q3
  obtain ⟨u1, u2, u3, u4⟩ := u
  rw [← q3] at u1 u2 u3
  have hab := (nA_le n (2 ^ h) q (by omega)).1
  have := (near_back f (nA n (2 ^ h) q) (nB n (2 ^ h) q) p d hab u2 u3).1 (by rw [← u1]; exact hi)
  exact ⟨u1, u2, u3, this⟩
theorem DnB.left {q : Nat} (u : DnB f n (2 ^ h) p d k e) (hq : q = 2 * k + 1) (h0 : 0 < k) (hk : k < 2 ^ h) (hi : inr (nK f n (2 ^ h) q) (nE f n (2 ^ h) q + e - d) = false) : DnB f n (2 ^ h) p d (2 * k) (e + nE f n (2 ^ h) q) := by
  obtain ⟨q1, q2, q3⟩ := n_child n h k h0 hk
  rw [← hq] at q2 q3
  obtain ⟨u1, u2, u3, u4⟩ := u
  rw [← q3] at u1 u2 u3
  have hab := (nA_le n (2 ^ h) q (by omega)).1
  have hn := near_back f (nA n (2 ^ h) q) (nB n (2 ^ h) q) p d hab u2 u3
  refine ⟨?_, by rw [q2]; omega, ?_, by rw [q1]; exact u4⟩
  · rw [u1, q2]
    have := eb_add f (nA n (2 ^ h) q) (nB n (2 ^ h) q) p hab u2
    unfold nE; omega
  · rw [q2]
    refine Classical.byContradiction fun hc => ?_
    have := hn.2 hc
    unfold nK nE at hi
    rw [← u1] at this
    rw [this] at hi; cases hi
end
end L

/-- A frame of Back. -/
def FrB (g : Nat) (d e : Int) (i : Nat) (a : Act) : Prop := ∃ f : Nat → Value, a = { tmps := #[.pointer (some ⟨g, 0, none⟩), f 1, .int .i64 d, f 3, f 4, f 5, f 6, f 7, f 8, .int .i64 e, .int .i64 (i : Nat), f 11, f 12, f 13, f 14, f 15, f 16, f 17, f 18, f 19, f 20, f 21, f 22, f 23, f 24, f 25, f 26, f 27, f 28, f 29, f 30, f 31, f 32, f 33, f 34, f 35, f 36, f 37, f 38, f 39, f 40, f 41, f 42, f 43, f 44, f 45, f 46, f 47, f 48, f 49, f 50, f 51, f 52, f 53, f 54, f 55, f 56, f 57, f 58, f 59, f 60, f 61, f 62, f 63, f 64, f 65, f 66, f 67, f 68, f 69, f 70, f 71, f 72, f 73, f 74, f 75, f 76, f 77, f 78, f 79, f 80, f 81, f 82, f 83, f 84, f 85, f 86, f 87, f 88, f 89, f 90, f 91, f 92, f 93, f 94, f 95, f 96, f 97, f 98, f 99, f 100, f 101, f 102, f 103, f 104, f 105, f 106, f 107, f 108, f 109, f 110, f 111, f 112, f 113, f 114, f 115, f 116, f 117, f 118, f 119, f 120, f 121, f 122, f 123, f 124, f 125, f 126, f 127, f 128], defers := [] }
theorem FrB.mk (g : Nat) (d e : Int) (i : Nat) (u1 u3 u4 u5 u6 u7 u8 u11 u12 u13 u14 u15 u16 u17 u18 u19 u20 u21 u22 u23 u24 u25 u26 u27 u28 u29 u30 u31 u32 u33 u34 u35 u36 u37 u38 u39 u40 u41 u42 u43 u44 u45 u46 u47 u48 u49 u50 u51 u52 u53 u54 u55 u56 u57 u58 u59 u60 u61 u62 u63 u64 u65 u66 u67 u68 u69 u70 u71 u72 u73 u74 u75 u76 u77 u78 u79 u80 u81 u82 u83 u84 u85 u86 u87 u88 u89 u90 u91 u92 u93 u94 u95 u96 u97 u98 u99 u100 u101 u102 u103 u104 u105 u106 u107 u108 u109 u110 u111 u112 u113 u114 u115 u116 u117 u118 u119 u120 u121 u122 u123 u124 u125 u126 u127 u128 : Value) : FrB g d e i { tmps := #[.pointer (some ⟨g, 0, none⟩), u1, .int .i64 d, u3, u4, u5, u6, u7, u8, .int .i64 e, .int .i64 (i : Nat), u11, u12, u13, u14, u15, u16, u17, u18, u19, u20, u21, u22, u23, u24, u25, u26, u27, u28, u29, u30, u31, u32, u33, u34, u35, u36, u37, u38, u39, u40, u41, u42, u43, u44, u45, u46, u47, u48, u49, u50, u51, u52, u53, u54, u55, u56, u57, u58, u59, u60, u61, u62, u63, u64, u65, u66, u67, u68, u69, u70, u71, u72, u73, u74, u75, u76, u77, u78, u79, u80, u81, u82, u83, u84, u85, u86, u87, u88, u89, u90, u91, u92, u93, u94, u95, u96, u97, u98, u99, u100, u101, u102, u103, u104, u105, u106, u107, u108, u109, u110, u111, u112, u113, u114, u115, u116, u117, u118, u119, u120, u121, u122, u123, u124, u125, u126, u127, u128], defers := [] } :=
  ⟨fun i => ([undef, u1, undef, u3, u4, u5, u6, u7, u8, undef, undef, u11, u12, u13, u14, u15, u16, u17, u18, u19, u20, u21, u22, u23, u24, u25, u26, u27, u28, u29, u30, u31, u32, u33, u34, u35, u36, u37, u38, u39, u40, u41, u42, u43, u44, u45, u46, u47, u48, u49, u50, u51, u52, u53, u54, u55, u56, u57, u58, u59, u60, u61, u62, u63, u64, u65, u66, u67, u68, u69, u70, u71, u72, u73, u74, u75, u76, u77, u78, u79, u80, u81, u82, u83, u84, u85, u86, u87, u88, u89, u90, u91, u92, u93, u94, u95, u96, u97, u98, u99, u100, u101, u102, u103, u104, u105, u106, u107, u108, u109, u110, u111, u112, u113, u114, u115, u116, u117, u118, u119, u120, u121, u122, u123, u124, u125, u126, u127, u128] : List Value)[i]?.getD undef, rfl⟩

end Go.Proofs.YtgpbpgpolpakjaaGreatDoor
