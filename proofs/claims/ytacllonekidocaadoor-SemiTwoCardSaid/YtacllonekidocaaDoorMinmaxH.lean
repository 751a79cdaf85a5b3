/- Walks: where an end has an excess (minmax.Tree.Back). -/
import Derived.Test.YtacllonekidocaaDoorMinmaxG
set_option linter.unusedVariables false
set_option linter.unusedSimpArgs false
set_option maxRecDepth 100000
namespace Go.Proofs.YtacllonekidocaaDoor
open Go.RowKit L

namespace L
/-- Going up, at a node: no end from its beginning on has the excess. -/
def UpB (f : Nat → Bool) (n F p : Nat) (d : Int) (k : Nat) (e : Int) : Prop := e = eb f (nA n F k) p ∧ nA n F k ≤ p ∧ fnd (rv f p) d (p - nA n F k) = 0
/-- Going down, at a node: within it is the end that has it first. -/
def DnB (f : Nat → Bool) (n F p : Nat) (d : Int) (k : Nat) (e : Int) : Prop := e = eb f (nB n F k) p ∧ nB n F k ≤ p ∧ fnd (rv f p) d (p - nB n F k) = 0 ∧ fnd (rv f p) d (p - nA n F k) ≠ 0
section
variable {f : Nat → Bool} {n h p : Nat} {d : Int} {k : Nat} {e : Int}
theorem UpB.small (u : UpB f n (2 ^ h) p d k e) (hn : n ≤ 4294967296) (hp : p ≤ n) : -4294967296 ≤ e ∧ e ≤ 4294967296 := by
  have h1 := eb_abs f (nA n (2 ^ h) k) p
  rw [u.1]; omega
theorem DnB.small (u : DnB f n (2 ^ h) p d k e) (hn : n ≤ 4294967296) (hp : p ≤ n) : -4294967296 ≤ e ∧ e ≤ 4294967296 := by
  have h1 := eb_abs f (nB n (2 ^ h) k) p
  rw [u.1]; omega
theorem UpB.done (u : UpB f n (2 ^ h) p d 1 e) (hn : n ≤ 512 * 2 ^ h) : backN f 0 p d = -1 := by
  have h3 := u.2.2
  rw [(n_root n h hn).1] at h3
  exact L.backN_none _ _ _ _ h3
theorem UpB.even {j : Nat} (u : UpB f n (2 ^ h) p d k e) (hk : k = 2 * j) (h0 : 0 < j) (hj : j < 2 ^ h) : UpB f n (2 ^ h) p d j e := by
  have q := (n_child n h j h0 hj).1
  rw [← hk] at q
  unfold UpB at *
  rw [q] at u; exact u
theorem UpB.within {j q : Nat} (u : UpB f n (2 ^ h) p d k e) (hk : k = 2 * j + 1) (hq : q = 2 * j) (h0 : 0 < j) (hj : j < 2 ^ h) (hi : inr (nK f n (2 ^ h) q) (nE f n (2 ^ h) q + e - d) = true) : DnB f n (2 ^ h) p d q e := by
  obtain ⟨q1, q2, q3⟩ := n_child n h j h0 hj
  rw [← hk] at q2 q3
  rw [← hq] at q1 q2
  obtain ⟨u1, u2, u3⟩ := u
  have hab := (nA_le n (2 ^ h) q (by omega)).1
  rw [← q2] at u1 u2 u3
  have := (near_back f (nA n (2 ^ h) q) (nB n (2 ^ h) q) p d hab u2 u3).1 (by rw [← u1]; exact hi)
  exact ⟨u1, u2, u3, this⟩
theorem UpB.past {j q : Nat} (u : UpB f n (2 ^ h) p d k e) (hk : k = 2 * j + 1) (hq : q = 2 * j) (h0 : 0 < j) (hj : j < 2 ^ h) (hi : inr (nK f n (2 ^ h) q) (nE f n (2 ^ h) q + e - d) = false) : UpB f n (2 ^ h) p d j (e + nE f n (2 ^ h) q) := by
  obtain ⟨q1, q2, q3⟩ := n_child n h j h0 hj
  rw [← hk] at q2 q3
  rw [← hq] at q1 q2
  obtain ⟨u1, u2, u3⟩ := u
  have hab := (nA_le n (2 ^ h) q (by omega)).1
  rw [← q2] at u1 u2 u3
  have hn := near_back f (nA n (2 ^ h) q) (nB n (2 ^ h) q) p d hab u2 u3
  refine ⟨?_, by rw [← q1]; omega, ?_⟩
  · rw [u1, ← q1]
    have := eb_add f (nA n (2 ^ h) q) (nB n (2 ^ h) q) p hab u2
    unfold nE; omega
  · rw [← q1]
    refine Classical.byContradiction fun hc => ?_
    have := hn.2 hc
    unfold nK nE at hi
    rw [← u1] at this
    rw [this] at hi; cases hi
theorem DnB.leaf (u : DnB f n (2 ^ h) p d k e) (hk : k ≠ 0) : nA n (2 ^ h) k < nB n (2 ^ h) k ∧ backN f (nA n (2 ^ h) k) (nB n (2 ^ h) k) (d - e) = backN f 0 p d := by
  obtain ⟨u1, u2, u3, u4⟩ := u
  have hab := nA_le n (2 ^ h) k hk
  refine ⟨?_, ?_⟩
  · rcases Nat.eq_or_lt_of_le hab.1 with h2 | h2
    · rw [h2] at u4; exact absurd u3 u4
    · exact h2
  · rw [u1]; exact far_back f _ _ p d hab.1 u2 u3 u4
theorem DnB.right {q : Nat} (u : DnB f n (2 ^ h) p d k e) (hq : q = 2 * k + 1) (h0 : 0 < k) (hk : k < 2 ^ h) (hi : inr (nK f n (2 ^ h) q) (nE f n (2 ^ h) q + e - d) = true) : DnB f n (2 ^ h) p d q e := by
  obtain ⟨q1, q2, q3⟩ := n_child n h k h0 hk
  rw [← hq] at q2 q3
  obtain ⟨u1, u2, u3, u4⟩ := u
  rw [← q3] at u1 u2 u3
  have hab := (nA_le n (2 ^ h) q (by omega)).1
  have := (near_back f (nA n (2 ^ h) q) (nB n (2 ^ h) q) p d hab u2 u3).1 (by rw [← u1]; exact hi)
  exact ⟨u1, u2, u3, this⟩
theorem DnB.left {q : Nat} (u : DnB f n (2 ^ h) p d k e) (hq : q = 2 * k + 1) (h0 : 0 < k) (hk : k < 2 ^ h) (hi : inr (nK f n (2 ^ h) q) (nE f n (2 ^ h) q + e - d) = false) : DnB f n (2 ^ h) p d (2 * k) (e + nE f n (2 ^ h) q) := by
  obtain ⟨q1, q2, q3⟩ := n_child n h k h0 hk
  rw [← hq] at q2 q3
  obtain ⟨u1, u2, u3, u4⟩ := u
  rw [← q3] at u1 u2 u3
  have hab := (nA_le n (2 ^ h) q (by omega)).1
  have hn := near_back f (nA n (2 ^ h) q) (nB n (2 ^ h) q) p d hab u2 u3
  refine ⟨?_, by rw [q2]; omega, ?_, by rw [q1]; exact u4⟩
  · rw [u1, q2]
    have := eb_add f (nA n (2 ^ h) q) (nB n (2 ^ h) q) p hab u2
    unfold nE; omega
  · rw [q2]
    refine Classical.byContradiction fun hc => ?_
    have := hn.2 hc
    unfold nK nE at hi
    rw [← u1] at this
    rw [this] at hi; cases hi
end
end L

/-- A frame of Back. -/
def FrB (g : Nat) (d e : Int) (i : Nat) (a : Act) : Prop := ∃ f : Nat → Value, a = { tmps := #[.pointer (some ⟨g, 0, none⟩), f 1, .int .i64 d, f 3, f 4, f 5, f 6, f 7, f 8, .int .i64 e, .int .i64 (i : Nat), f 11, f 12, f 13, f 14, f 15, f 16, f 17, f 18, f 19, f 20, f 21, f 22, f 23, f 24, f 25, f 26, f 27, f 28, f 29, f 30, f 31, f 32, f 33, f 34, f 35, f 36, f 37, f 38, f 39, f 40, f 41, f 42, f 43, f 44, f 45, f 46, f 47, f 48, f 49, f 50, f 51, f 52, f 53, f 54, f 55, f 56, f 57, f 58, f 59, f 60, f 61, f 62, f 63, f 64, f 65, f 66, f 67, f 68, f 69, f 70, f 71, f 72, f 73, f 74, f 75, f 76, f 77, f 78, f 79, f 80, f 81, f 82, f 83, f 84, f 85, f 86, f 87, f 88, f 89, f 90, f 91, f 92, f 93, f 94, f 95, f 96, f 97, f 98, f 99, f 100, f 101, f 102, f 103, f 104, f 105, f 106, f 107, f 108, f 109, f 110, f 111, f 112, f 113, f 114, f 115, f 116, f 117, f 118, f 119, f 120, f 121, f 122, f 123, f 124, f 125, f 126, f 127, f 128], defers := [] }
theorem FrB.mk (g : Nat) (d e : Int) (i : Nat) (u1 u3 u4 u5 u6 u7 u8 u11 u12 u13 u14 u15 u16 u17 u18 u19 u20 u21 u22 u23 u24 u25 u26 u27 u28 u29 u30 u31 u32 u33 u34 u35 u36 u37 u38 u39 u40 u41 u42 u43 u44 u45 u46 u47 u48 u49 u50 u51 u52 u53 u54 u55 u56 u57 u58 u59 u60 u61 u62 u63 u64 u65 u66 u67 u68 u69 u70 u71 u72 u73 u74 u75 u76 u77 u78 u79 u80 u81 u82 u83 u84 u85 u86 u87 u88 u89 u90 u91 u92 u93 u94 u95 u96 u97 u98 u99 u100 u101 u102 u103 u104 u105 u106 u107 u108 u109 u110 u111 u112 u113 u114 u115 u116 u117 u118 u119 u120 u121 u122 u123 u124 u125 u126 u127 u128 : Value) : FrB g d e i { tmps := #[.pointer (some ⟨g, 0, none⟩), u1, .int .i64 d, u3, u4, u5, u6, u7, u8, .int .i64 e, .int .i64 (i : Nat), u11, u12, u13, u14, u15, u16, u17, u18, u19, u20, u21, u22, u23, u24, u25, u26, u27, u28, u29, u30, u31, u32, u33, u34, u35, u36, u37, u38, u39, u40, u41, u42, u43, u44, u45, u46, u47, u48, u49, u50, u51, u52, u53, u54, u55, u56, u57, u58, u59, u60, u61, u62, u63, u64, u65, u66, u67, u68, u69, u70, u71, u72, u73, u74, u75, u76, u77, u78, u79, u80, u81, u82, u83, u84, u85, u86, u87, u88, u89, u90, u91, u92, u93, u94, u95, u96, u97, u98, u99, u100, u101, u102, u103, u104, u105, u106, u107, u108, u109, u110, u111, u112, u113, u114, u115, u116, u117, u118, u119, u120, u121, u122, u123, u124, u125, u126, u127, u128], defers := [] } :=
  ⟨fun i => ([undef, u1, undef, u3, u4, u5, u6, u7, u8, undef, undef, u11, u12, u13, u14, u15, u16, u17, u18, u19, u20, u21, u22, u23, u24, u25, u26, u27, u28, u29, u30, u31, u32, u33, u34, u35, u36, u37, u38, u39, u40, u41, u42, u43, u44, u45, u46, u47, u48, u49, u50, u51, u52, u53, u54, u55, u56, u57, u58, u59, u60, u61, u62, u63, u64, u65, u66, u67, u68, u69, u70, u71, u72, u73, u74, u75, u76, u77, u78, u79, u80, u81, u82, u83, u84, u85, u86, u87, u88, u89, u90, u91, u92, u93, u94, u95, u96, u97, u98, u99, u100, u101, u102, u103, u104, u105, u106, u107, u108, u109, u110, u111, u112, u113, u114, u115, u116, u117, u118, u119, u120, u121, u122, u123, u124, u125, u126, u127, u128] : List Value)[i]?.getD undef, rfl⟩

end Go.Proofs.YtacllonekidocaaDoor
