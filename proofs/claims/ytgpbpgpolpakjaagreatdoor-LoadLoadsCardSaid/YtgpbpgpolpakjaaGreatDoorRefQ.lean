/- Proof text. -/
import Derived.Test.YtgpbpgpolpakjaaGreatDoorScanQ
import Derived.Test.YtgpbpgpolpakjaaGreatDoorAutoP
import Derived.Test.YtgpbpgpolpakjaaGreatDoorRefP
import Derived.Deep.RegionHeld3
import Derived.Test.YtgpbpgpolpakjaaGreatDoorBase
import Derived.Test.YtgpbpgpolpakjaaGreatDoorScanP
import Derived.Lib.ConvBytes
import Derived.Laws.BytesArg
import Derived.Below
import Derived.ArgAppend
import Derived.OwnWalk
import Derived.Deep.RegionLaw
set_option maxHeartbeats 8000000
set_option linter.unusedVariables false
set_option linter.unusedSimpArgs false
set_option maxRecDepth 100000
namespace Go.Proofs.YtgpbpgpolpakjaaGreatDoor
open Go.RowKit Go.Shelf L
theorem L.zww (s : ByteArray) (k : Nat) : nb (s.extract 0 k) = (nb s).take k := by
 unfold nb
 rw [ByteArray.data_extract, Array.toList_extract]
 simp [List.extract, List.map_take]
def L.okv (l : List Nat) : Prop := (goA L.start l 0).2 = l.length ∧ fin (goA L.start l 0).1 = true
instance (l : List Nat) : Decidable (okv l) := by unfold okv; infer_instance
theorem L.z6r (l : List Nat) : (goA L.start l 0).1.most ≤ l.length := by
 have h1 := (zrv l L.start 0 zus).2.1
 have h2 := (zru l L.start 0).2
 omega
theorem zqk (a b : ByteArray) : (a.toList == b.toList) = decide (nb a = nb b) := by
 have e : ∀ x : ByteArray, x.toList = x.data.toList := ByteArray.toList_eq
 rw [e, e]
 apply Bool.eq_iff_iff.2
 rw [beq_iff_eq, decide_eq_true_eq]
 constructor
 ·intro h; unfold nb; rw [h]
 ·intro h
  unfold nb at h
  exact (List.map_inj_right (fun x y hxy => UInt8.toNat_inj.1 hxy)).1 h
def FS (s : ByteArray) (n c : Nat) (f : Nat → Value) : Act := { tmps := #[.string s, f 1, f 2, f 3, .int .i64 (n : Nat), .int .i64 (c : Nat), f 6, f 7, f 8, f 9, f 10, f 11, f 12, f 13, f 14, f 15, f 16, f 17, f 18, f 19, f 20, f 21, f 22, f 23, f 24, f 25, f 26, f 27, f 28, f 29, f 30, f 31, f 32, f 33, f 34, f 35, f 36, f 37, f 38, f 39, f 40, f 41, f 42, f 43, f 44, f 45, f 46, f 47, f 48, f 49, f 50, f 51, f 52, f 53, f 54, f 55, f 56, f 57, f 58, f 59, f 60, f 61, f 62, f 63, f 64, f 65, f 66, f 67, f 68, f 69, f 70, f 71, f 72, f 73, f 74, f 75, f 76, f 77, f 78, f 79, f 80, f 81, f 82, f 83, f 84, f 85, f 86, f 87, f 88, f 89, f 90, f 91, f 92, f 93, f 94, f 95, f 96, f 97], defers := [] }
theorem FS.mk (s : ByteArray) (n c : Nat) (u1 u2 u3 u6 u7 u8 u9 u10 u11 u12 u13 u14 u15 u16 u17 u18 u19 u20 u21 u22 u23 u24 u25 u26 u27 u28 u29 u30 u31 u32 u33 u34 u35 u36 u37 u38 u39 u40 u41 u42 u43 u44 u45 u46 u47 u48 u49 u50 u51 u52 u53 u54 u55 u56 u57 u58 u59 u60 u61 u62 u63 u64 u65 u66 u67 u68 u69 u70 u71 u72 u73 u74 u75 u76 u77 u78 u79 u80 u81 u82 u83 u84 u85 u86 u87 u88 u89 u90 u91 u92 u93 u94 u95 u96 u97 : Value) : ∃ f, ({ tmps := #[.string s, u1, u2, u3, .int .i64 (n : Nat), .int .i64 (c : Nat), u6, u7, u8, u9, u10, u11, u12, u13, u14, u15, u16, u17, u18, u19, u20, u21, u22, u23, u24, u25, u26, u27, u28, u29, u30, u31, u32, u33, u34, u35, u36, u37, u38, u39, u40, u41, u42, u43, u44, u45, u46, u47, u48, u49, u50, u51, u52, u53, u54, u55, u56, u57, u58, u59, u60, u61, u62, u63, u64, u65, u66, u67, u68, u69, u70, u71, u72, u73, u74, u75, u76, u77, u78, u79, u80, u81, u82, u83, u84, u85, u86, u87, u88, u89, u90, u91, u92, u93, u94, u95, u96, u97], defers := [] } : Act) = FS s n c f := ⟨fun i => ([undef, u1, u2, u3, undef, undef, u6, u7, u8, u9, u10, u11, u12, u13, u14, u15, u16, u17, u18, u19, u20, u21, u22, u23, u24, u25, u26, u27, u28, u29, u30, u31, u32, u33, u34, u35, u36, u37, u38, u39, u40, u41, u42, u43, u44, u45, u46, u47, u48, u49, u50, u51, u52, u53, u54, u55, u56, u57, u58, u59, u60, u61, u62, u63, u64, u65, u66, u67, u68, u69, u70, u71, u72, u73, u74, u75, u76, u77, u78, u79, u80, u81, u82, u83, u84, u85, u86, u87, u88, u89, u90, u91, u92, u93, u94, u95, u96, u97] : List Value)[i]?.getD undef, rfl⟩
def JS (s : ByteArray) (W0 : World) (Φ : Nat → Nat → Prop) (a : Act) (w : World) : Prop := w = W0 ∧ ∃ n c, Φ n c ∧ ∃ f, a = FS s n c f
def KS (l : List Nat) (lo n c : Nat) : Prop := (n = 0 ∧ c = 0 ∧ (l = [] ∨ (128 ≤ at_ l 0 ∧ ¬ (192 ≤ at_ l 0 ∧ at_ l 0 < lo)))) ∨ (l ≠ [] ∧ 192 ≤ at_ l 0 ∧ at_ l 0 < lo ∧ n = kind (at_ l 0) ∧ c = at_ l 0 - base (at_ l 0))
theorem KS.empty {l : List Nat} {lo hi n c : Nat} (h : KS l lo n c) (hl : l = []) : KS l hi n c := by
 rcases h with ⟨h1, h2, h3⟩ | ⟨h1, _⟩
 ·exact Or.inl ⟨h1, h2, Or.inl hl⟩
 ·exact absurd hl h1
theorem KS.low {l : List Nat} {lo hi n c : Nat} (h : KS l lo n c) (hl : lo ≤ hi) (hb : at_ l 0 < lo) : KS l hi n c := by
 rcases h with ⟨h1, h2, h3⟩ | ⟨h1, h2, h3, h4, h5⟩
 ·refine Or.inl ⟨h1, h2, ?_⟩
  rcases h3 with h3 | h3
  ·exact Or.inl h3
  ·exact Or.inr ⟨h3.1, by omega⟩
 ·exact Or.inr ⟨h1, h2, by omega, h4, h5⟩
theorem KS.high {l : List Nat} {lo hi n c : Nat} (h : KS l lo n c) (hl : lo ≤ hi) (hb : hi ≤ at_ l 0) : KS l hi n c := by
 rcases h with ⟨h1, h2, h3⟩ | ⟨h1, h2, h3, h4, h5⟩
 ·refine Or.inl ⟨h1, h2, ?_⟩
  rcases h3 with h3 | h3
  ·exact Or.inl h3
  ·exact Or.inr ⟨h3.1, by omega⟩
 ·omega
theorem KS.hit {l : List Nat} {hi n c : Nat} (hl : l ≠ []) (h2 : 192 ≤ at_ l 0) (hb : at_ l 0 < hi) (hn : n = kind (at_ l 0)) (hc : c = at_ l 0 - base (at_ l 0)) : KS l hi n c := Or.inr ⟨hl, h2, hb, hn, hc⟩
def KT (l : List Nat) (n c : Nat) : Prop := 2 ≤ n ∧ n ≤ 4 ∧ n ≤ l.length ∧ n = kind (at_ l 0) ∧ c = at_ l 0 - base (at_ l 0) ∧ (c + 1) * 64 ^ (n - 1) ≤ 4194304
theorem KS.kt {l : List Nat} {n c : Nat} (h : KS l 248 n c) (h0 : n ≠ 0) (hl : n ≤ l.length) : KT l n c := by
 rcases h with ⟨h1, _⟩ | ⟨h1, h2, h3, h4, h5⟩
 ·exact absurd h1 h0
 ·have hk := h4
  unfold kind at hk
  rw [if_neg (by omega), if_neg (by omega)] at hk
  unfold base at h5
  by_cases e1 : at_ l 0 < 224
  ·rw [if_pos e1] at hk h5
   exact ⟨by omega, by omega, hl, h4, by unfold base; rw [if_pos e1]; exact h5, by subst hk; show (c + 1) * 64 ≤ _; omega⟩
  ·rw [if_neg e1] at hk h5
   by_cases e2 : at_ l 0 < 240
   ·rw [if_pos e2] at hk h5
    exact ⟨by omega, by omega, hl, h4, by unfold base; rw [if_neg e1, if_pos e2]; exact h5, by subst hk; show (c + 1) * 4096 ≤ _; omega⟩
   ·rw [if_neg e2, if_pos h3] at hk
    rw [if_neg e2] at h5
    exact ⟨by omega, by omega, hl, h4, by unfold base; rw [if_neg e1, if_neg e2]; exact h5, by subst hk; show (c + 1) * 262144 ≤ _; omega⟩
theorem KS.none {l : List Nat} {n c : Nat} (h : KS l 248 n c) (h0 : n = 0) : scN l = 0 := by
 rcases h with ⟨_, _, h3⟩ | ⟨h1, h2, h3, h4, h5⟩
 ·rcases h3 with h3 | h3
  ·rw [h3]; rfl
  ·refine zmq ?_
   unfold kind
   rw [if_neg (by omega)]
   (repeat' split) <;> omega
 ·exfalso
  unfold kind at h4
  rw [if_neg (by omega), if_neg (by omega)] at h4
  (repeat' split at h4) <;> omega
theorem KS.short {l : List Nat} {n c : Nat} (h : KS l 248 n c) (h0 : n ≠ 0) (hl : l.length < n) : scN l = 0 := by
 rcases h with ⟨h1, _⟩ | ⟨h1, h2, h3, h4, h5⟩
 ·exact absurd h1 h0
 ·exact zgg (by rw [← h4]; exact hl)
def KU (l : List Nat) (n c : Nat) : Prop := 2 ≤ n ∧ n ≤ 4 ∧ n ≤ l.length ∧ c < 4194304 ∧ scN l = if putB c = l.take n then n else 0
theorem KT.cv_lt {l : List Nat} {n c j : Nat} (h : KT l n c) (hj : j + 1 ≤ n) : cv l c j < 4194304 := by
 have h1 := L.cv_lt l c j
 have h2 : 64 ^ j ≤ 64 ^ (n - 1) := Nat.pow_le_pow_right (by omega) (by omega)
 have h3 : (c + 1) * 64 ^ j ≤ (c + 1) * 64 ^ (n - 1) := Nat.mul_le_mul_left _ h2
 have := h.2.2.2.2.2
 omega
theorem KT.ku {l : List Nat} {n c : Nat} (h : KT l n c) : KU l n (cv l c (n - 1)) := by
 obtain ⟨h1, h2, h3, h4, h5, h6⟩ := h
 refine ⟨h1, h2, h3, KT.cv_lt ⟨h1, h2, h3, h4, h5, h6⟩ (by omega), ?_⟩
 split
 ·rename_i e; exact zll h4.symm h1 h3 (by rw [← h5]) e
 ·rename_i e; exact zku h4.symm h1 h3 (by rw [← h5]) e
def FX (s : ByteArray) (f : Nat → Value) : Act := { tmps := #[.string s, f 1, f 2, f 3, f 4, f 5, f 6, f 7, f 8, f 9, f 10, f 11, f 12, f 13, f 14, f 15, f 16, f 17, f 18, f 19, f 20, f 21, f 22, f 23, f 24, f 25, f 26, f 27, f 28, f 29, f 30, f 31, f 32, f 33, f 34, f 35, f 36, f 37, f 38, f 39, f 40, f 41, f 42, f 43, f 44, f 45, f 46, f 47, f 48, f 49, f 50, f 51, f 52, f 53, f 54, f 55, f 56, f 57, f 58, f 59, f 60, f 61, f 62, f 63, f 64, f 65, f 66, f 67, f 68, f 69, f 70, f 71, f 72, f 73, f 74, f 75, f 76, f 77, f 78, f 79, f 80, f 81, f 82, f 83, f 84, f 85, f 86, f 87, f 88, f 89, f 90, f 91, f 92, f 93, f 94, f 95, f 96, f 97], defers := [] }
theorem FX.mk (s : ByteArray) (u1 u2 u3 u4 u5 u6 u7 u8 u9 u10 u11 u12 u13 u14 u15 u16 u17 u18 u19 u20 u21 u22 u23 u24 u25 u26 u27 u28 u29 u30 u31 u32 u33 u34 u35 u36 u37 u38 u39 u40 u41 u42 u43 u44 u45 u46 u47 u48 u49 u50 u51 u52 u53 u54 u55 u56 u57 u58 u59 u60 u61 u62 u63 u64 u65 u66 u67 u68 u69 u70 u71 u72 u73 u74 u75 u76 u77 u78 u79 u80 u81 u82 u83 u84 u85 u86 u87 u88 u89 u90 u91 u92 u93 u94 u95 u96 u97 : Value) : ∃ f, ({ tmps := #[.string s, u1, u2, u3, u4, u5, u6, u7, u8, u9, u10, u11, u12, u13, u14, u15, u16, u17, u18, u19, u20, u21, u22, u23, u24, u25, u26, u27, u28, u29, u30, u31, u32, u33, u34, u35, u36, u37, u38, u39, u40, u41, u42, u43, u44, u45, u46, u47, u48, u49, u50, u51, u52, u53, u54, u55, u56, u57, u58, u59, u60, u61, u62, u63, u64, u65, u66, u67, u68, u69, u70, u71, u72, u73, u74, u75, u76, u77, u78, u79, u80, u81, u82, u83, u84, u85, u86, u87, u88, u89, u90, u91, u92, u93, u94, u95, u96, u97], defers := [] } : Act) = FX s f := ⟨fun i => ([undef, u1, u2, u3, u4, u5, u6, u7, u8, u9, u10, u11, u12, u13, u14, u15, u16, u17, u18, u19, u20, u21, u22, u23, u24, u25, u26, u27, u28, u29, u30, u31, u32, u33, u34, u35, u36, u37, u38, u39, u40, u41, u42, u43, u44, u45, u46, u47, u48, u49, u50, u51, u52, u53, u54, u55, u56, u57, u58, u59, u60, u61, u62, u63, u64, u65, u66, u67, u68, u69, u70, u71, u72, u73, u74, u75, u76, u77, u78, u79, u80, u81, u82, u83, u84, u85, u86, u87, u88, u89, u90, u91, u92, u93, u94, u95, u96, u97] : List Value)[i]?.getD undef, rfl⟩
theorem zjb (s : ByteArray) (w : World) (hs : s.size ≤ 65536) :
  Calls Tryz.prog 203 #[.string s] w fun e w' => ∃ c : Int, e = .returned (.tuple #[.int .i64 c, .int .i64 (scN (nb s) : Nat)]) ∧ Below w.heap.size w w' := by
 have hll := zf s
 go_enter Tryz.func203, Tryz.ntmps203
 refine za7 (fun a w' => w' = w ∧ ∃ f, a = FX s f) ?_ ?_
 ·go_wp2_with fail
  exact ⟨trivial, FX.mk ..⟩
 rintro a0 w0 ⟨rfl, f, rfl⟩
 unfold FX
 refine za7 (JS s w0 (fun n c => n = 0 ∧ c = 0)) ?_ ?_
 ·go_wp2_with fail
  exact ⟨rfl, 0, 0, ⟨rfl, rfl⟩, FS.mk ..⟩
 rintro a1 w1 ⟨rfl, n, c, ⟨rfl, rfl⟩, f, rfl⟩
 unfold FS
 refine za7 (JS s w1 (KS (nb s) 192)) ?_ ?_
 ·rcases Nat.eq_zero_or_pos s.size with h0 | h0
  ·have hK := hid (show KS (nb s) 192 0 0 from Or.inl ⟨rfl, rfl, Or.inl (List.eq_nil_of_length_eq_zero (by omega))⟩)
   have e0 : decide ((s.size : Int) > 0) = false := decide_eq_false (by omega)
   have e0N : ¬ (0 < s.size) := by omega
   have hzz : (s.size : Int) = 0 := by omega
   clear h0
   go_wp2_with fail
   exact ⟨rfl, 0, 0, hK.out, FS.mk ..⟩
  ·have HA := hid (zaz s 0 h0)
   have hlt := UInt8.toNat_lt s[0]
   have e0 : decide ((s.size : Int) > 0) = true := decide_eq_true (by omega)
   have h0I : (0 : Int) < (s.size : Int) := by omega
   have hne := hid (show nb s ≠ [] from fun e => by rw [e] at hll; simp at hll; omega)
   by_cases hb : (s[0]).toNat < 128
   ·have hS := hid (show scN (nb s) = 1 from zwu (by rw [HA.out]; exact hb) (by omega))
    have g0 : decide (((s[0]).toNat : Int) < 128) = true := decide_eq_true (by omega)
    go_wp2_with fail
    go_ret2
    exact ⟨_, by rw [hS.out]; rfl, Below.refl _ _⟩
   ·have hK := hid (show KS (nb s) 192 0 0 from Or.inl ⟨rfl, rfl, Or.inr ⟨by rw [HA.out]; omega, by omega⟩⟩)
    have g0 : decide (((s[0]).toNat : Int) < 128) = false := decide_eq_false (by omega)
    go_wp2_with fail
    exact ⟨rfl, 0, 0, hK.out, FS.mk ..⟩
 rintro a2 w2 ⟨rfl, n, c, hK, f, rfl⟩
 unfold FS
 have HK := hid hK
 clear hK
 refine za7 (JS s w2 (KS (nb s) 224)) ?_ ?_
 ·rcases Nat.eq_zero_or_pos s.size with h0 | h0
  ·have hK := hid (show KS (nb s) 224 n c from HK.out.empty (List.eq_nil_of_length_eq_zero (by omega)))
   have e0 : decide ((s.size : Int) > 0) = false := decide_eq_false (by omega)
   have e0N : ¬ (0 < s.size) := by omega
   have hzz : (s.size : Int) = 0 := by omega
   clear h0
   go_wp2_with fail
   exact ⟨rfl, n, c, hK.out, FS.mk ..⟩
  ·have HA := hid (zaz s 0 h0)
   have hlt := UInt8.toNat_lt s[0]
   have e0 : decide ((s.size : Int) > 0) = true := decide_eq_true (by omega)
   have h0I : (0 : Int) < (s.size : Int) := by omega
   have hne := hid (show nb s ≠ [] from fun e => by rw [e] at hll; simp at hll; omega)
   rcases Nat.lt_or_ge (s[0]).toNat 192 with hb | hb
   ·have hK := hid (show KS (nb s) 224 n c from HK.out.low (by omega) (by rw [HA.out]; exact hb))
    have g0 : decide (((s[0]).toNat : Int) ≥ 192) = false := decide_eq_false (by omega)
    have g0N : ¬ (192 ≤ (s[0]).toNat) := by omega
    clear hb
    go_wp2_with fail
    exact ⟨rfl, n, c, hK.out, FS.mk ..⟩
   ·have g0 : decide (((s[0]).toNat : Int) ≥ 192) = true := decide_eq_true (by omega)
    rcases Nat.lt_or_ge (s[0]).toNat 224 with hb2 | hb2
    ·obtain ⟨c0, hc0⟩ : ∃ c0, c0 = (s[0]).toNat - 192 := ⟨_, rfl⟩
     have c0I : ((s[0]).toNat : Int) - 192 = (c0 : Int) := by omega
     have c0W : IntKind.i64.wrap (c0 : Int) = (c0 : Int) := by rw [IntKind.wrap_i64]; omega
     have b0W : IntKind.i64.wrap ((s[0]).toNat : Int) = ((s[0]).toNat : Int) := by rw [IntKind.wrap_i64]; omega
     have hK := hid (show KS (nb s) 224 2 c0 from KS.hit hne.out (by rw [HA.out]; omega) (by rw [HA.out]; exact hb2) (by rw [HA.out]; unfold kind; rw [if_neg (by omega), if_neg (by omega), if_pos hb2]) (by rw [HA.out, hc0]; unfold base; rw [if_pos hb2]))
     have g1 : decide (((s[0]).toNat : Int) < 224) = true := decide_eq_true (by omega)
     clear hc0
     go_wp2_with fail
     exact ⟨rfl, 2, c0, hK.out, FS.mk ..⟩
    ·have hK := hid (show KS (nb s) 224 n c from HK.out.high (by omega) (by rw [HA.out]; exact hb2))
     have g1 : decide (((s[0]).toNat : Int) < 224) = false := decide_eq_false (by omega)
     have g1N : ¬ ((s[0]).toNat < 224) := by omega
     go_wp2_with fail
     exact ⟨rfl, n, c, hK.out, FS.mk ..⟩
 clear HK
 rintro a3 w3 ⟨rfl, n, c, hK, f, rfl⟩
 unfold FS
 have HK := hid hK
 clear hK
 refine za7 (JS s w3 (KS (nb s) 240)) ?_ ?_
 ·rcases Nat.eq_zero_or_pos s.size with h0 | h0
  ·have hK := hid (show KS (nb s) 240 n c from HK.out.empty (List.eq_nil_of_length_eq_zero (by omega)))
   have e0 : decide ((s.size : Int) > 0) = false := decide_eq_false (by omega)
   have e0N : ¬ (0 < s.size) := by omega
   have hzz : (s.size : Int) = 0 := by omega
   clear h0
   go_wp2_with fail
   exact ⟨rfl, n, c, hK.out, FS.mk ..⟩
  ·have HA := hid (zaz s 0 h0)
   have hlt := UInt8.toNat_lt s[0]
   have e0 : decide ((s.size : Int) > 0) = true := decide_eq_true (by omega)
   have h0I : (0 : Int) < (s.size : Int) := by omega
   have hne := hid (show nb s ≠ [] from fun e => by rw [e] at hll; simp at hll; omega)
   rcases Nat.lt_or_ge (s[0]).toNat 224 with hb | hb
   ·have hK := hid (show KS (nb s) 240 n c from HK.out.low (by omega) (by rw [HA.out]; exact hb))
    have g0 : decide (((s[0]).toNat : Int) ≥ 224) = false := decide_eq_false (by omega)
    have g0N : ¬ (224 ≤ (s[0]).toNat) := by omega
    clear hb
    go_wp2_with fail
    exact ⟨rfl, n, c, hK.out, FS.mk ..⟩
   ·have g0 : decide (((s[0]).toNat : Int) ≥ 224) = true := decide_eq_true (by omega)
    rcases Nat.lt_or_ge (s[0]).toNat 240 with hb2 | hb2
    ·obtain ⟨c0, hc0⟩ : ∃ c0, c0 = (s[0]).toNat - 224 := ⟨_, rfl⟩
     have c0I : ((s[0]).toNat : Int) - 224 = (c0 : Int) := by omega
     have c0W : IntKind.i64.wrap (c0 : Int) = (c0 : Int) := by rw [IntKind.wrap_i64]; omega
     have b0W : IntKind.i64.wrap ((s[0]).toNat : Int) = ((s[0]).toNat : Int) := by rw [IntKind.wrap_i64]; omega
     have hK := hid (show KS (nb s) 240 3 c0 from KS.hit hne.out (by rw [HA.out]; omega) (by rw [HA.out]; exact hb2) (by rw [HA.out]; unfold kind; rw [if_neg (by omega), if_neg (by omega), if_neg (by omega), if_pos hb2]) (by rw [HA.out, hc0]; unfold base; rw [if_neg (by omega), if_pos hb2]))
     have g1 : decide (((s[0]).toNat : Int) < 240) = true := decide_eq_true (by omega)
     clear hc0
     go_wp2_with fail
     exact ⟨rfl, 3, c0, hK.out, FS.mk ..⟩
    ·have hK := hid (show KS (nb s) 240 n c from HK.out.high (by omega) (by rw [HA.out]; exact hb2))
     have g1 : decide (((s[0]).toNat : Int) < 240) = false := decide_eq_false (by omega)
     have g1N : ¬ ((s[0]).toNat < 240) := by omega
     go_wp2_with fail
     exact ⟨rfl, n, c, hK.out, FS.mk ..⟩
 clear HK
 rintro a4 w4 ⟨rfl, n, c, hK, f, rfl⟩
 unfold FS
 have HK := hid hK
 clear hK
 refine za7 (JS s w4 (KS (nb s) 248)) ?_ ?_
 ·rcases Nat.eq_zero_or_pos s.size with h0 | h0
  ·have hK := hid (show KS (nb s) 248 n c from HK.out.empty (List.eq_nil_of_length_eq_zero (by omega)))
   have e0 : decide ((s.size : Int) > 0) = false := decide_eq_false (by omega)
   have e0N : ¬ (0 < s.size) := by omega
   have hzz : (s.size : Int) = 0 := by omega
   clear h0
   go_wp2_with fail
   exact ⟨rfl, n, c, hK.out, FS.mk ..⟩
  ·have HA := hid (zaz s 0 h0)
   have hlt := UInt8.toNat_lt s[0]
   have e0 : decide ((s.size : Int) > 0) = true := decide_eq_true (by omega)
   have h0I : (0 : Int) < (s.size : Int) := by omega
   have hne := hid (show nb s ≠ [] from fun e => by rw [e] at hll; simp at hll; omega)
   rcases Nat.lt_or_ge (s[0]).toNat 240 with hb | hb
   ·have hK := hid (show KS (nb s) 248 n c from HK.out.low (by omega) (by rw [HA.out]; exact hb))
    have g0 : decide (((s[0]).toNat : Int) ≥ 240) = false := decide_eq_false (by omega)
    have g0N : ¬ (240 ≤ (s[0]).toNat) := by omega
    clear hb
    go_wp2_with fail
    exact ⟨rfl, n, c, hK.out, FS.mk ..⟩
   ·have g0 : decide (((s[0]).toNat : Int) ≥ 240) = true := decide_eq_true (by omega)
    rcases Nat.lt_or_ge (s[0]).toNat 248 with hb2 | hb2
    ·obtain ⟨c0, hc0⟩ : ∃ c0, c0 = (s[0]).toNat - 240 := ⟨_, rfl⟩
     have c0I : ((s[0]).toNat : Int) - 240 = (c0 : Int) := by omega
     have c0W : IntKind.i64.wrap (c0 : Int) = (c0 : Int) := by rw [IntKind.wrap_i64]; omega
     have b0W : IntKind.i64.wrap ((s[0]).toNat : Int) = ((s[0]).toNat : Int) := by rw [IntKind.wrap_i64]; omega
     have hK := hid (show KS (nb s) 248 4 c0 from KS.hit hne.out (by rw [HA.out]; omega) (by rw [HA.out]; exact hb2) (by rw [HA.out]; unfold kind; rw [if_neg (by omega), if_neg (by omega), if_neg (by omega), if_neg (by omega), if_pos hb2]) (by rw [HA.out, hc0]; unfold base; rw [if_neg (by omega), if_neg (by omega)]))
     have g1 : decide (((s[0]).toNat : Int) < 248) = true := decide_eq_true (by omega)
     clear hc0
     go_wp2_with fail
     exact ⟨rfl, 4, c0, hK.out, FS.mk ..⟩
    ·have hK := hid (show KS (nb s) 248 n c from HK.out.high (by omega) (by rw [HA.out]; exact hb2))
     have g1 : decide (((s[0]).toNat : Int) < 248) = false := decide_eq_false (by omega)
     have g1N : ¬ ((s[0]).toNat < 248) := by omega
     go_wp2_with fail
     exact ⟨rfl, n, c, hK.out, FS.mk ..⟩
 clear HK
 rintro a5 w5 ⟨rfl, n, c, hK, f, rfl⟩
 unfold FS
 have HK := hid hK
 clear hK
 refine za7 (JS s w5 (KT (nb s))) ?_ ?_
 ·rcases Nat.eq_zero_or_pos n with hn | hn
  ·have hS := hid (HK.out.none hn)
   have g0 : ((n : Int) == 0) = true := by rw [beq_iff_eq]; omega
   clear hn HK
   go_wp2_with fail
   go_ret2
   exact ⟨0, by rw [hS.out]; rfl, Below.refl _ _⟩
  ·have g0 : ((n : Int) == 0) = false := by rw [beq_eq_false_iff_ne]; omega
   rcases Nat.lt_or_ge s.size n with hsz | hsz
   ·have hS := hid (HK.out.short (by omega) (by rw [hll]; exact hsz))
    have e1 : decide ((s.size : Int) < (n : Int)) = true := decide_eq_true (by omega)
    clear HK
    go_wp2_with fail
    go_ret2
    exact ⟨0, by rw [hS.out]; rfl, Below.refl _ _⟩
   ·have hT := hid (HK.out.kt (by omega) (by rw [hll]; exact hsz))
    have e1 : decide ((s.size : Int) < (n : Int)) = false := decide_eq_false (by omega)
    have e1N : ¬ (s.size < n) := by omega
    clear HK
    go_wp2_with fail
    exact ⟨rfl, n, c, hT.out, FS.mk ..⟩
 clear HK
 rintro a6 w6 ⟨rfl, n, c, hK, f, rfl⟩
 unfold FS
 have hn2 := hK.1
 have hn4 := hK.2.1
 have hns := hK.2.2.1
 rw [hll] at hns
 have HK := hid hK
 clear hK
 refine za7 (JS s w6 (KU (nb s))) ?_ ?_
 ·go_wp2_with fail
  go_loop [5, 6] (fun t i => ∃ j : Nat, j + 1 ≤ n ∧ t = .int .i64 (cv (nb s) c j : Nat) ∧ i = .int .i64 ((j + 1 : Nat) : Int)) (fun _ i => n - (intOf i).toNat)
  case atStart => exact ⟨0, by omega, rfl, rfl⟩
  case round =>
   obtain ⟨j, hj, rfl, rfl⟩ := hrel
   have hcb := HK.out.cv_lt hj
   have HU := hid HK.out.ku
   obtain ⟨i, hi⟩ : ∃ i, i = j + 1 := ⟨_, rfl⟩
   rw [← hi]
   rcases Nat.lt_or_ge i n with hlt4 | hge4
   ·have hii : (i : Int) < (n : Int) := by omega
    have hii2 : decide ((i : Int) < (n : Int)) = true := decide_eq_true hii
    have hisz : i < s.size := by omega
    have hisI : (i : Int) < (s.size : Int) := by omega
    have HAi := hid (zaz s i hisz)
    have hbi := UInt8.toNat_lt s[i]
    have hiW := zg i (by omega)
    have biW : IntKind.i64.wrap ((s[i]).toNat : Int) = ((s[i]).toNat : Int) := by rw [IntKind.wrap_i64]; omega
    obtain ⟨m, hm⟩ : ∃ m, m = (s[i]).toNat % 64 := ⟨_, rfl⟩
    have mI : ((s[i]).toNat : Int) % 64 = (m : Int) := by omega
    have mT : ((s[i]).toNat : Int).tmod 64 = (m : Int) := by rw [Int.tmod_eq_emod_of_nonneg (by omega)]; exact mI
    have mW : IntKind.i64.wrap (m : Int) = (m : Int) := by rw [IntKind.wrap_i64]; omega
    have HCV := hid (show cv (nb s) c (j + 1) = cv (nb s) c j * 64 + m by show cv (nb s) c j * 64 + at_ (nb s) (j + 1) % 64 = _; rw [← hi, HAi.out, hm])
    generalize cv (nb s) c j = cj at *
    have cW : IntKind.i64.wrap ((cj : Int) * 64) = (cj : Int) * 64 := by rw [IntKind.wrap_i64]; omega
    have cW2 : IntKind.i64.wrap ((cj : Int) * 64 + (m : Int)) = (cj : Int) * 64 + (m : Int) := by rw [IntKind.wrap_i64]; omega
    have HI := hid hi
    clear hm hi
    go_wp2_with fail
    go_round
    case rel => exact ⟨j + 1, by have := HI.out; omega, by rw [HCV.out]; go_num, by have := HI.out; rw [← this]; go_num⟩
    case measure => simp [intOf]; omega
   ·have hj1 := hid (show n - 1 = j by omega)
    have hiI : decide ((i : Int) < (n : Int)) = false := decide_eq_false (by omega)
    have hiN : ¬ ((i : Int) < (n : Int)) := by omega
    have hiN2 : ¬ (i < n) := by omega
    have HU2 := hid (show KU (nb s) n (cv (nb s) c j) by rw [← hj1.out]; exact HU.out)
    generalize cv (nb s) c j = cj at *
    clear HU hi
    go_wp2_with fail
    exact ⟨rfl, n, cj, HU2.out, FS.mk ..⟩
 clear HK hn2 hn4 hns
 rintro a7 w7 ⟨rfl, n, c, ⟨hn2, hn4, hns, hc, hS⟩, f, rfl⟩
 unfold FS
 rw [hll] at hns
 have hnI : (0 : Int) ≤ (n : Int) := by omega
 have hsI : (n : Int) ≤ (s.size : Int) := by omega
 have HTK := hid (zww s n)
 have HS := hid hS
 clear hS
 have HPT := fun W => z0n c W hc
 generalize hW : w7 = w0 at *
 clear hW
 by_cases hE : putB c = (nb s).take n
 ·have hS := hid (show scN (nb s) = n by rw [HS.out, if_pos hE])
  have HE := hid hE
  clear hE HS
  refine za7 (fun a w' => Below w0.heap.size w0 w' ∧ ∃ f, a = FS s n c f) ?_ ?_
  ·go_wp2_with fail
   go_region_with (go_at_call 215; refine (HPT _).mono ?_; rintro e w6 ⟨S, rfl, hSS, e1⟩; have hq : (S.toList == (s.extract 0 n).toList) = true := (by (rw [zqk, hSS, HTK.out]; exact decide_eq_true HE.out)))
   all_goals go_wp2_with fail
   all_goals exact ⟨by first | exact (Below.drew (Below.refl w0.heap.size w0)).trans (show Below w0.heap.size w0.drew _ from e1) | exact e1 | assumption, FS.mk ..⟩
  rintro a9 w9 ⟨hB, f, rfl⟩
  unfold FS
  go_wp2_with fail
  go_ret2
  exact ⟨_, by rw [hS.out]; rfl, hB⟩
 ·have hS := hid (show scN (nb s) = 0 by rw [HS.out, if_neg hE])
  have HE := hid hE
  clear hE HS
  go_wp2_with fail
  go_region_with (go_at_call 215; refine (HPT _).mono ?_; rintro e w6 ⟨S, rfl, hSS, e1⟩; have hq : (S.toList == (s.extract 0 n).toList) = false := (by (rw [zqk, hSS, HTK.out]; exact decide_eq_false HE.out)))
  all_goals go_wp2_with fail
  all_goals go_ret2
  all_goals exact ⟨0, by rw [hS.out]; rfl, by first | exact (Below.drew (Below.refl w0.heap.size w0)).trans (show Below w0.heap.size w0.drew _ from e1) | exact e1 | assumption⟩
end Go.Proofs.YtgpbpgpolpakjaaGreatDoor
namespace Go.Proofs.YtgpbpgpolpakjaaGreatDoor.L
theorem zkv {l t : List Nat} {n : Nat} (h : ∀ i, i < n → at_ t i = at_ l i) : ∀ j, j ≤ n → us t j = us l j
 | 0, _ => rfl
 | j + 1, hj => by
   show zaf (us t j) (at_ t j) = zaf (us l j) (at_ l j)
   rw [zkv h j (by omega), h j (by omega)]
def zhb (l : List Nat) (m : Nat) : Prop := m ≤ 3 ∧ m ≤ l.length ∧ (∀ j, 0 < j → j ≤ m → us l j ≠ 0 ∧ us l j ≤ 7) ∧ (m = l.length ∨ us l (m + 1) = 8)
theorem z6s (b : Nat) : zaf 8 b = 8 := by unfold zaf zfh; rw [if_neg (by omega)]; split <;> rfl
theorem zwx {l : List Nat} {m : Nat} (h : us l m = 8) : ∀ j, us l (m + j) = 8
 | 0 => h
 | j + 1 => by
   show zaf (us l (m + j)) _ = 8
   rw [zwx h j, z6s]
theorem zim {l : List Nat} {m n : Nat} (h : zhb l m) (k : zf4 l n) : False := by
 obtain ⟨h1, h2, h3, h4⟩ := h
 obtain ⟨k1, k2, k3, k4, k5⟩ := k
 rcases Nat.lt_or_ge m n with hmn | hmn
 ·rcases h4 with h4 | h4
  ·omega
  ·have := zwx h4 (n - (m + 1))
   rw [show m + 1 + (n - (m + 1)) = n from by omega, k4] at this
   omega
 ·exact (h3 n k1 hmn).1 k4
theorem z3i {l : List Nat} {m : Nat} (h : zhb l m) : scN l = 0 := by
 rcases Nat.eq_zero_or_pos l.length with h0 | h0
 ·rw [List.eq_nil_of_length_eq_zero h0]; rfl
 ·rcases zja h0 with ⟨e, _⟩ | k
  ·exact e
  ·exact (zim h k).elim
theorem zx6 {l : List Nat} {m n : Nat} (h : zf4 l m) (k : zf4 l n) : m = n := by
 obtain ⟨h1, h2, h3, h4, h5⟩ := h
 obtain ⟨k1, k2, k3, k4, k5⟩ := k
 rcases Nat.lt_trichotomy m n with e | e | e
 ·exact absurd h4 (k5 m h1 e).1
 ·exact e
 ·exact absurd k4 (h5 n k1 e).1
theorem z0o {l : List Nat} {n : Nat} (h : zf4 l n) : scN l = n := by
 have h0 : 0 < l.length := by have := h.1; have := h.2.2.1; omega
 rcases zja h0 with ⟨e, m, d⟩ | k
 ·exact (zim d h).elim
 ·exact zx6 k h
theorem z3j {l : List Nat} {n : Nat} (h : scN l = n) (hn : 0 < n) : zf4 l n := by
 have h0 : 0 < l.length := by
  rcases Nat.eq_zero_or_pos l.length with h0 | h0
  ·rw [List.eq_nil_of_length_eq_zero h0] at h
   have : scN [] = 0 := rfl
   omega
  ·exact h0
 rcases zja h0 with ⟨e, d⟩ | k
 ·omega
 ·rw [h] at k; exact k
def low3 (i : Nat) : Nat := if i = 0 then 128 else if i = 1 then 160 else 144
def zln (i : Nat) : Nat := if i = 0 then 191 else if i = 1 then 159 else 143
def choice (i k : Nat) : Nat := if k % 2 = 0 then low3 i else zln i
def exc (l : List Nat) (i k p : Nat) : Nat := if p < l.length then at_ l p else if p = 1 then choice i k else 128
def exb (l : List Nat) (i k m : Nat) : List Nat := (List.range m).map (exc l i k)
theorem zel (l : List Nat) (i k m : Nat) : (exb l i k m).length = m := by unfold exb; rw [List.length_map, List.length_range]
theorem z3k (l : List Nat) (i k m : Nat) : exb l i k (m + 1) = exb l i k m ++ [exc l i k m] := by unfold exb; rw [List.range_succ, List.map_append]; rfl
theorem zkw (l : List Nat) (i k m p : Nat) (h : p < m) : at_ (exb l i k m) p = exc l i k p := by
 unfold at_ exb
 rw [List.getElem?_map, List.getElem?_range h]; rfl
theorem z3l (l : List Nat) (i k : Nat) : exb l i k l.length = l := by
 apply List.ext_getElem
 ·rw [zel]
 ·intro p h1 h2
  have := zkw l i k l.length p h2
  unfold at_ at this
  rw [List.getElem?_eq_getElem h1, Option.getD_some] at this
  rw [this]
  unfold exc at_
  rw [if_pos h2, List.getElem?_eq_getElem h2]; rfl
theorem z6t (i : Nat) : low3 i < 256 := by unfold low3; (repeat' split) <;> omega
theorem z3m (i : Nat) : zln i < 256 := by unfold zln; (repeat' split) <;> omega
theorem z0p (i k : Nat) : choice i k < 256 := by
 unfold choice
 split
 ·exact z6t i
 ·exact z3m i
theorem z8i {l : List Nat} (h : ∀ x ∈ l, x < 256) (i k m : Nat) : ∀ x ∈ exb l i k m, x < 256 := by
 intro x hx
 unfold exb at hx
 obtain ⟨p, _, rfl⟩ := List.mem_map.1 hx
 unfold exc
 split
 ·rename_i hp
  refine h _ ?_
  unfold at_
  rw [List.getElem?_eq_getElem hp]
  exact List.getElem_mem hp
 ·split
  ·exact z0p i k
  ·omega
def ze3 (l : List Nat) : Prop := ∀ j, 0 < j → j ≤ l.length → us l j ≠ 0 ∧ us l j ≤ 7
def Hit (l : List Nat) (i k m : Nat) : Prop := scN (exb l i k m) = m
theorem zn6 (l : List Nat) (i k m j : Nat) (hj : j ≤ l.length) (hm : l.length ≤ m) : us (exb l i k m) j = us l j :=
 zkv (n := l.length) (fun p hp => by rw [zkw l i k m p (by omega)]; unfold exc; rw [if_pos hp]) j hj
theorem z0q {l : List Nat} {i k m : Nat} (hm : l.length < m) (h : Hit l i k m) : ze3 l := by
 have hl := z3j h (by omega)
 intro j h1 h2
 have := hl.2.2.2.2 j h1 (by omega)
 rwa [zn6 l i k m j h2 (by omega)] at this
theorem zx7 (l : List Nat) (j : Nat) : us l (j + 1) = zaf (us l j) (at_ l j) := rfl
theorem ztt (u b : Nat) (h0 : u ≠ 0) (h : u ≤ 7) (h2 : zaf u b ≤ 7) : zaf u b ≤ 2 := by
 unfold zaf at h2 ⊢
 rw [if_neg h0] at h2 ⊢
 split
 ·rename_i hh; rw [if_pos hh] at h2; omega
 ·unfold zfh; (repeat' split) <;> omega
theorem z0r {l : List Nat} (h1 : 0 < l.length) (h3 : l.length ≤ 3) (h : ze3 l) : ∃ i k m, i < 3 ∧ k < 3 ∧ l.length < m ∧ m ≤ 4 ∧ Hit l i k m := by
 have hu1 := h 1 (by omega) (by omega)
 obtain ⟨i, hi, hI⟩ : ∃ i, i < 3 ∧ (l.length = 1 → zaf (us l 1) (choice i 0) = zfh (us l 1)) := by
  by_cases e4 : us l 1 = 4
  ·exact ⟨1, by omega, fun _ => by rw [e4]; rfl⟩
  ·by_cases e6 : us l 1 = 6
   ·exact ⟨2, by omega, fun _ => by rw [e6]; rfl⟩
   ·refine ⟨0, by omega, fun _ => ?_⟩
    have : us l 1 = 1 ∨ us l 1 = 2 ∨ us l 1 = 3 ∨ us l 1 = 5 ∨ us l 1 = 7 := by omega
    rcases this with e | e | e | e | e <;> rw [e] <;> rfl
 have key : ∀ m, l.length ≤ m → m ≤ 4 → us (exb l i 0 4) l.length = us l l.length := fun m _ _ => zn6 l i 0 4 _ (Nat.le_refl _) (by omega)
 have hlen : us (exb l i 0 4) l.length = us l l.length := zn6 l i 0 4 _ (Nat.le_refl _) (by omega)
 have hpre : ∀ j, j ≤ l.length → us (exb l i 0 4) j = us l j := fun j hj => zn6 l i 0 4 _ hj (by omega)
 have hstep : ∀ p, l.length ≤ p → p < 4 → us (exb l i 0 4) (p + 1) = zaf (us (exb l i 0 4) p) (if p = 1 then choice i 0 else 128) := fun p hp h4 => by
  rw [zx7, zkw l i 0 4 p h4]
  unfold exc
  rw [if_neg (by omega)]
 have hlives : ∀ m, l.length < m → m ≤ 4 → us (exb l i 0 4) m = 0 → (∀ j, l.length < j → j < m → us (exb l i 0 4) j ≠ 0 ∧ us (exb l i 0 4) j ≤ 7) → Hit l i 0 m := by
  intro m hm hm4 h0 hin
  have hpm : ∀ j, j ≤ m → us (exb l i 0 m) j = us (exb l i 0 4) j := zkv (n := m) (fun p hp => by rw [zkw l i 0 m p hp, zkw l i 0 4 p (by omega)])
  refine z0o ⟨by omega, hm4, by rw [zel]; exact Nat.le_refl _, by rw [hpm m (Nat.le_refl _)]; exact h0, fun j hj1 hj2 => ?_⟩
  rw [hpm j (by omega)]
  rcases Nat.lt_or_ge l.length j with hj | hj
  ·exact hin j hj hj2
  ·rw [hpre j hj]; exact h j hj1 hj
 have h8 : zaf 1 128 = 0 := rfl
 have h9 : zaf 2 128 = 1 := rfl
 refine ⟨i, 0, ?_⟩
 have hc : l.length = 1 ∨ l.length = 2 ∨ l.length = 3 := by omega
 rcases hc with e | e | e
 ·have s1 : us (exb l i 0 4) 1 = us l 1 := hpre 1 (by omega)
  have s2 : us (exb l i 0 4) 2 = zfh (us l 1) := by rw [hstep 1 (by omega) (by omega), s1, if_pos rfl, hI e]
  have s3 : us (exb l i 0 4) 3 = zaf (zfh (us l 1)) 128 := by rw [hstep 2 (by omega) (by omega), s2, if_neg (by omega)]
  have s4 : us (exb l i 0 4) 4 = zaf (zaf (zfh (us l 1)) 128) 128 := by rw [hstep 3 (by omega) (by omega), s3, if_neg (by omega)]
  have hx : zfh (us l 1) = 0 ∨ zfh (us l 1) = 1 ∨ zfh (us l 1) = 2 := by
   have : us l 1 = 1 ∨ us l 1 = 2 ∨ us l 1 = 3 ∨ us l 1 = 4 ∨ us l 1 = 5 ∨ us l 1 = 6 ∨ us l 1 = 7 := by omega
   rcases this with e | e | e | e | e | e | e <;> rw [e] <;> decide
  rcases hx with e0 | e1 | e2
  ·exact ⟨2, by omega, by omega, by omega, by omega, hlives 2 (by omega) (by omega) (by rw [s2, e0]) (fun j h1 h2 => by omega)⟩
  ·refine ⟨3, by omega, by omega, by omega, by omega, hlives 3 (by omega) (by omega) (by rw [s3, e1, h8]) (fun j h1 h2 => ?_)⟩
   obtain rfl : j = 2 := by omega
   rw [s2, e1]; omega
  ·refine ⟨4, by omega, by omega, by omega, by omega, hlives 4 (by omega) (by omega) (by rw [s4, e2, h9, h8]) (fun j h1 h2 => ?_)⟩
   have : j = 2 ∨ j = 3 := by omega
   rcases this with rfl | rfl
   ·rw [s2, e2]; omega
   ·rw [s3, e2, h9]; omega
 ·have hu2 := h 2 (by omega) (by omega)
  have hle2 : us l 2 ≤ 2 := ztt (us l 1) (at_ l 1) hu1.1 hu1.2 hu2.2
  have s2 : us (exb l i 0 4) 2 = us l 2 := hpre 2 (by omega)
  have s3 : us (exb l i 0 4) 3 = zaf (us l 2) 128 := by rw [hstep 2 (by omega) (by omega), s2, if_neg (by omega)]
  have s4 : us (exb l i 0 4) 4 = zaf (zaf (us l 2) 128) 128 := by rw [hstep 3 (by omega) (by omega), s3, if_neg (by omega)]
  have hx : us l 2 = 1 ∨ us l 2 = 2 := by omega
  rcases hx with e1 | e2
  ·exact ⟨3, by omega, by omega, by omega, by omega, hlives 3 (by omega) (by omega) (by rw [s3, e1, h8]) (fun j h1 h2 => by omega)⟩
  ·refine ⟨4, by omega, by omega, by omega, by omega, hlives 4 (by omega) (by omega) (by rw [s4, e2, h9, h8]) (fun j h1 h2 => ?_)⟩
   obtain rfl : j = 3 := by omega
   rw [s3, e2, h9]; omega
 ·have hu2 := h 2 (by omega) (by omega)
  have hu3 := h 3 (by omega) (by omega)
  have hle2 : us l 2 ≤ 2 := ztt (us l 1) (at_ l 1) hu1.1 hu1.2 hu2.2
  have h31 : us l 3 = 1 := by
   have e3 : us l 3 = zaf (us l 2) (at_ l 2) := rfl
   have hx : us l 2 = 1 ∨ us l 2 = 2 := by omega
   rcases hx with e1 | e2
   ·rw [e1, zil] at e3
    split at e3 <;> omega
   ·rw [e2, zo9] at e3
    split at e3 <;> omega
  have s3 : us (exb l i 0 4) 3 = us l 3 := hpre 3 (by omega)
  have s4 : us (exb l i 0 4) 4 = zaf (us l 3) 128 := by rw [hstep 3 (by omega) (by omega), s3, if_neg (by omega)]
  exact ⟨4, by omega, by omega, by omega, by omega, hlives 4 (by omega) (by omega) (by rw [s4, h31, h8]) (fun j h1 h2 => by omega)⟩
def No1 (l : List Nat) (i : Nat) : Prop := ∀ i', i' < i → ∀ k, k < 3 → ∀ m, l.length < m → m ≤ 4 → ¬ Hit l i' k m
def No2 (l : List Nat) (i k : Nat) : Prop := No1 l i ∧ ∀ k', k' < k → ∀ m, l.length < m → m ≤ 4 → ¬ Hit l i k' m
def No3 (l : List Nat) (i k m : Nat) : Prop := No2 l i k ∧ ∀ m', l.length < m' → m' < m → ¬ Hit l i k m'
theorem No1.zero (l : List Nat) : No1 l 0 := fun i' h => by omega
theorem No1.two {l : List Nat} {i : Nat} (h : No1 l i) : No2 l i 0 := ⟨h, fun k' h => by omega⟩
theorem No2.one {l : List Nat} {i : Nat} (h : No2 l i 3) : No1 l (i + 1) := fun i' hi k hk m h1 h2 => by
 rcases Nat.lt_or_ge i' i with h3 | h3
 ·exact h.1 i' h3 k hk m h1 h2
 ·obtain rfl : i' = i := by omega
  exact h.2 k hk m h1 h2
theorem No2.three {l : List Nat} {i k : Nat} (h : No2 l i k) : No3 l i k (l.length + 1) := ⟨h, fun m' h1 h2 => by omega⟩
theorem No3.two {l : List Nat} {i k m : Nat} (h : No3 l i k m) (hm : 4 < m) : No2 l i (k + 1) := ⟨h.1.1, fun k' hk m' h1 h2 => by
 rcases Nat.lt_or_ge k' k with h3 | h3
 ·exact h.1.2 k' h3 m' h1 h2
 ·obtain rfl : k' = k := by omega
  exact h.2 m' h1 (by omega)⟩
theorem No3.step {l : List Nat} {i k m : Nat} (h : No3 l i k m) (hm : ¬ Hit l i k m) : No3 l i k (m + 1) := ⟨h.1, fun m' h1 h2 => by
 rcases Nat.lt_or_ge m' m with h3 | h3
 ·exact h.2 m' h1 h3
 ·obtain rfl : m' = m := by omega
  exact hm⟩
theorem No1.all {l : List Nat} (h : No1 l 3) (h1 : 0 < l.length) (h3 : l.length ≤ 3) : ¬ ze3 l := fun ha => by
 obtain ⟨i, k, m, a1, a2, a3, a4, a5⟩ := z0r h1 h3 ha
 exact h i a1 k a2 m a3 a4 a5
theorem z0s {l : List Nat} {m k : Nat} (h : zhb l m) (hk : k < l.length) (hkm : k ≤ m) : ze3 (l.take (k + 1)) ↔ k < m := by
 have hl : (l.take (k + 1)).length = k + 1 := by rw [List.length_take]; omega
 have hp : ∀ j, j ≤ k + 1 → us (l.take (k + 1)) j = us l j := zkv (fun i hi => by unfold at_; rw [List.getElem?_take_of_lt (by omega)])
 constructor
 ·intro ha
  rcases Nat.lt_or_ge k m with h1 | h1
  ·exact h1
  ·obtain rfl : k = m := by omega
   have := ha (k + 1) (by omega) (by omega)
   rw [hp _ (Nat.le_refl _)] at this
   rcases h.2.2.2 with h4 | h4
   ·omega
   ·omega
 ·intro h1 j hj1 hj2
  rw [hp j (by omega)]
  exact h.2.2.1 j hj1 (by omega)
theorem z0t {l : List Nat} {m : Nat} (h : zhb l m) : zhb (l.take 4) m := by
 obtain ⟨h1, h2, h3, h4⟩ := h
 have hp : ∀ j, j ≤ 4 → us (l.take 4) j = us l j := zkv (fun i hi => by unfold at_; rw [List.getElem?_take_of_lt (by omega)])
 refine ⟨h1, by rw [List.length_take]; omega, fun j a b => by rw [hp j (by omega)]; exact h3 j a b, ?_⟩
 rcases h4 with h4 | h4
 ·exact Or.inl (by rw [List.length_take]; omega)
 ·rcases Nat.lt_or_ge m l.length with h5 | h5
  ·exact Or.inr (by rw [hp _ (by omega)]; exact h4)
  ·exact Or.inl (by rw [List.length_take]; omega)
end Go.Proofs.YtgpbpgpolpakjaaGreatDoor.L
namespace Go.Proofs.YtgpbpgpolpakjaaGreatDoor
open Go.RowKit L
def BRow (w : World) (base : Nat) (v : Value) (l : List Nat) : Prop :=
 ∃ g cap, v = .slice (some ⟨g, 0, none⟩) l.length cap ∧ base ≤ g ∧ g < w.heap.size ∧ l.length ≤ cap ∧ cap ≤ maxLen ∧
   (∀ j (h : j < l.length), w.cell? ⟨g, j, none⟩ = some (.int .u8 (l[j] : Nat))) ∧ ∀ j, j < cap → (w.cell? ⟨g, j, none⟩).isSome = true ∧ w.frozen? ⟨g, j, none⟩ = false
section
variable {w w' : World} {base : Nat} {v : Value} {l : List Nat}
theorem BRow.kept (h : BRow w base v l) (hs : w.heap.size ≤ w'.heap.size) (hk : ∀ g, g < w.heap.size → w'.heap[g]? = w.heap[g]?) : BRow w' base v l := by
 obtain ⟨g, cap, h1, h2, h3, h4, h5, h6, h7⟩ := h
 have hc : ∀ j, w'.cell? ⟨g, j, none⟩ = w.cell? ⟨g, j, none⟩ := fun j => World.cell?_of_block (hk g h3)
 have hf : ∀ j, w'.frozen? ⟨g, j, none⟩ = w.frozen? ⟨g, j, none⟩ := fun j => World.frozen?_of_block (hk g h3)
 exact ⟨g, cap, h1, h2, by omega, h4, h5, fun j hj => (hc j).trans (h6 j hj), fun j hj => by rw [hc, hf]; exact h7 j hj⟩
theorem BRow.alloc (h : BRow w base v l) (o : Obj) : BRow (w.alloc o) base v l := h.kept (by simp) (fun g hg => Below.heap_alloc w o g hg)
theorem BRow.drew (h : BRow w base v l) : BRow w.drew base v l := h.kept (Nat.le_refl _) (fun _ _ => rfl)
theorem BRow.of_own {n : Nat} {A : Option Addr} {c : Nat} (h : w.ownsRow base 5 1 v n (l.map fun b : Nat => Value.int .u8 (b : Nat))) (hn : 0 < n) : BRow w base v l := by
 have hl : l.length = n := by have := h.1; simpa using this
 rcases h.2 with ⟨_, e⟩ | ⟨g, cap, cur, rfl, hg, hh, h1, h2, h3, h4⟩
 ·omega
 ·have hcell : ∀ j, w.cell? ⟨g, j, none⟩ = cur[j]? := fun j => cell_of_row w g j cur 5 (0, 0) hh
  refine ⟨g, cap, by rw [hl], hg, (Array.getElem?_eq_some_iff.1 hh).1, by omega, h2, fun j hj => ?_, fun j hj => ⟨?_, ?_⟩⟩
  ·rw [hcell j]
   have h5 := congrArg (fun x => x[j]?) h4
   simp only [List.getElem?_map, List.getElem?_take] at h5
   rw [if_pos (by omega), List.getElem?_eq_getElem hj] at h5
   simpa using h5
  ·rw [hcell j, Array.getElem?_eq_getElem (by omega)]; rfl
  ·simp [World.frozen?, hh]
end
section
variable {P : Program}
theorem ztu (w : World) (src dst : TypeId) (s : ByteArray) {u : TypeDesc} (hs : P.underlying src = some u) (hd : P.underlying dst = some (.slice 5)) (he : P.underlying 5 = some (.int .u8)) (base : Nat) (hb : base ≤ w.heap.size) (hsz : s.size ≤ maxLen) :
  ∃ v w', (convert src dst (.string s)).run P w = .ok v w' ∧ BRow w' base v (nb s) ∧ Below w.heap.size w w' := by
 refine ⟨_, _, Lib.run_convert_string_bytes w src dst 5 s hs hd he, ?_, ?_⟩
 ·have hge := grownCap_ge w s.size 0 5
  have hcs : (Lib.bytesCells w 5 s).size = grownCap w s.size 0 5 := by
   unfold Lib.bytesCells
   rw [Array.size_append, Array.size_map, Array.size_replicate]
   show s.size + _ = _
   omega
  refine ⟨w.heap.size, grownCap w s.size 0 5, by rw [zf], hb, by rw [Lib.bytesWorld_size]; omega, by rw [zf]; exact hge, grownCap_le_maxLen w _ _ _ hsz, fun j hj => ?_, fun j hj => ⟨?_, ?_⟩⟩
  ·rw [zf] at hj
   rw [Lib.bytesWorld_cell w _ s j hj]
   have e : (nb s)[j]? = (s.data.toList[j]?).map UInt8.toNat := by unfold nb; rw [List.getElem?_map]
   have hj3 : j < s.data.toList.length := hj
   rw [List.getElem?_eq_getElem (by rw [zf]; exact hj), List.getElem?_eq_getElem hj3] at e
   simp only [Option.map_some, Option.some.injEq] at e
   rw [e, List.getD_eq_getElem?_getD, List.getElem?_eq_getElem hj3]
   rfl
  ·have hj2 : j < (Lib.bytesCells w 5 s).size := by omega
   rw [cell_of_row _ w.heap.size j _ _ _ (Lib.bytesWorld_at_new w 5 s), Array.getElem?_eq_getElem hj2]; rfl
  ·simp only [World.frozen?, Lib.bytesWorld_at_new]
   simp
   intro hh
   omega
 ·exact ⟨rfl, rfl, rfl, by rw [Lib.bytesWorld_size]; omega, fun k hk => Lib.bytesWorld_at_old w _ s k hk⟩
theorem zrb {w : World} {base : Nat} {v : Value} {l : List Nat} (h : BRow w base v l) (src dst : TypeId) (hs : P.underlying src = some (.slice 5)) (he : P.underlying 5 = some (.int .u8)) (hd : P.underlying dst = some .string) :
  (convert src dst v).run P w = .ok (.string ⟨(l.map Nat.toUInt8).toArray⟩) w := by
 obtain ⟨g, cap, rfl, _, _, _, _, h6, _⟩ := h
 have := run_convert_bytes_arg w src 5 hs he g 0 l.length cap (l.map (fun b : Nat => (b : Int))) (by simp) (fun i hi => by
  rw [Nat.zero_add, h6 i hi]
  simp [hi]) dst hd
 rw [this]
 congr 2
 apply ByteArray.ext
 apply Array.toList_inj.1
 rw [strOfNums_data, List.map_map]
 simp
theorem z3n (l : List Nat) (h : ∀ x ∈ l, x < 256) : nb ⟨(l.map Nat.toUInt8).toArray⟩ = l := by
 show (l.map Nat.toUInt8).map UInt8.toNat = l
 rw [List.map_map]
 have : ∀ x ∈ l, (UInt8.toNat ∘ Nat.toUInt8) x = x := fun x hx => by
  show (Nat.toUInt8 x).toNat = x
  have := h x hx
  show x % 256 = x
  omega
 rw [List.map_congr_left this, List.map_id']
theorem zn7 {w : World} {base : Nat} {v : Value} {l : List Nat} (h : BRow w base v l) (t ty : TypeId) (i : TypeInfo) (ht : P.underlying t = some (.slice 5)) (hi : P.info? 5 = some i) (hz : i.zero = some (.int .u8 0)) (hsize : i.size = 1) (hby : i.bytes = 1)
  (a : Addr) (cp : Nat) (b : Nat) (hc : w.cell? a = some (.int .u8 (b : Nat))) (hl : l.length < 1000000) (hb : base ≤ w.heap.size) :
  ∃ v' w', (Builtin.append_ #[t, t] ty #[v, .slice (some a) 1 cp]).run P w = .ok v' w' ∧ BRow w' base v' (l ++ [b]) ∧ Below base w w' := by
 obtain ⟨g, cap, rfl, h2, h3, h4, h5, h6, h7⟩ := h
 have hnews : ∀ j u, [Value.int .u8 (b : Nat)][j]? = some u → w.cell? (a.add j) = some u := fun j u hj => by
  rcases j with _ | j
  ·simp only [List.getElem?_cons_zero, Option.some.injEq] at hj
   have e : a.add 0 = a := by unfold Addr.add; rfl
   rw [e, hc, hj]
  ·simp at hj
 by_cases hr : l.length + 1 ≤ cap
 ·have hrun := run_append_room_cells (P := P) w t ty 5 i ht hi g 0 l.length cap a 1 cp [.int .u8 (b : Nat)] (by rw [hsize]; rfl) hnews (by simp [Value.oneCell']) hr
   (fun j hj => by simp at hj; subst hj; rw [hsize]; have := (h7 l.length (by omega)).1; simpa using this)
   (fun j hj => by simp at hj; subst hj; rw [hsize]; have := (h7 l.length (by omega)).2; simpa using this)
  rw [hsize, Nat.mul_one, Nat.zero_add] at hrun
  have hB : Below base w (w.setCells g l.length [.int .u8 (b : Nat)]) := (Below.refl base w).setCell (p := ⟨g, l.length, none⟩) h2 _
  refine ⟨_, _, hrun, ⟨g, cap, by rw [List.length_append]; rfl, h2, by have := hB.size; omega, by rw [List.length_append]; exact hr, h5, fun j hj => ?_, fun j hj => ?_⟩, hB⟩
  ·show (w.setCell ⟨g, l.length, none⟩ _).cell? _ = _
   rw [List.length_append] at hj
   by_cases e : j = l.length
   ·subst e
    have h8 := (h7 l.length (by omega)).1
    obtain ⟨x, hx⟩ := Option.isSome_iff_exists.1 h8
    rw [List.getElem_append_right (Nat.le_refl _)]
    simp only [Nat.sub_self, List.getElem_cons_zero]
    exact World.cell?_setCell_same w _ _ hx
   ·have hj' : j < l.length := by simp at hj; omega
    rw [List.getElem_append_left hj', World.cell?_setCell_other w _ _ _ (by intro e; injection e; omega)]
    exact h6 j hj'
  ·show ((w.setCell ⟨g, l.length, none⟩ _).cell? _).isSome = true ∧ (w.setCell ⟨g, l.length, none⟩ _).frozen? _ = false
   rw [World.frozen?_setCell]
   refine ⟨?_, (h7 j hj).2⟩
   have := (h7 j hj).1
   obtain ⟨x, hx⟩ := Option.isSome_iff_exists.1 this
   by_cases e : j = l.length
   ·subst e
    rw [World.cell?_setCell_same w _ _ hx]; rfl
   ·rw [World.cell?_setCell_other w _ _ _ (by intro e; injection e; omega), hx]; rfl
 ·have holds : ∀ j u, (l.map fun b : Nat => Value.int .u8 (b : Nat))[j]? = some u → w.cell? ((⟨g, 0, none⟩ : Addr).add j) = some u := fun j u hj => by
   rw [zdk]
   rw [List.getElem?_map] at hj
   obtain ⟨x, hx, rfl⟩ := Option.map_eq_some_iff.1 hj
   obtain ⟨hjl, rfl⟩ := List.getElem?_eq_some_iff.1 hx
   exact h6 j hjl
  obtain ⟨v', w', hrun, hown, hgr⟩ := run_append_arg_grows (P := P) w t ty 5 i _ 1 1 ht hi hz hsize hby rfl (by omega) ⟨g, 0, none⟩ l.length cap (l.map fun b : Nat => Value.int .u8 (b : Nat)) (by simp) holds a 1 cp [.int .u8 (b : Nat)] rfl hnews (by omega) (by simp only [maxLen]; omega) (by omega)
  have hB : Below base w w' := (Below.refl base w).grown hgr hb (fun k hk => by cases hk)
  refine ⟨v', w', hrun, ?_, hB⟩
  have hown' : w'.ownsRow w.heap.size 5 1 v' (l.length + 1) ((l ++ [b]).map fun b : Nat => Value.int .u8 (b : Nat)) := by rw [List.map_append]; exact hown
  obtain ⟨g', cap', k1, k2, k3⟩ := BRow.of_own (A := none) (c := 0) hown' (by omega)
  exact ⟨g', cap', k1, by omega, k3⟩
theorem zin {w : World} {o : Oper} {a : Act} {K : Act → World → Prop} {Q : Exit → Act → World → Prop} (s x : Operand) (t : TypeId)
  (ho : o.op = .call { callee := .builtin .append, args := #[s, x], argTypes := #[t, t] }) (base : Nat) (i : TypeInfo) (ht : P.underlying t = some (.slice 5)) (hi : P.info? 5 = some i) (hz : i.zero = some (.int .u8 0)) (hsize : i.size = 1) (hby : i.bytes = 1)
  (v : Value) (l : List Nat) (hs : a.eval s = v) (h : BRow w base v l) (ad : Addr) (cp : Nat) (hx : a.eval x = .slice (some ad) 1 cp) (b : Nat) (hc : w.cell? ad = some (.int .u8 (b : Nat))) (hl : l.length < 1000000) (hb : base ≤ w.heap.size)
  (hk : ∀ v' w', BRow w' base v' (l ++ [b]) → Below base w w' → K (a.put o.dst v') w') : o.wp P a w K Q := by
 obtain ⟨v', w', hrun, h2, h3⟩ := zn7 (P := P) h t o.type i ht hi hz hsize hby ad cp b hc hl hb
 unfold Oper.wp execOp
 simp only [ho, resolve, invoke, builtin, Sem.run_bind, Sem.run_pure, Result.andThen_ok, List.map_toArray, List.map_cons, List.map_nil, hs, hx, hrun]
 exact hk v' w' h2 h3
theorem wpList_append_byte {w : World} {ops : Array Oper} {rest : List Oper} {o : Oper} {a : Act} {Q : Exit → Act → World → Prop} (hgd : o.guard = none) (s x : Operand) (t : TypeId)
  (ho : o.op = .call { callee := .builtin .append, args := #[s, x], argTypes := #[t, t] }) (base : Nat) (i : TypeInfo) (ht : P.underlying t = some (.slice 5)) (hi : P.info? 5 = some i) (hz : i.zero = some (.int .u8 0)) (hsize : i.size = 1) (hby : i.bytes = 1)
  (v : Value) (l : List Nat) (hs : a.eval s = v) (h : BRow w base v l) (ad : Addr) (cp : Nat) (hx : a.eval x = .slice (some ad) 1 cp) (b : Nat) (hc : w.cell? ad = some (.int .u8 (b : Nat))) (hl : l.length < 1000000) (hb : base ≤ w.heap.size)
  (hk : ∀ v' w', BRow w' base v' (l ++ [b]) → Below base w w' → wpList P ops Q rest (a.put o.dst v') w') : wpList P ops Q (o :: rest) a w :=
 wpList_plain hgd fun _ hK => zin s x t ho base i ht hi hz hsize hby v l hs h ad cp hx b hc hl hb fun v' w' h2 h3 => hK _ _ (hk v' w' h2 h3)
theorem zhc {w : World} {ops : Array Oper} {o : Oper} {a : Act} {K : Act → World → Prop} {Q : Exit → Act → World → Prop} {E : Prop} (hgd : o.guard = none) (s x : Operand) (t : TypeId)
  (ho : o.op = .call { callee := .builtin .append, args := #[s, x], argTypes := #[t, t] }) (base : Nat) (i : TypeInfo) (ht : P.underlying t = some (.slice 5)) (hi : P.info? 5 = some i) (hz : i.zero = some (.int .u8 0)) (hsize : i.size = 1) (hby : i.bytes = 1)
  (v : Value) (l : List Nat) (hs : a.eval s = v) (h : BRow w base v l) (ad : Addr) (cp : Nat) (hx : a.eval x = .slice (some ad) 1 cp) (b : Nat) (hc : w.cell? ad = some (.int .u8 (b : Nat))) (hl : l.length < 1000000) (hb : base ≤ w.heap.size)
  (hk : ∀ v' w', BRow w' base v' (l ++ [b]) → Below base w w' → K (a.put o.dst v') w') : if Region.wanted o (yielded ops a.tmps) = true then Oper.wp P o a w K Q else E := by
 have hw : Region.wanted o (yielded ops a.tmps) = true := by simp [Region.wanted, hgd]
 rw [if_pos hw]
 exact zin s x t ho base i ht hi hz hsize hby v l hs h ad cp hx b hc hl hb hk
end
end Go.Proofs.YtgpbpgpolpakjaaGreatDoor
set_option linter.unusedSectionVars false
namespace Go.Proofs.YtgpbpgpolpakjaaGreatDoor
open Go.RowKit Go.Shelf L
section
variable {A B l : List Nat} (hA : ∀ c ∈ A, L.blank c = true) (hB : ∀ c ∈ B, L.blank c = true)
include hA hB
end
open Go.RowKit Go.Shelf L
theorem Tryz.infoU8S : (Tryz.prog.info? 5).map (fun i => (i.zero, i.size, i.bytes)) = some (some (.int .u8 0), 1, 1) := by kernel_rfl
theorem Lst.litS {w : World} {A : Option Addr} {xs : List Value} (h : Lst w A xs) (hx : 0 < xs.length) : ∃ b off, A = some ⟨b, off, none⟩ ∧ b < w.heap.size ∧ ∀ j u, xs[j]? = some u → w.cell? ⟨b, off + j, none⟩ = some u := by
 obtain ⟨ad, rfl, hc⟩ := h 0 _ (List.getElem?_eq_getElem hx)
 obtain ⟨b, off, spot⟩ := ad
 have hspot : spot = none := by simpa [Addr.add] using World.cell?_spot hc
 subst hspot
 have hb := World.block_lt_of_cell? w _ hc
 rw [zec] at hb
 exact ⟨b, off, rfl, hb, fun j u hu => by have := h.addr hu; rwa [Addr.add_lit] at this⟩
def PInv (w0 : World) (gl gh : Nat) (wr : World) : Prop := Below w0.heap.size w0 wr ∧ za wr gl 5 #[.int .u8 128, .int .u8 160, .int .u8 144] ∧ za wr gh 5 #[.int .u8 191, .int .u8 159, .int .u8 143]
theorem PInv.below {w0 wr wr' : World} {gl gh : Nat} (h : PInv w0 gl gh wr) (hb : Below wr.heap.size wr wr') : PInv w0 gl gh wr' := ⟨h.1.trans (hb.mono h.1.size), h.2.1.below hb, h.2.2.below hb⟩
theorem PInv.low {w0 wr : World} {gl gh i : Nat} (h : PInv w0 gl gh wr) (hi : i < 3) : wr.cell? ⟨gl, i, none⟩ = some (.int .u8 (low3 i : Nat)) := by
 rw [h.2.1.cell i]
 have : i = 0 ∨ i = 1 ∨ i = 2 := by omega
 rcases this with rfl | rfl | rfl <;> rfl
theorem PInv.high {w0 wr : World} {gl gh i : Nat} (h : PInv w0 gl gh wr) (hi : i < 3) : wr.cell? ⟨gh, i, none⟩ = some (.int .u8 (zln i : Nat)) := by
 rw [h.2.2.cell i]
 have : i = 0 ∨ i = 1 ∨ i = 2 := by omega
 rcases this with rfl | rfl | rfl <;> rfl
theorem PInv.above {w0 wr wr' : World} {gl gh : Nat} (h : PInv w0 gl gh wr) (hg : gl = w0.heap.size ∧ gh = w0.heap.size + 1) (hb : Below (gh + 1) wr wr') : PInv w0 gl gh wr' := ⟨h.1.trans (hb.mono (by omega)), h.2.1.kept (hb.block gl (by omega)), h.2.2.kept (hb.block gh (by omega))⟩
theorem PInv.size {w0 wr : World} {gl gh : Nat} (h : PInv w0 gl gh wr) : gh + 1 ≤ wr.heap.size := h.2.2.lt
def zrm (v : Value) : Nat := match v with | .slice _ n _ => n | _ => 0
theorem z3o (s : ByteArray) (w : World) (h1 : 1 ≤ s.size) (h3 : s.size ≤ 3) :
  Calls Tryz.prog 216 #[.string s] w fun e w' => ∃ ok, e = .returned (.bool ok) ∧ (ok = true ↔ ze3 (nb s)) ∧ Below w.heap.size w w' := by
 obtain ⟨i0, hti, iz0, iz1, iz2⟩ := info_parts Tryz.infoU8S
 have hll := zf s
 have HL := hid hll
 have hbyte : ∀ x ∈ nb s, x < 256 := fun x hx => by
  unfold nb at hx
  obtain ⟨y, _, rfl⟩ := List.mem_map.1 hx
  exact UInt8.toNat_lt y
 have HBY := hid hbyte
 clear hbyte
 have hP0 : PInv w w.heap.size (w.heap.size + 1) ((w.alloc (.cells #[.int .u8 128, .int .u8 160, .int .u8 144] 5)).alloc (.cells #[.int .u8 191, .int .u8 159, .int .u8 143] 5)) := by
  refine ⟨((Below.refl _ _).alloc (Nat.le_refl _) _).alloc (by simp) _, (za.new w _ _).alloc _, ?_⟩
  have := za.new (w.alloc (.cells #[.int .u8 128, .int .u8 160, .int .u8 144] 5)) 5 #[.int .u8 191, .int .u8 159, .int .u8 143]
  simpa using this
 go_enter Tryz.func216, Tryz.ntmps216
 go_wp2_with fail
 generalize hW0 : (w.alloc (.cells #[.int .u8 128, .int .u8 160, .int .u8 144] 5)).alloc (.cells #[.int .u8 191, .int .u8 159, .int .u8 143] 5) = W0 at *
 clear hW0
 obtain ⟨gl, hgl⟩ : ∃ gl, gl = w.heap.size := ⟨_, rfl⟩
 obtain ⟨gh, hgh⟩ : ∃ gh, gh = w.heap.size + 1 := ⟨_, rfl⟩
 rw [← hgh, ← hgl] at hP0
 rw [← hgh, ← hgl]
 have HG := hid (And.intro hgl hgh)
 clear hgl hgh
 go_loopw [5] (fun iv wr => ∃ i : Nat, iv = .int .i64 (i : Nat) ∧ i ≤ 3 ∧ PInv w gl gh wr ∧ No1 (nb s) i) (fun iv _ => 3 - (intOf iv).toNat)
 case atStart => exact ⟨0, rfl, by omega, hP0, No1.zero _⟩
 case round =>
  obtain ⟨i, rfl, hi, hP, hN⟩ := hrel
  clear hP0
  have HP := hid hP
  have HN := hid hN
  clear hP hN
  rcases Nat.lt_or_ge i 3 with hlt0 | hge
  ·have hii : (i : Int) < 3 := by omega
   have hi0 : (0 : Int) ≤ (i : Int) := by omega
   have hiW := zg i (by omega)
   go_wp2_with fail
   obtain ⟨wo, rfl⟩ : ∃ wo : World, wo = wr := ⟨_, rfl⟩
   go_loopw [6] (fun kv wr => ∃ k : Nat, kv = .int .i64 (k : Nat) ∧ k ≤ 3 ∧ PInv w gl gh wr ∧ No2 (nb s) i k) (fun kv _ => 3 - (intOf kv).toNat)
   case atStart => exact ⟨0, rfl, by omega, HP.out, HN.out.two⟩
   case round =>
    clear HP HN
    obtain ⟨k, rfl, hk, hP, hN⟩ := hrel
    have HP := hid hP
    have HN := hid hN
    clear hP hN
    rcases Nat.lt_or_ge k 3 with hlt | hge
    ·have hki : (k : Int) < 3 := by omega
     have hkW := zg k (by omega)
     have hsW := zg s.size (by omega)
     go_wp2_with fail
     obtain ⟨wo2, rfl⟩ : ∃ wo2 : World, wo2 = wr := ⟨_, rfl⟩
     obtain ⟨m0, hm0⟩ : ∃ m0, m0 = s.size + 1 := ⟨_, rfl⟩
     have hm0I : (s.size : Int) + 1 = (m0 : Int) := by omega
     have hm0W : IntKind.i64.wrap (m0 : Int) = (m0 : Int) := by rw [IntKind.wrap_i64]; omega
     have HM0 := hid hm0
     clear hm0
     rw [hm0I]
     go_loopw [7] (fun mv wr => ∃ m : Nat, mv = .int .i64 (m : Nat) ∧ s.size < m ∧ m ≤ 5 ∧ PInv w gl gh wr ∧ No3 (nb s) i k m) (fun mv _ => 5 - (intOf mv).toNat)
     case atStart => exact ⟨m0, rfl, by rw [HM0.out]; omega, by rw [HM0.out]; omega, HP.out, by have := HN.out.three; rw [HL.out, ← HM0.out] at this; exact this⟩
     case round =>
      clear HP HN HM0 hm0I hm0W
      obtain ⟨m, rfl, hm1, hm5, hP, hN⟩ := hrel
      have HP := hid hP
      have HN := hid hN
      have hszr := hP.size
      clear hP hN
      rcases Nat.lt_or_ge m 5 with hlt | hge
      ·have hmi : (m : Int) ≤ 4 := by omega
       have hmi2 : decide ((m : Int) ≤ 4) = true := decide_eq_true hmi
       have hmW := zg m (by omega)
       obtain ⟨v0, w0, hcv, hbr, hbl⟩ := ztu (P := Tryz.prog) wr 9 117 s Tryz.underlying9 Tryz.underlying117 Tryz.underlying5 (gh + 1) hszr (by simp only [maxLen]; omega)
       go_wp2_with fail
       have hP2 := HP.out.below hbl
       have HP2 := hid hP2
       clear hP2 HP hbl
       have hbr0 : BRow w0 (gh + 1) v0 (exb (nb s) i k s.size) := by rw [← HL.out, z3l]; exact hbr
       clear hbr hcv
       go_loopw [8] (fun tv wr => ∃ n : Nat, ∃ A c, tv = .slice A n c ∧ s.size ≤ n ∧ n ≤ m ∧ PInv w gl gh wr ∧ BRow wr (gh + 1) (.slice A n c) (exb (nb s) i k n)) (fun tv _ => 5 - zrm tv)
       case atStart =>
        obtain ⟨g, cap, hv, _⟩ := id hbr0
        rw [zel] at hv
        exact ⟨s.size, some ⟨g, 0, none⟩, cap, hv, by omega, by omega, HP2.out, by rw [← hv]; exact hbr0⟩
       case round =>
        clear hbr0 HP2
        obtain ⟨n, A, c, rfl, hn1, hn2, hP, hbr⟩ := hrel
        obtain ⟨g, cap, hv, hr2⟩ := id hbr
        rw [zel] at hv
        simp only [Value.slice.injEq, true_and] at hv
        obtain ⟨rfl, rfl⟩ := hv
        have hszr := hP.size
        have HP := hid hP
        have HBR := hid hbr
        clear hP hbr hr2
        rcases Nat.lt_or_ge n m with hlt2 | hge2
        ·have hnmI : (n : Int) < (m : Int) := by omega
         have hnmI2 : decide ((n : Int) < (m : Int)) = true := decide_eq_true hnmI
         have HS := hid (z3k (nb s) i k n)
         have HXL := hid (zel (nb s) i k n)
         by_cases hn1' : n = 1
         ·have he1 : ((n : Int) == 1) = true := by rw [beq_iff_eq]; omega
          have c1 := HP.out.low hlt0
          have c2 := HP.out.high hlt0
          have HE := hid (show exc (nb s) i k n = choice i k by unfold exc; rw [if_neg (by have := HL.out; omega), if_pos hn1'])
          clear hn1'
          rcases Nat.mod_two_eq_zero_or_one k with hk2 | hk2
          ·have hkT : (k : Int).tmod 2 = 0 := by rw [Int.tmod_eq_emod_of_nonneg (by omega)]; omega
           have hkM : (k : Int) % 2 = 0 := by omega
           have HC := hid (show choice i k = low3 i by unfold choice; rw [if_pos hk2])
           clear hk2
           go_wp2_with fail
           go_region_law ((refine zhc (by rfl) (.tmp 37) (.tmp 51) _ (by rfl) (gh + 1) i0 Tryz.underlying117 hti iz0 iz1 iz2 (.slice (some ⟨g, 0, none⟩) n c) (exb (nb s) i k n) (by rfl) (by exact (HBR.out.drew.alloc _).alloc _) ⟨wr.heap.size + 1, 0, none⟩ 1 (by rfl) (low3 i) (by simp) (by rw [HXL.out]; omega) (by simp; omega) ?_; intro v1 w1 hbr1 hb1))
           all_goals go_simp
           all_goals go_wp2_with fail
           all_goals
            obtain ⟨g1, c1', hv1, _⟩ := id hbr1
            rw [List.length_append, HXL.out] at hv1
            subst hv1
            go_roundw
            case rel => exact ⟨n + 1, some ⟨g1, 0, none⟩, c1', rfl, by omega, by omega, (HP.out.below ((((Below.refl _ _).alloc (Nat.le_refl _) _).alloc (by simp) _).drew)).above HG.out hb1, by rw [HS.out, HE.out, HC.out]; exact hbr1⟩
            case measure => simp [zrm]; omega
          ·have hkT : (k : Int).tmod 2 = 1 := by rw [Int.tmod_eq_emod_of_nonneg (by omega)]; omega
           have hkM : (k : Int) % 2 = 1 := by omega
           have HC := hid (show choice i k = zln i by unfold choice; rw [if_neg (by omega)])
           clear hk2
           go_wp2_with fail
           go_region_law ((refine zhc (by rfl) (.tmp 37) (.tmp 51) _ (by rfl) (gh + 1) i0 Tryz.underlying117 hti iz0 iz1 iz2 (.slice (some ⟨g, 0, none⟩) n c) (exb (nb s) i k n) (by rfl) (by exact (HBR.out.drew.alloc _).alloc _) ⟨wr.heap.size + 1, 0, none⟩ 1 (by rfl) (zln i) (by simp) (by rw [HXL.out]; omega) (by simp; omega) ?_; intro v1 w1 hbr1 hb1))
           all_goals go_simp
           all_goals go_wp2_with fail
           all_goals
            obtain ⟨g1, c1', hv1, _⟩ := id hbr1
            rw [List.length_append, HXL.out] at hv1
            subst hv1
            go_roundw
            case rel => exact ⟨n + 1, some ⟨g1, 0, none⟩, c1', rfl, by omega, by omega, (HP.out.below ((((Below.refl _ _).alloc (Nat.le_refl _) _).alloc (by simp) _).drew)).above HG.out hb1, by rw [HS.out, HE.out, HC.out]; exact hbr1⟩
            case measure => simp [zrm]; omega
         ·have he1 : ((n : Int) == 1) = false := by rw [beq_eq_false_iff_ne]; omega
          have HE := hid (show exc (nb s) i k n = 128 by unfold exc; rw [if_neg (by have := HL.out; omega), if_neg hn1'])
          have hpb := HP.out
          have HB0 := hid (fun W (hW : Below w.heap.size wr W) (hs : wr.heap.size ≤ W.heap.size) => hW)
          clear hpb
          go_wp2_with (at_builtin
                       go_must (refine wpList_append_byte rfl (.tmp 53) (.tmp 54) _ rfl (gh + 1) i0 Tryz.underlying117 hti iz0 iz1 iz2 (.slice (some ⟨g, 0, none⟩) n c) (exb (nb s) i k n) rfl ?hbr ⟨wr.heap.size, 0, none⟩ 1 rfl 128 ?hc ?hl ?hb ?_)
                       go_must (case hbr => exact HBR.out.alloc _)
                       go_must (case hc => simp)
                       go_must (case hl => rw [HXL.out]; omega)
                       go_must (case hb => simp; omega)
                       intro v1 w1 hbr1 hb1)
          obtain ⟨g1, c1', hv1, _⟩ := id hbr1
          rw [List.length_append, HXL.out] at hv1
          subst hv1
          go_roundw
          case rel => exact ⟨n + 1, some ⟨g1, 0, none⟩, c1', rfl, by omega, by omega, (HP.out.below ((Below.refl _ _).alloc (Nat.le_refl _) _)).above HG.out hb1, by rw [HS.out, HE.out]; exact hbr1⟩
          case measure => simp [zrm]; omega
        ·obtain rfl : n = m := by omega
         have HX := hid (z3n (exb (nb s) i k n) (z8i HBY.out i k n))
         have hcv := zrb (P := Tryz.prog) HBR.out 117 9 Tryz.underlying117 Tryz.underlying5 Tryz.underlying9
         obtain ⟨S, hS⟩ : ∃ S : ByteArray, S = ⟨((exb (nb s) i k n).map Nat.toUInt8).toArray⟩ := ⟨_, rfl⟩
         rw [← hS] at hcv HX
         have HSZ := hid (show S.size ≤ 65536 by have := zf S; rw [HX.out, zel] at this; omega)
         have HSC := hid (fun W => zjb S W HSZ.out)
         clear hS
         go_wp2_with fail
         refine (HSC.out _).mono ?_
         rintro e w2 ⟨c2, rfl, hb2⟩
         rw [HX.out]
         have hP3 := HP.out.below hb2
         by_cases hh : scN (exb (nb s) i k n) = n
         ·have HA := hid (z0q (by rw [HL.out]; exact hm1) hh)
          have hhI : (((scN (exb (nb s) i k n) : Nat) : Int) == (n : Int)) = true := by rw [beq_iff_eq]; omega
          generalize scN (exb (nb s) i k n) = x at *
          clear hh
          go_wp2_with fail
          go_ret
          exact ⟨true, rfl, ⟨fun _ => HA.out, fun _ => rfl⟩, hP3.1⟩
         ·have HN2 := hid (HN.out.step hh)
          have hhI : (((scN (exb (nb s) i k n) : Nat) : Int) == (n : Int)) = false := by rw [beq_eq_false_iff_ne]; omega
          generalize scN (exb (nb s) i k n) = x at *
          clear hh
          go_wp2_with fail
          go_roundw
          case rel => exact ⟨n + 1, by go_num, by omega, by omega, hP3, HN2.out⟩
          case measure => simp [intOf]; omega
      ·obtain rfl : m = 5 := by omega
       have HN2 := hid (HN.out.two (by omega))
       go_wp2_with fail
       go_roundw
       case rel => exact ⟨k + 1, by go_num, by omega, HP.out, HN2.out⟩
       case measure => simp [intOf]; omega
    ·obtain rfl : k = 3 := by omega
     have HN2 := hid HN.out.one
     go_wp2_with fail
     go_roundw
     case rel => exact ⟨i + 1, by go_num, by omega, HP.out, HN2.out⟩
     case measure => simp [intOf]; omega
  ·obtain rfl : i = 3 := by omega
   have HA := hid (HN.out.all (by rw [HL.out]; exact h1) (by rw [HL.out]; exact h3))
   go_wp2_with fail
   go_ret
   exact ⟨false, rfl, ⟨(fun h => by cases h), (fun h => absurd h HA.out)⟩, HP.out.1⟩
theorem L.zgi (s : ByteArray) (a b : Nat) : nb (s.extract a b) = ((nb s).drop a).take (b - a) := by
 unfold nb
 rw [ByteArray.data_extract, Array.toList_extract]
 simp [List.extract, List.map_drop, List.map_take]
theorem L.zwy (s : ByteArray) (a : Nat) : nb (s.extract a s.size) = (nb s).drop a := by
 rw [zgi, List.take_of_length_le]
 rw [List.length_drop, zf]; omega
end Go.Proofs.YtgpbpgpolpakjaaGreatDoor
