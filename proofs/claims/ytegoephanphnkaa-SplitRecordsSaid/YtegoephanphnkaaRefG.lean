/- Walks: reference 09: with which scalar bytes begin (printed by gen/scalar2.py). -/
import Derived.Test.YtegoephanphnkaaRefF
import Derived.Test.YtegoephanphnkaaRefD
import Derived.Test.YtegoephanphnkaaLScanA
import Derived.Deep.RegionHeld3

set_option linter.unusedVariables false
set_option linter.unusedSimpArgs false
set_option maxRecDepth 100000
namespace Go.Proofs.Ytegoephanphnkaa
open Go.RowKit Go.Shelf L


theorem toList_nb (a b : ByteArray) : (a.toList == b.toList) = decide (nb a = nb b) := by
  have e : ∀ x : ByteArray, x.toList = x.data.toList := ByteArray.toList_eq
  rw [e, e]
  apply Bool.eq_iff_iff.2
  rw [beq_iff_eq, decide_eq_true_eq]
  constructor
  · intro h; unfold nb; rw [h]
  · intro h
    unfold nb at h
    exact (List.map_inj_right (fun x y hxy => UInt8.toNat_inj.1 hxy)).1 h

/-- The frame of Scalar: its n and its c known. -/
def FS (s : ByteArray) (n c : Nat) (f : Nat → Value) : Act := { tmps := #[.string s, f 1, f 2, f 3, .int .i64 (n : Nat), .int .i64 (c : Nat), f 6, f 7, f 8, f 9, f 10, f 11, f 12, f 13, f 14, f 15, f 16, f 17, f 18, f 19, f 20, f 21, f 22, f 23, f 24, f 25, f 26, f 27, f 28, f 29, f 30, f 31, f 32, f 33, f 34, f 35, f 36, f 37, f 38, f 39, f 40, f 41, f 42, f 43, f 44, f 45, f 46, f 47, f 48, f 49, f 50, f 51, f 52, f 53, f 54, f 55, f 56, f 57, f 58, f 59, f 60, f 61, f 62, f 63, f 64, f 65, f 66, f 67, f 68, f 69, f 70, f 71, f 72, f 73, f 74, f 75, f 76, f 77, f 78, f 79, f 80, f 81, f 82, f 83, f 84, f 85, f 86, f 87, f 88, f 89, f 90, f 91, f 92, f 93, f 94, f 95, f 96, f 97], defers := [] }
theorem FS.mk (s : ByteArray) (n c : Nat) (u1 u2 u3 u6 u7 u8 u9 u10 u11 u12 u13 u14 u15 u16 u17 u18 u19 u20 u21 u22 u23 u24 u25 u26 u27 u28 u29 u30 u31 u32 u33 u34 u35 u36 u37 u38 u39 u40 u41 u42 u43 u44 u45 u46 u47 u48 u49 u50 u51 u52 u53 u54 u55 u56 u57 u58 u59 u60 u61 u62 u63 u64 u65 u66 u67 u68 u69 u70 u71 u72 u73 u74 u75 u76 u77 u78 u79 u80 u81 u82 u83 u84 u85 u86 u87 u88 u89 u90 u91 u92 u93 u94 u95 u96 u97 : Value) : ∃ f, ({ tmps := #[.string s, u1, u2, u3, .int .i64 (n : Nat), .int .i64 (c : Nat), u6, u7, u8, u9, u10, u11, u12, u13, u14, u15, u16, u17, u18, u19, u20, u21, u22, u23, u24, u25, u26, u27, u28, u29, u30, u31, u32, u33, u34, u35, u36, u37, u38, u39, u40, u41, u42, u43, u44, u45, u46, u47, u48, u49, u50, u51, u52, u53, u54, u55, u56, u57, u58, u59, u60, u61, u62, u63, u64, u65, u66, u67, u68, u69, u70, u71, u72, u73, u74, u75, u76, u77, u78, u79, u80, u81, u82, u83, u84, u85, u86, u87, u88, u89, u90, u91, u92, u93, u94, u95, u96, u97], defers := [] } : Act) = FS s n c f := ⟨fun i => ([undef, u1, u2, u3, undef, undef, u6, u7, u8, u9, u10, u11, u12, u13, u14, u15, u16, u17, u18, u19, u20, u21, u22, u23, u24, u25, u26, u27, u28, u29, u30, u31, u32, u33, u34, u35, u36, u37, u38, u39, u40, u41, u42, u43, u44, u45, u46, u47, u48, u49, u50, u51, u52, u53, u54, u55, u56, u57, u58, u59, u60, u61, u62, u63, u64, u65, u66, u67, u68, u69, u70, u71, u72, u73, u74, u75, u76, u77, u78, u79, u80, u81, u82, u83, u84, u85, u86, u87, u88, u89, u90, u91, u92, u93, u94, u95, u96, u97] : List Value)[i]?.getD undef, rfl⟩
def JS (s : ByteArray) (W0 : World) (Φ : Nat → Nat → Prop) (a : Act) (w : World) : Prop := w = W0 ∧ ∃ n c, Φ n c ∧ ∃ f, a = FS s n c f

/-- What is known of the first byte, when those below lo have been looked at. -/
def KS (l : List Nat) (lo n c : Nat) : Prop := (n = 0 ∧ c = 0 ∧ (l = [] ∨ (128 ≤ at_ l 0 ∧ ¬ (192 ≤ at_ l 0 ∧ at_ l 0 < lo)))) ∨ (l ≠ [] ∧ 192 ≤ at_ l 0 ∧ at_ l 0 < lo ∧ n = kind (at_ l 0) ∧ c = at_ l 0 - base (at_ l 0))
theorem KS.empty {l : List Nat} {lo hi n c : Nat} (h : KS l lo n c) (hl : l = []) : KS l hi n c := by
  rcases h with ⟨h1, h2, h3⟩ | ⟨h1, _⟩
  · exact Or.inl ⟨h1, h2, Or.inl hl⟩
  · exact absurd hl h1
theorem KS.low {l : List Nat} {lo hi n c : Nat} (h : KS l lo n c) (hl : lo ≤ hi) (hb : at_ l 0 < lo) : KS l hi n c := by
  rcases h with ⟨h1, h2, h3⟩ | ⟨h1, h2, h3, h4, h5⟩
  · refine Or.inl ⟨h1, h2, ?_⟩
    rcases h3 with h3 | h3
    · exact Or.inl h3
    · exact Or.inr ⟨h3.1, by omega⟩
  · exact Or.inr ⟨h1, h2, by omega, h4, h5⟩
theorem KS.high {l : List Nat} {lo hi n c : Nat} (h : KS l lo n c) (hl : lo ≤ hi) (hb : hi ≤ at_ l 0) : KS l hi n c := by
  rcases h with ⟨h1, h2, h3⟩ | ⟨h1, h2, h3, h4, h5⟩
  · refine Or.inl ⟨h1, h2, ?_⟩
    rcases h3 with h3 | h3
    · exact Or.inl h3
    · exact Or.inr ⟨h3.1, by omega⟩
  · omega
theorem KS.hit {l : List Nat} {hi n c : Nat} (hl : l ≠ []) (h2 : 192 ≤ at_ l 0) (hb : at_ l 0 < hi) (hn : n = kind (at_ l 0)) (hc : c = at_ l 0 - base (at_ l 0)) : KS l hi n c := Or.inr ⟨hl, h2, hb, hn, hc⟩
/-- Behind the guard. -/
def KT (l : List Nat) (n c : Nat) : Prop := 2 ≤ n ∧ n ≤ 4 ∧ n ≤ l.length ∧ n = kind (at_ l 0) ∧ c = at_ l 0 - base (at_ l 0) ∧ (c + 1) * 64 ^ (n - 1) ≤ 4194304
theorem KS.kt {l : List Nat} {n c : Nat} (h : KS l 248 n c) (h0 : n ≠ 0) (hl : n ≤ l.length) : KT l n c := by
  rcases h with ⟨h1, _⟩ | ⟨h1, h2, h3, h4, h5⟩
  · exact absurd h1 h0
  · have hk := h4
    unfold kind at hk
    rw [if_neg (by omega), if_neg (by omega)] at hk
    unfold base at h5
    by_cases e1 : at_ l 0 < 224
    · rw [if_pos e1] at hk h5
      exact ⟨by omega, by omega, hl, h4, by unfold base; rw [if_pos e1]; exact h5, by subst hk; show (c + 1) * 64 ≤ _; omega⟩
    · rw [if_neg e1] at hk h5
      by_cases e2 : at_ l 0 < 240
      · rw [if_pos e2] at hk h5
        exact ⟨by omega, by omega, hl, h4, by unfold base; rw [if_neg e1, if_pos e2]; exact h5, by subst hk; show (c + 1) * 4096 ≤ _; omega⟩
      · rw [if_neg e2, if_pos h3] at hk
        rw [if_neg e2] at h5
        exact ⟨by omega, by omega, hl, h4, by unfold base; rw [if_neg e1, if_neg e2]; exact h5, by subst hk; show (c + 1) * 262144 ≤ _; omega⟩
theorem KS.none {l : List Nat} {n c : Nat} (h : KS l 248 n c) (h0 : n = 0) : scN l = 0 := by
  rcases h with ⟨_, _, h3⟩ | ⟨h1, h2, h3, h4, h5⟩
  · rcases h3 with h3 | h3
    · rw [h3]; rfl
    · refine scN_none ?_
      unfold kind
      rw [if_neg (by omega)]
      (repeat' split) <;> omega
  · exfalso
    unfold kind at h4
    rw [if_neg (by omega), if_neg (by omega)] at h4
    (repeat' split at h4) <;> omega
theorem KS.short {l : List Nat} {n c : Nat} (h : KS l 248 n c) (h0 : n ≠ 0) (hl : l.length < n) : scN l = 0 := by
  rcases h with ⟨h1, _⟩ | ⟨h1, h2, h3, h4, h5⟩
  · exact absurd h1 h0
  · exact scN_short (by rw [← h4]; exact hl)
/-- All bytes are in. -/
def KU (l : List Nat) (n c : Nat) : Prop := 2 ≤ n ∧ n ≤ 4 ∧ n ≤ l.length ∧ c < 4194304 ∧ scN l = if putB c = l.take n then n else 0
theorem KT.cv_lt {l : List Nat} {n c j : Nat} (h : KT l n c) (hj : j + 1 ≤ n) : cv l c j < 4194304 := by
  have h1 := L.cv_lt l c j
  have h2 : 64 ^ j ≤ 64 ^ (n - 1) := Nat.pow_le_pow_right (by omega) (by omega)
  have h3 : (c + 1) * 64 ^ j ≤ (c + 1) * 64 ^ (n - 1) := Nat.mul_le_mul_left _ h2
  have := h.2.2.2.2.2
  omega
theorem KT.ku {l : List Nat} {n c : Nat} (h : KT l n c) : KU l n (cv l c (n - 1)) := by
  obtain ⟨h1, h2, h3, h4, h5, h6⟩ := h
  refine ⟨h1, h2, h3, KT.cv_lt ⟨h1, h2, h3, h4, h5, h6⟩ (by omega), ?_⟩
  split
  · rename_i e; exact scN_yes h4.symm h1 h3 (by rw [← h5]) e
  · rename_i e; exact scN_no h4.symm h1 h3 (by rw [← h5]) e

def FX (s : ByteArray) (f : Nat → Value) : Act := { tmps := #[.string s, f 1, f 2, f 3, f 4, f 5, f 6, f 7, f 8, f 9, f 10, f 11, f 12, f 13, f 14, f 15, f 16, f 17, f 18, f 19, f 20, f 21, f 22, f 23, f 24, f 25, f 26, f 27, f 28, f 29, f 30, f 31, f 32, f 33, f 34, f 35, f 36, f 37, f 38, f 39, f 40, f 41, f 42, f 43, f 44, f 45, f 46, f 47, f 48, f 49, f 50, f 51, f 52, f 53, f 54, f 55, f 56, f 57, f 58, f 59, f 60, f 61, f 62, f 63, f 64, f 65, f 66, f 67, f 68, f 69, f 70, f 71, f 72, f 73, f 74, f 75, f 76, f 77, f 78, f 79, f 80, f 81, f 82, f 83, f 84, f 85, f 86, f 87, f 88, f 89, f 90, f 91, f 92, f 93, f 94, f 95, f 96, f 97], defers := [] }
theorem FX.mk (s : ByteArray) (u1 u2 u3 u4 u5 u6 u7 u8 u9 u10 u11 u12 u13 u14 u15 u16 u17 u18 u19 u20 u21 u22 u23 u24 u25 u26 u27 u28 u29 u30 u31 u32 u33 u34 u35 u36 u37 u38 u39 u40 u41 u42 u43 u44 u45 u46 u47 u48 u49 u50 u51 u52 u53 u54 u55 u56 u57 u58 u59 u60 u61 u62 u63 u64 u65 u66 u67 u68 u69 u70 u71 u72 u73 u74 u75 u76 u77 u78 u79 u80 u81 u82 u83 u84 u85 u86 u87 u88 u89 u90 u91 u92 u93 u94 u95 u96 u97 : Value) : ∃ f, ({ tmps := #[.string s, u1, u2, u3, u4, u5, u6, u7, u8, u9, u10, u11, u12, u13, u14, u15, u16, u17, u18, u19, u20, u21, u22, u23, u24, u25, u26, u27, u28, u29, u30, u31, u32, u33, u34, u35, u36, u37, u38, u39, u40, u41, u42, u43, u44, u45, u46, u47, u48, u49, u50, u51, u52, u53, u54, u55, u56, u57, u58, u59, u60, u61, u62, u63, u64, u65, u66, u67, u68, u69, u70, u71, u72, u73, u74, u75, u76, u77, u78, u79, u80, u81, u82, u83, u84, u85, u86, u87, u88, u89, u90, u91, u92, u93, u94, u95, u96, u97], defers := [] } : Act) = FX s f := ⟨fun i => ([undef, u1, u2, u3, u4, u5, u6, u7, u8, u9, u10, u11, u12, u13, u14, u15, u16, u17, u18, u19, u20, u21, u22, u23, u24, u25, u26, u27, u28, u29, u30, u31, u32, u33, u34, u35, u36, u37, u38, u39, u40, u41, u42, u43, u44, u45, u46, u47, u48, u49, u50, u51, u52, u53, u54, u55, u56, u57, u58, u59, u60, u61, u62, u63, u64, u65, u66, u67, u68, u69, u70, u71, u72, u73, u74, u75, u76, u77, u78, u79, u80, u81, u82, u83, u84, u85, u86, u87, u88, u89, u90, u91, u92, u93, u94, u95, u96, u97] : List Value)[i]?.getD undef, rfl⟩

set_option maxHeartbeats 8000000 in
theorem scalar_any (s : ByteArray) (w : World) (hs : s.size ≤ 65536) :
    Calls Try.prog 52 #[.string s] w fun e w' => ∃ c : Int, e = .returned (.tuple #[.int .i64 c, .int .i64 (scN (nb s) : Nat)]) ∧ Below w.heap.size w w' := by
  have hll := nb_length s
  go_enter Try.func52, Try.ntmps52
  refine wp_seq_cut (fun a w' => w' = w ∧ ∃ f, a = FX s f) ?_ ?_
  · go_wp2_with fail
    exact ⟨trivial, FX.mk ..⟩
  rintro a0 w0 ⟨rfl, f, rfl⟩
  unfold FX
  refine wp_seq_cut (JS s w0 (fun n c => n = 0 ∧ c = 0)) ?_ ?_
  · go_wp2_with fail
    exact ⟨rfl, 0, 0, ⟨rfl, rfl⟩, FS.mk ..⟩
  rintro a1 w1 ⟨rfl, n, c, ⟨rfl, rfl⟩, f, rfl⟩
  unfold FS
  refine wp_seq_cut (JS s w1 (KS (nb s) 192)) ?_ ?_
  · rcases Nat.eq_zero_or_pos s.size with h0 | h0
    · have hK := hid (show KS (nb s) 192 0 0 from Or.inl ⟨rfl, rfl, Or.inl (List.eq_nil_of_length_eq_zero (by omega))⟩)
      have e0 : decide ((s.size : Int) > 0) = false := decide_eq_false (by omega)
      have e0N : ¬ (0 < s.size) := by omega
      have hzz : (s.size : Int) = 0 := by omega
      clear h0
      go_wp2_with fail
      exact ⟨rfl, 0, 0, hK.out, FS.mk ..⟩
    · have HA := hid (at_nb s 0 h0)
      have hlt := UInt8.toNat_lt s[0]
      have e0 : decide ((s.size : Int) > 0) = true := decide_eq_true (by omega)
      have h0I : (0 : Int) < (s.size : Int) := by omega
      have hne := hid (show nb s ≠ [] from fun e => by rw [e] at hll; simp at hll; omega)
      by_cases hb : (s[0]).toNat < 128
      · have hS := hid (show scN (nb s) = 1 from scN_one (by rw [HA.out]; exact hb) (by omega))
        have g0 : decide (((s[0]).toNat : Int) < 128) = true := decide_eq_true (by omega)
        go_wp2_with fail
        go_ret2
        exact ⟨_, by rw [hS.out]; rfl, Below.refl _ _⟩
      · have hK := hid (show KS (nb s) 192 0 0 from Or.inl ⟨rfl, rfl, Or.inr ⟨by rw [HA.out]; omega, by omega⟩⟩)
        have g0 : decide (((s[0]).toNat : Int) < 128) = false := decide_eq_false (by omega)
        go_wp2_with fail
        exact ⟨rfl, 0, 0, hK.out, FS.mk ..⟩
  rintro a2 w2 ⟨rfl, n, c, hK, f, rfl⟩
  unfold FS
  have HK := hid hK
  clear hK
  refine wp_seq_cut (JS s w2 (KS (nb s) 224)) ?_ ?_
  · rcases Nat.eq_zero_or_pos s.size with h0 | h0
    · have hK := hid (show KS (nb s) 224 n c from HK.out.empty (List.eq_nil_of_length_eq_zero (by omega)))
      have e0 : decide ((s.size : Int) > 0) = false := decide_eq_false (by omega)
      have e0N : ¬ (0 < s.size) := by omega
      have hzz : (s.size : Int) = 0 := by omega
      clear h0
      go_wp2_with fail
      exact ⟨rfl, n, c, hK.out, FS.mk ..⟩
    · have HA := hid (at_nb s 0 h0)
      have hlt := UInt8.toNat_lt s[0]
      have e0 : decide ((s.size : Int) > 0) = true := decide_eq_true (by omega)
      have h0I : (0 : Int) < (s.size : Int) := by omega
      have hne := hid (show nb s ≠ [] from fun e => by rw [e] at hll; simp at hll; omega)
      rcases Nat.lt_or_ge (s[0]).toNat 192 with hb | hb
      · have hK := hid (show KS (nb s) 224 n c from HK.out.low (by omega) (by rw [HA.out]; exact hb))
        have g0 : decide (((s[0]).toNat : Int) ≥ 192) = false := decide_eq_false (by omega)
        have g0N : ¬ (192 ≤ (s[0]).toNat) := by omega
        clear hb
        go_wp2_with fail
        exact ⟨rfl, n, c, hK.out, FS.mk ..⟩
      · have g0 : decide (((s[0]).toNat : Int) ≥ 192) = true := decide_eq_true (by omega)
        rcases Nat.lt_or_ge (s[0]).toNat 224 with hb2 | hb2
        · obtain ⟨c0, hc0⟩ : ∃ c0, c0 = (s[0]).toNat - 192 := ⟨_, rfl⟩
          have c0I : ((s[0]).toNat : Int) - 192 = (c0 : Int) := by omega
          have c0W : IntKind.i64.wrap (c0 : Int) = (c0 : Int) := by rw [IntKind.wrap_i64]; omega
          have b0W : IntKind.i64.wrap ((s[0]).toNat : Int) = ((s[0]).toNat : Int) := by rw [IntKind.wrap_i64]; omega
          have hK := hid (show KS (nb s) 224 2 c0 from KS.hit hne.out (by rw [HA.out]; omega) (by rw [HA.out]; exact hb2) (by rw [HA.out]; unfold kind; rw [if_neg (by omega), if_neg (by omega), if_pos hb2]) (by rw [HA.out, hc0]; unfold base; rw [if_pos hb2]))
          have g1 : decide (((s[0]).toNat : Int) < 224) = true := decide_eq_true (by omega)
          clear hc0
          go_wp2_with fail
          exact ⟨rfl, 2, c0, hK.out, FS.mk ..⟩
        · have hK := hid (show KS (nb s) 224 n c from HK.out.high (by omega) (by rw [HA.out]; exact hb2))
          have g1 : decide (((s[0]).toNat : Int) < 224) = false := decide_eq_false (by omega)
          have g1N : ¬ ((s[0]).toNat < 224) := by omega
          go_wp2_with fail
          exact ⟨rfl, n, c, hK.out, FS.mk ..⟩
  clear HK
  rintro a3 w3 ⟨rfl, n, c, hK, f, rfl⟩
  unfold FS
  have HK := hid hK
  clear hK
  refine wp_seq_cut (JS s w3 (KS (nb s) 240)) ?_ ?_
  · rcases Nat.eq_zero_or_pos s.size with h0 | h0
    · have hK := hid (show KS (nb s) 240 n c from HK.out.empty (List.eq_nil_of_length_eq_zero (by omega)))
      have e0 : decide ((s.size : Int) > 0) = false := decide_eq_false (by omega)
      have e0N : ¬ (0 < s.size) := by omega
      have hzz : (s.size : Int) = 0 := by omega
      clear h0
      go_wp2_with fail
      exact ⟨rfl, n, c, hK.out, FS.mk ..⟩
    · have HA := hid (at_nb s 0 h0)
      have hlt := UInt8.toNat_lt s[0]
      have e0 : decide ((s.size : Int) > 0) = true := decide_eq_true (by omega)
      have h0I : (0 : Int) < (s.size : Int) := by omega
      have hne := hid (show nb s ≠ [] from fun e => by rw [e] at hll; simp at hll; omega)
      rcases Nat.lt_or_ge (s[0]).toNat 224 with hb | hb
      · have hK := hid (show KS (nb s) 240 n c from HK.out.low (by omega) (by rw [HA.out]; exact hb))
        have g0 : decide (((s[0]).toNat : Int) ≥ 224) = false := decide_eq_false (by omega)
        have g0N : ¬ (224 ≤ (s[0]).toNat) := by omega
        clear hb
        go_wp2_with fail
        exact ⟨rfl, n, c, hK.out, FS.mk ..⟩
      · have g0 : decide (((s[0]).toNat : Int) ≥ 224) = true := decide_eq_true (by omega)
        rcases Nat.lt_or_ge (s[0]).toNat 240 with hb2 | hb2
        · obtain ⟨c0, hc0⟩ : ∃ c0, c0 = (s[0]).toNat - 224 := ⟨_, rfl⟩
          have c0I : ((s[0]).toNat : Int) - 224 = (c0 : Int) := by omega
          have c0W : IntKind.i64.wrap (c0 : Int) = (c0 : Int) := by rw [IntKind.wrap_i64]; omega
          have b0W : IntKind.i64.wrap ((s[0]).toNat : Int) = ((s[0]).toNat : Int) := by rw [IntKind.wrap_i64]; omega
          have hK := hid (show KS (nb s) 240 3 c0 from KS.hit hne.out (by rw [HA.out]; omega) (by rw [HA.out]; exact hb2) (by rw [HA.out]; unfold kind; rw [if_neg (by omega), if_neg (by omega), if_neg (by omega), if_pos hb2]) (by rw [HA.out, hc0]; unfold base; rw [if_neg (by omega), if_pos hb2]))
          have g1 : decide (((s[0]).toNat : Int) < 240) = true := decide_eq_true (by omega)
          clear hc0
          go_wp2_with fail
          exact ⟨rfl, 3, c0, hK.out, FS.mk ..⟩
        · have hK := hid (show KS (nb s) 240 n c from HK.out.high (by omega) (by rw [HA.out]; exact hb2))
          have g1 : decide (((s[0]).toNat : Int) < 240) = false := decide_eq_false (by omega)
          have g1N : ¬ ((s[0]).toNat < 240) := by omega
          go_wp2_with fail
          exact ⟨rfl, n, c, hK.out, FS.mk ..⟩
  clear HK
  rintro a4 w4 ⟨rfl, n, c, hK, f, rfl⟩
  unfold FS
  have HK := hid hK
  clear hK
  refine wp_seq_cut (JS s w4 (KS (nb s) 248)) ?_ ?_
  · rcases Nat.eq_zero_or_pos s.size with h0 | h0
    · have hK := hid (show KS (nb s) 248 n c from HK.out.empty (List.eq_nil_of_length_eq_zero (by omega)))
      have e0 : decide ((s.size : Int) > 0) = false := decide_eq_false (by omega)
      have e0N : ¬ (0 < s.size) := by omega
      have hzz : (s.size : Int) = 0 := by omega
      clear h0
      go_wp2_with fail
      exact ⟨rfl, n, c, hK.out, FS.mk ..⟩
    · have HA := hid (at_nb s 0 h0)
      have hlt := UInt8.toNat_lt s[0]
      have e0 : decide ((s.size : Int) > 0) = true := decide_eq_true (by omega)
      have h0I : (0 : Int) < (s.size : Int) := by omega
      have hne := hid (show nb s ≠ [] from fun e => by rw [e] at hll; simp at hll; omega)
      rcases Nat.lt_or_ge (s[0]).toNat 240 with hb | hb
      · have hK := hid (show KS (nb s) 248 n c from HK.out.low (by omega) (by rw [HA.out]; exact hb))
        have g0 : decide (((s[0]).toNat : Int) ≥ 240) = false := decide_eq_false (by omega)
        have g0N : ¬ (240 ≤ (s[0]).toNat) := by omega
        clear hb
        go_wp2_with fail
        exact ⟨rfl, n, c, hK.out, FS.mk ..⟩
      · have g0 : decide (((s[0]).toNat : Int) ≥ 240) = true := decide_eq_true (by omega)
        rcases Nat.lt_or_ge (s[0]).toNat 248 with hb2 | hb2
        · obtain ⟨c0, hc0⟩ : ∃ c0, c0 = (s[0]).toNat - 240 := ⟨_, rfl⟩
          have c0I : ((s[0]).toNat : Int) - 240 = (c0 : Int) := by omega
          have c0W : IntKind.i64.wrap (c0 : Int) = (c0 : Int) := by rw [IntKind.wrap_i64]; omega
          have b0W : IntKind.i64.wrap ((s[0]).toNat : Int) = ((s[0]).toNat : Int) := by rw [IntKind.wrap_i64]; omega
          have hK := hid (show KS (nb s) 248 4 c0 from KS.hit hne.out (by rw [HA.out]; omega) (by rw [HA.out]; exact hb2) (by rw [HA.out]; unfold kind; rw [if_neg (by omega), if_neg (by omega), if_neg (by omega), if_neg (by omega), if_pos hb2]) (by rw [HA.out, hc0]; unfold base; rw [if_neg (by omega), if_neg (by omega)]))
          have g1 : decide (((s[0]).toNat : Int) < 248) = true := decide_eq_true (by omega)
          clear hc0
          go_wp2_with fail
          exact ⟨rfl, 4, c0, hK.out, FS.mk ..⟩
        · have hK := hid (show KS (nb s) 248 n c from HK.out.high (by omega) (by rw [HA.out]; exact hb2))
          have g1 : decide (((s[0]).toNat : Int) < 248) = false := decide_eq_false (by omega)
          have g1N : ¬ ((s[0]).toNat < 248) := by omega
          go_wp2_with fail
          exact ⟨rfl, n, c, hK.out, FS.mk ..⟩
  clear HK
  rintro a5 w5 ⟨rfl, n, c, hK, f, rfl⟩
  unfold FS
  have HK := hid hK
  clear hK
  refine wp_seq_cut (JS s w5 (KT (nb s))) ?_ ?_
  · rcases Nat.eq_zero_or_pos n with hn | hn
    · have hS := hid (HK.out.none hn)
      have g0 : ((n : Int) == 0) = true := by rw [beq_iff_eq]; omega
      clear hn HK
      go_wp2_with fail
      go_ret2
      exact ⟨0, by rw [hS.out]; rfl, Below.refl _ _⟩
    · have g0 : ((n : Int) == 0) = false := by rw [beq_eq_false_iff_ne]; omega
      rcases Nat.lt_or_ge s.size n with hsz | hsz
      · have hS := hid (HK.out.short (by omega) (by rw [hll]; exact hsz))
        have e1 : decide ((s.size : Int) < (n : Int)) = true := decide_eq_true (by omega)
        clear HK
        go_wp2_with fail
        go_ret2
        exact ⟨0, by rw [hS.out]; rfl, Below.refl _ _⟩
      · have hT := hid (HK.out.kt (by omega) (by rw [hll]; exact hsz))
        have e1 : decide ((s.size : Int) < (n : Int)) = false := decide_eq_false (by omega)
        have e1N : ¬ (s.size < n) := by omega
        clear HK
        go_wp2_with fail
        exact ⟨rfl, n, c, hT.out, FS.mk ..⟩
  clear HK
  rintro a6 w6 ⟨rfl, n, c, hK, f, rfl⟩
  unfold FS
  have hn2 := hK.1
  have hn4 := hK.2.1
  have hns := hK.2.2.1
  rw [hll] at hns
  have HK := hid hK
  clear hK
  refine wp_seq_cut (JS s w6 (KU (nb s))) ?_ ?_
  · go_wp2_with fail
    go_loop [5, 6] (fun t i => ∃ j : Nat, j + 1 ≤ n ∧ t = .int .i64 (cv (nb s) c j : Nat) ∧ i = .int .i64 ((j + 1 : Nat) : Int)) (fun _ i => n - (intOf i).toNat)
    case atStart => exact ⟨0, by omega, rfl, rfl⟩
    case round =>
      obtain ⟨j, hj, rfl, rfl⟩ := hrel
      have hcb := HK.out.cv_lt hj
      have HU := hid HK.out.ku
      obtain ⟨i, hi⟩ : ∃ i, i = j + 1 := ⟨_, rfl⟩
      rw [← hi]
      rcases Nat.lt_or_ge i n with hlt4 | hge4
      · have hii : (i : Int) < (n : Int) := by omega
        have hii2 : decide ((i : Int) < (n : Int)) = true := decide_eq_true hii
        have hisz : i < s.size := by omega
        have hisI : (i : Int) < (s.size : Int) := by omega
        have HAi := hid (at_nb s i hisz)
        have hbi := UInt8.toNat_lt s[i]
        have hiW := wrap_one i (by omega)
        have biW : IntKind.i64.wrap ((s[i]).toNat : Int) = ((s[i]).toNat : Int) := by rw [IntKind.wrap_i64]; omega
        obtain ⟨m, hm⟩ : ∃ m, m = (s[i]).toNat % 64 := ⟨_, rfl⟩
        have mI : ((s[i]).toNat : Int) % 64 = (m : Int) := by omega
        have mT : ((s[i]).toNat : Int).tmod 64 = (m : Int) := by rw [Int.tmod_eq_emod_of_nonneg (by omega)]; exact mI
        have mW : IntKind.i64.wrap (m : Int) = (m : Int) := by rw [IntKind.wrap_i64]; omega
        have HCV := hid (show cv (nb s) c (j + 1) = cv (nb s) c j * 64 + m by show cv (nb s) c j * 64 + at_ (nb s) (j + 1) % 64 = _; rw [← hi, HAi.out, hm])
        generalize cv (nb s) c j = cj at *
        have cW : IntKind.i64.wrap ((cj : Int) * 64) = (cj : Int) * 64 := by rw [IntKind.wrap_i64]; omega
        have cW2 : IntKind.i64.wrap ((cj : Int) * 64 + (m : Int)) = (cj : Int) * 64 + (m : Int) := by rw [IntKind.wrap_i64]; omega
        have HI := hid hi
        clear hm hi
        go_wp2_with fail
        go_round
        case rel => exact ⟨j + 1, by have := HI.out; omega, by rw [HCV.out]; go_num, by have := HI.out; rw [← this]; go_num⟩
        case measure => simp [intOf]; omega
      · have hj1 := hid (show n - 1 = j by omega)
        have hiI : decide ((i : Int) < (n : Int)) = false := decide_eq_false (by omega)
        have hiN : ¬ ((i : Int) < (n : Int)) := by omega
        have hiN2 : ¬ (i < n) := by omega
        have HU2 := hid (show KU (nb s) n (cv (nb s) c j) by rw [← hj1.out]; exact HU.out)
        generalize cv (nb s) c j = cj at *
        clear HU hi
        go_wp2_with fail
        exact ⟨rfl, n, cj, HU2.out, FS.mk ..⟩
  clear HK hn2 hn4 hns
  rintro a7 w7 ⟨rfl, n, c, ⟨hn2, hn4, hns, hc, hS⟩, f, rfl⟩
  unfold FS
  rw [hll] at hns
  have hnI : (0 : Int) ≤ (n : Int) := by omega
  have hsI : (n : Int) ≤ (s.size : Int) := by omega
  have HTK := hid (nb_take s n)
  have HS := hid hS
  clear hS
  have HPT := fun W => put09_any c W hc
  generalize hW : w7 = w0 at *
  clear hW
  by_cases hE : putB c = (nb s).take n
  · have hS := hid (show scN (nb s) = n by rw [HS.out, if_pos hE])
    have HE := hid hE
    clear hE HS
    refine wp_seq_cut (fun a w' => Below w0.heap.size w0 w' ∧ ∃ f, a = FS s n c f) ?_ ?_
    · go_wp2_with fail
      go_region_with (go_at_call 58; refine (HPT _).mono ?_; rintro e w6 ⟨S, rfl, hSS, e1⟩; have hq : (S.toList == (s.extract 0 n).toList) = true := (by (rw [toList_nb, hSS, HTK.out]; exact decide_eq_true HE.out)))
      all_goals go_wp2_with fail
      all_goals exact ⟨by first | exact (Below.drew (Below.refl w0.heap.size w0)).trans (show Below w0.heap.size w0.drew _ from e1) | exact e1 | assumption, FS.mk ..⟩
    rintro a9 w9 ⟨hB, f, rfl⟩
    unfold FS
    go_wp2_with fail
    go_ret2
    exact ⟨_, by rw [hS.out]; rfl, hB⟩
  · have hS := hid (show scN (nb s) = 0 by rw [HS.out, if_neg hE])
    have HE := hid hE
    clear hE HS
    go_wp2_with fail
    go_region_with (go_at_call 58; refine (HPT _).mono ?_; rintro e w6 ⟨S, rfl, hSS, e1⟩; have hq : (S.toList == (s.extract 0 n).toList) = false := (by (rw [toList_nb, hSS, HTK.out]; exact decide_eq_false HE.out)))
    all_goals go_wp2_with fail
    all_goals go_ret2
    all_goals exact ⟨0, by rw [hS.out]; rfl, by first | exact (Below.drew (Below.refl w0.heap.size w0)).trans (show Below w0.heap.size w0.drew _ from e1) | exact e1 | assumption⟩

end Go.Proofs.Ytegoephanphnkaa
