/- The texts LScanA, RefG, LawPart, Byts, LScanB, LScanD, RefH, NbExt, in one. -/
import Derived.Test.YtgpbpgpolpakjaaGreatDoorScanQ
import Derived.Test.YtgpbpgpolpakjaaGreatDoorAutoP
import Derived.Test.YtgpbpgpolpakjaaGreatDoorRefP
import Derived.Deep.RegionHeld3
import Derived.Test.YtgpbpgpolpakjaaGreatDoorBase
import Derived.Test.YtgpbpgpolpakjaaGreatDoorScanP
import Derived.Lib.ConvBytes
import Derived.Laws.BytesArg
import Derived.Below
import Derived.ArgAppend
import Derived.OwnWalk
import Derived.Deep.RegionLaw
/- Walks: the laws of chapter 12 that ask no reference: cut texts, blanks. -/


set_option linter.unusedVariables false
set_option linter.unusedSimpArgs false
set_option maxRecDepth 100000
namespace Go.Proofs.YtgpbpgpolpakjaaGreatDoor
open Go.RowKit Go.Shelf L

/-- A text of verdict 1. -/
def L.okv (l : List Nat) : Prop := (goA L.start l 0).2 = l.length ∧ fin (goA L.start l 0).1 = true
instance (l : List Nat) : Decidable (okv l) := by unfold okv; infer_instance
theorem L.most_le (l : List Nat) : (goA L.start l 0).1.most ≤ l.length := by
  have h1 := (small_go l L.start 0 small_start).2.1
  have h2 := (goA_ge l L.start 0).2
  omega
end Go.Proofs.YtgpbpgpolpakjaaGreatDoor

/- Walks: reference 09: with which scalar bytes begin (printed by gen/scalar2.py). -/




set_option linter.unusedVariables false
set_option linter.unusedSimpArgs false
set_option maxRecDepth 100000
namespace Go.Proofs.YtgpbpgpolpakjaaGreatDoor
open Go.RowKit Go.Shelf L


/-- The frame of Scalar: its n and its c known. -/
def FS (s : ByteArray) (n c : Nat) (f : Nat → Value) : Act := { tmps := #[.string s, f 1, f 2, f 3, .int .i64 (n : Nat), .int .i64 (c : Nat), f 6, f 7, f 8, f 9, f 10, f 11, f 12, f 13, f 14, f 15, f 16, f 17, f 18, f 19, f 20, f 21, f 22, f 23, f 24, f 25, f 26, f 27, f 28, f 29, f 30, f 31, f 32, f 33, f 34, f 35, f 36, f 37, f 38, f 39, f 40, f 41, f 42, f 43, f 44, f 45, f 46, f 47, f 48, f 49, f 50, f 51, f 52, f 53, f 54, f 55, f 56, f 57, f 58, f 59, f 60, f 61, f 62, f 63, f 64, f 65, f 66, f 67, f 68, f 69, f 70, f 71, f 72, f 73, f 74, f 75, f 76, f 77, f 78, f 79, f 80, f 81, f 82, f 83, f 84, f 85, f 86, f 87, f 88, f 89, f 90, f 91, f 92, f 93, f 94, f 95, f 96, f 97], defers := [] }
theorem FS.mk (s : ByteArray) (n c : Nat) (u1 u2 u3 u6 u7 u8 u9 u10 u11 u12 u13 u14 u15 u16 u17 u18 u19 u20 u21 u22 u23 u24 u25 u26 u27 u28 u29 u30 u31 u32 u33 u34 u35 u36 u37 u38 u39 u40 u41 u42 u43 u44 u45 u46 u47 u48 u49 u50 u51 u52 u53 u54 u55 u56 u57 u58 u59 u60 u61 u62 u63 u64 u65 u66 u67 u68 u69 u70 u71 u72 u73 u74 u75 u76 u77 u78 u79 u80 u81 u82 u83 u84 u85 u86 u87 u88 u89 u90 u91 u92 u93 u94 u95 u96 u97 : Value) : ∃ f, ({ tmps := #[.string s, u1, u2, u3, .int .i64 (n : Nat), .int .i64 (c : Nat), u6, u7, u8, u9, u10, u11, u12, u13, u14, u15, u16, u17, u18, u19, u20, u21, u22, u23, u24, u25, u26, u27, u28, u29, u30, u31, u32, u33, u34, u35, u36, u37, u38, u39, u40, u41, u42, u43, u44, u45, u46, u47, u48, u49, u50, u51, u52, u53, u54, u55, u56, u57, u58, u59, u60, u61, u62, u63, u64, u65, u66, u67, u68, u69, u70, u71, u72, u73, u74, u75, u76, u77, u78, u79, u80, u81, u82, u83, u84, u85, u86, u87, u88, u89, u90, u91, u92, u93, u94, u95, u96, u97], defers := [] } : Act) = FS s n c f := ⟨fun i => ([undef, u1, u2, u3, undef, undef, u6, u7, u8, u9, u10, u11, u12, u13, u14, u15, u16, u17, u18, u19, u20, u21, u22, u23, u24, u25, u26, u27, u28, u29, u30, u31, u32, u33, u34, u35, u36, u37, u38, u39, u40, u41, u42, u43, u44, u45, u46, u47, u48, u49, u50, u51, u52, u53, u54, u55, u56, u57, u58, u59, u60, u61, u62, u63, u64, u65, u66, u67, u68, u69, u70, u71, u72, u73, u74, u75, u76, u77, u78, u79, u80, u81, u82, u83, u84, u85, u86, u87, u88, u89, u90, u91, u92, u93, u94, u95, u96, u97] : List Value)[i]?.getD undef, rfl⟩
/-- What is known of the first byte, when those below lo have been looked at. -/
def KS (l : List Nat) (lo n c : Nat) : Prop := (n = 0 ∧ c = 0 ∧ (l = [] ∨ (128 ≤ at_ l 0 ∧ ¬ (192 ≤ at_ l 0 ∧ at_ l 0 < lo)))) ∨ (l ≠ [] ∧ 192 ≤ at_ l 0 ∧ at_ l 0 < lo ∧ n = kind (at_ l 0) ∧ c = at_ l 0 - base (at_ l 0))
theorem KS.low {l : List Nat} {lo hi n c : Nat} (h : KS l lo n c) (hl : lo ≤ hi) (hb : at_ l 0 < lo) : KS l hi n c := by
  rcases h with ⟨h1, h2, h3⟩ | ⟨h1, h2, h3, h4, h5⟩
  · refine Or.inl ⟨h1, h2, ?_⟩
    rcases h3 with h3 | h3
    · exact Or.inl h3
    · exact Or.inr ⟨h3.1, by omega⟩
  · exact Or.inr ⟨h1, h2, by omega, h4, h5⟩
theorem KS.high {l : List Nat} {lo hi n c : Nat} (h : KS l lo n c) (hl : lo ≤ hi) (hb : hi ≤ at_ l 0) : KS l hi n c := by
  rcases h with ⟨h1, h2, h3⟩ | ⟨h1, h2, h3, h4, h5⟩
  · refine Or.inl ⟨h1, h2, ?_⟩
    rcases h3 with h3 | h3
    · exact Or.inl h3
    · exact Or.inr ⟨h3.1, by omega⟩
  · omega
theorem KS.none {l : List Nat} {n c : Nat} (h : KS l 248 n c) (h0 : n = 0) : scN l = 0 := by
  rcases h with ⟨_, _, h3⟩ | ⟨h1, h2, h3, h4, h5⟩
  · rcases h3 with h3 | h3
    · rw [h3]; rfl
    · refine scN_none ?_
      unfold kind
      rw [if_neg (by omega)]
      (repeat' split) <;> omega
  · exfalso
    unfold kind at h4
    rw [if_neg (by omega), if_neg (by omega)] at h4
    (repeat' split at h4) <;> omega
theorem KS.short {l : List Nat} {n c : Nat} (h : KS l 248 n c) (h0 : n ≠ 0) (hl : l.length < n) : scN l = 0 := by
  rcases h with ⟨h1, _⟩ | ⟨h1, h2, h3, h4, h5⟩
  · exact absurd h1 h0
  · exact scN_short (by rw [← h4]; exact hl)
def FX (s : ByteArray) (f : Nat → Value) : Act := { tmps := #[.string s, f 1, f 2, f 3, f 4, f 5, f 6, f 7, f 8, f 9, f 10, f 11, f 12, f 13, f 14, f 15, f 16, f 17, f 18, f 19, f 20, f 21, f 22, f 23, f 24, f 25, f 26, f 27, f 28, f 29, f 30, f 31, f 32, f 33, f 34, f 35, f 36, f 37, f 38, f 39, f 40, f 41, f 42, f 43, f 44, f 45, f 46, f 47, f 48, f 49, f 50, f 51, f 52, f 53, f 54, f 55, f 56, f 57, f 58, f 59, f 60, f 61, f 62, f 63, f 64, f 65, f 66, f 67, f 68, f 69, f 70, f 71, f 72, f 73, f 74, f 75, f 76, f 77, f 78, f 79, f 80, f 81, f 82, f 83, f 84, f 85, f 86, f 87, f 88, f 89, f 90, f 91, f 92, f 93, f 94, f 95, f 96, f 97], defers := [] }
theorem FX.mk (s : ByteArray) (u1 u2 u3 u4 u5 u6 u7 u8 u9 u10 u11 u12 u13 u14 u15 u16 u17 u18 u19 u20 u21 u22 u23 u24 u25 u26 u27 u28 u29 u30 u31 u32 u33 u34 u35 u36 u37 u38 u39 u40 u41 u42 u43 u44 u45 u46 u47 u48 u49 u50 u51 u52 u53 u54 u55 u56 u57 u58 u59 u60 u61 u62 u63 u64 u65 u66 u67 u68 u69 u70 u71 u72 u73 u74 u75 u76 u77 u78 u79 u80 u81 u82 u83 u84 u85 u86 u87 u88 u89 u90 u91 u92 u93 u94 u95 u96 u97 : Value) : ∃ f, ({ tmps := #[.string s, u1, u2, u3, u4, u5, u6, u7, u8, u9, u10, u11, u12, u13, u14, u15, u16, u17, u18, u19, u20, u21, u22, u23, u24, u25, u26, u27, u28, u29, u30, u31, u32, u33, u34, u35, u36, u37, u38, u39, u40, u41, u42, u43, u44, u45, u46, u47, u48, u49, u50, u51, u52, u53, u54, u55, u56, u57, u58, u59, u60, u61, u62, u63, u64, u65, u66, u67, u68, u69, u70, u71, u72, u73, u74, u75, u76, u77, u78, u79, u80, u81, u82, u83, u84, u85, u86, u87, u88, u89, u90, u91, u92, u93, u94, u95, u96, u97], defers := [] } : Act) = FX s f := ⟨fun i => ([undef, u1, u2, u3, u4, u5, u6, u7, u8, u9, u10, u11, u12, u13, u14, u15, u16, u17, u18, u19, u20, u21, u22, u23, u24, u25, u26, u27, u28, u29, u30, u31, u32, u33, u34, u35, u36, u37, u38, u39, u40, u41, u42, u43, u44, u45, u46, u47, u48, u49, u50, u51, u52, u53, u54, u55, u56, u57, u58, u59, u60, u61, u62, u63, u64, u65, u66, u67, u68, u69, u70, u71, u72, u73, u74, u75, u76, u77, u78, u79, u80, u81, u82, u83, u84, u85, u86, u87, u88, u89, u90, u91, u92, u93, u94, u95, u96, u97] : List Value)[i]?.getD undef, rfl⟩

end Go.Proofs.YtgpbpgpolpakjaaGreatDoor

/- Plain laws of scalars' bytes: which few bytes go on to a scalar's. No program in sight. -/

set_option linter.unusedVariables false
set_option linter.unusedSimpArgs false
namespace Go.Proofs.YtgpbpgpolpakjaaGreatDoor.L

/-- Two lists that begin alike have the same states. -/
theorem us_pre {l t : List Nat} {n : Nat} (h : ∀ i, i < n → at_ t i = at_ l i) : ∀ j, j ≤ n → us t j = us l j
  | 0, _ => rfl
  | j + 1, hj => by
    show ustep (us t j) (at_ t j) = ustep (us l j) (at_ l j)
    rw [us_pre h j (by omega), h j (by omega)]

/-- Where bytes die just so far, no scalar begins, and the other way round. -/
def DiesAt (l : List Nat) (m : Nat) : Prop := m ≤ 3 ∧ m ≤ l.length ∧ (∀ j, 0 < j → j ≤ m → us l j ≠ 0 ∧ us l j ≤ 7) ∧ (m = l.length ∨ us l (m + 1) = 8)
theorem ustep_8 (b : Nat) : ustep 8 b = 8 := by unfold ustep unext; rw [if_neg (by omega)]; split <;> rfl
theorem us_dead {l : List Nat} {m : Nat} (h : us l m = 8) : ∀ j, us l (m + j) = 8
  | 0 => h
  | j + 1 => by
    show ustep (us l (m + j)) _ = 8
    rw [us_dead h j, ustep_8]
theorem dies_not_lives {l : List Nat} {m n : Nat} (h : DiesAt l m) (k : Lives l n) : False := by
  obtain ⟨h1, h2, h3, h4⟩ := h
  obtain ⟨k1, k2, k3, k4, k5⟩ := k
  rcases Nat.lt_or_ge m n with hmn | hmn
  · rcases h4 with h4 | h4
    · omega
    · have := us_dead h4 (n - (m + 1))
      rw [show m + 1 + (n - (m + 1)) = n from by omega, k4] at this
      omega
  · exact (h3 n k1 hmn).1 k4
theorem lives_uniq {l : List Nat} {m n : Nat} (h : Lives l m) (k : Lives l n) : m = n := by
  obtain ⟨h1, h2, h3, h4, h5⟩ := h
  obtain ⟨k1, k2, k3, k4, k5⟩ := k
  rcases Nat.lt_trichotomy m n with e | e | e
  · exact absurd h4 (k5 m h1 e).1
  · exact e
  · exact absurd k4 (h5 n k1 e).1
theorem scN_lives {l : List Nat} {n : Nat} (h : Lives l n) : scN l = n := by
  have h0 : 0 < l.length := by have := h.1; have := h.2.2.1; omega
  rcases scN_spec h0 with ⟨e, m, d⟩ | k
  · exact (dies_not_lives d h).elim
  · exact lives_uniq k h
/-- The bytes that are tried. -/
def low3 (i : Nat) : Nat := if i = 0 then 128 else if i = 1 then 160 else 144
def high3 (i : Nat) : Nat := if i = 0 then 191 else if i = 1 then 159 else 143
def choice (i k : Nat) : Nat := if k % 2 = 0 then low3 i else high3 i
def exc (l : List Nat) (i k p : Nat) : Nat := if p < l.length then at_ l p else if p = 1 then choice i k else 128
def exb (l : List Nat) (i k m : Nat) : List Nat := (List.range m).map (exc l i k)
theorem exb_length (l : List Nat) (i k m : Nat) : (exb l i k m).length = m := by unfold exb; rw [List.length_map, List.length_range]
theorem exb_at (l : List Nat) (i k m p : Nat) (h : p < m) : at_ (exb l i k m) p = exc l i k p := by
  unfold at_ exb
  rw [List.getElem?_map, List.getElem?_range h]; rfl
/-- All bytes are alive. -/
def AllAlive (l : List Nat) : Prop := ∀ j, 0 < j → j ≤ l.length → us l j ≠ 0 ∧ us l j ≤ 7
def Hit (l : List Nat) (i k m : Nat) : Prop := scN (exb l i k m) = m
theorem us_exb (l : List Nat) (i k m j : Nat) (hj : j ≤ l.length) (hm : l.length ≤ m) : us (exb l i k m) j = us l j :=
  us_pre (n := l.length) (fun p hp => by rw [exb_at l i k m p (by omega)]; unfold exc; rw [if_pos hp]) j hj
theorem us_to (l : List Nat) (j : Nat) : us l (j + 1) = ustep (us l j) (at_ l j) := rfl
theorem ustep_in (u b : Nat) (h0 : u ≠ 0) (h : u ≤ 7) (h2 : ustep u b ≤ 7) : ustep u b ≤ 2 := by
  unfold ustep at h2 ⊢
  rw [if_neg h0] at h2 ⊢
  split
  · rename_i hh; rw [if_pos hh] at h2; omega
  · unfold unext; (repeat' split) <;> omega

theorem alive_hit {l : List Nat} (h1 : 0 < l.length) (h3 : l.length ≤ 3) (h : AllAlive l) : ∃ i k m, i < 3 ∧ k < 3 ∧ l.length < m ∧ m ≤ 4 ∧ Hit l i k m := by
  -- which second byte
  have hu1 := h 1 (by omega) (by omega)
  obtain ⟨i, hi, hI⟩ : ∃ i, i < 3 ∧ (l.length = 1 → ustep (us l 1) (choice i 0) = unext (us l 1)) := by
    by_cases e4 : us l 1 = 4
    · exact ⟨1, by omega, fun _ => by rw [e4]; rfl⟩
    · by_cases e6 : us l 1 = 6
      · exact ⟨2, by omega, fun _ => by rw [e6]; rfl⟩
      · refine ⟨0, by omega, fun _ => ?_⟩
        have : us l 1 = 1 ∨ us l 1 = 2 ∨ us l 1 = 3 ∨ us l 1 = 5 ∨ us l 1 = 7 := by omega
        rcases this with e | e | e | e | e <;> rw [e] <;> rfl
  -- the states of the bytes that are tried
  have key : ∀ m, l.length ≤ m → m ≤ 4 → us (exb l i 0 4) l.length = us l l.length := fun m _ _ => us_exb l i 0 4 _ (Nat.le_refl _) (by omega)
  have hlen : us (exb l i 0 4) l.length = us l l.length := us_exb l i 0 4 _ (Nat.le_refl _) (by omega)
  have hpre : ∀ j, j ≤ l.length → us (exb l i 0 4) j = us l j := fun j hj => us_exb l i 0 4 _ hj (by omega)
  have hstep : ∀ p, l.length ≤ p → p < 4 → us (exb l i 0 4) (p + 1) = ustep (us (exb l i 0 4) p) (if p = 1 then choice i 0 else 128) := fun p hp h4 => by
    rw [us_to, exb_at l i 0 4 p h4]
    unfold exc
    rw [if_neg (by omega)]
  have hlives : ∀ m, l.length < m → m ≤ 4 → us (exb l i 0 4) m = 0 → (∀ j, l.length < j → j < m → us (exb l i 0 4) j ≠ 0 ∧ us (exb l i 0 4) j ≤ 7) → Hit l i 0 m := by
    intro m hm hm4 h0 hin
    have hpm : ∀ j, j ≤ m → us (exb l i 0 m) j = us (exb l i 0 4) j := us_pre (n := m) (fun p hp => by rw [exb_at l i 0 m p hp, exb_at l i 0 4 p (by omega)])
    refine scN_lives ⟨by omega, hm4, by rw [exb_length]; exact Nat.le_refl _, by rw [hpm m (Nat.le_refl _)]; exact h0, fun j hj1 hj2 => ?_⟩
    rw [hpm j (by omega)]
    rcases Nat.lt_or_ge l.length j with hj | hj
    · exact hin j hj hj2
    · rw [hpre j hj]; exact h j hj1 hj
  have h8 : ustep 1 128 = 0 := rfl
  have h9 : ustep 2 128 = 1 := rfl
  refine ⟨i, 0, ?_⟩
  have hc : l.length = 1 ∨ l.length = 2 ∨ l.length = 3 := by omega
  rcases hc with e | e | e
  · have s1 : us (exb l i 0 4) 1 = us l 1 := hpre 1 (by omega)
    have s2 : us (exb l i 0 4) 2 = unext (us l 1) := by rw [hstep 1 (by omega) (by omega), s1, if_pos rfl, hI e]
    have s3 : us (exb l i 0 4) 3 = ustep (unext (us l 1)) 128 := by rw [hstep 2 (by omega) (by omega), s2, if_neg (by omega)]
    have s4 : us (exb l i 0 4) 4 = ustep (ustep (unext (us l 1)) 128) 128 := by rw [hstep 3 (by omega) (by omega), s3, if_neg (by omega)]
    have hx : unext (us l 1) = 0 ∨ unext (us l 1) = 1 ∨ unext (us l 1) = 2 := by
      have : us l 1 = 1 ∨ us l 1 = 2 ∨ us l 1 = 3 ∨ us l 1 = 4 ∨ us l 1 = 5 ∨ us l 1 = 6 ∨ us l 1 = 7 := by omega
      rcases this with e | e | e | e | e | e | e <;> rw [e] <;> decide
    rcases hx with e0 | e1 | e2
    · exact ⟨2, by omega, by omega, by omega, by omega, hlives 2 (by omega) (by omega) (by rw [s2, e0]) (fun j h1 h2 => by omega)⟩
    · refine ⟨3, by omega, by omega, by omega, by omega, hlives 3 (by omega) (by omega) (by rw [s3, e1, h8]) (fun j h1 h2 => ?_)⟩
      obtain rfl : j = 2 := by omega
      rw [s2, e1]; omega
    · refine ⟨4, by omega, by omega, by omega, by omega, hlives 4 (by omega) (by omega) (by rw [s4, e2, h9, h8]) (fun j h1 h2 => ?_)⟩
      have : j = 2 ∨ j = 3 := by omega
      rcases this with rfl | rfl
      · rw [s2, e2]; omega
      · rw [s3, e2, h9]; omega
  · have hu2 := h 2 (by omega) (by omega)
    have hle2 : us l 2 ≤ 2 := ustep_in (us l 1) (at_ l 1) hu1.1 hu1.2 hu2.2
    have s2 : us (exb l i 0 4) 2 = us l 2 := hpre 2 (by omega)
    have s3 : us (exb l i 0 4) 3 = ustep (us l 2) 128 := by rw [hstep 2 (by omega) (by omega), s2, if_neg (by omega)]
    have s4 : us (exb l i 0 4) 4 = ustep (ustep (us l 2) 128) 128 := by rw [hstep 3 (by omega) (by omega), s3, if_neg (by omega)]
    have hx : us l 2 = 1 ∨ us l 2 = 2 := by omega
    rcases hx with e1 | e2
    · exact ⟨3, by omega, by omega, by omega, by omega, hlives 3 (by omega) (by omega) (by rw [s3, e1, h8]) (fun j h1 h2 => by omega)⟩
    · refine ⟨4, by omega, by omega, by omega, by omega, hlives 4 (by omega) (by omega) (by rw [s4, e2, h9, h8]) (fun j h1 h2 => ?_)⟩
      obtain rfl : j = 3 := by omega
      rw [s3, e2, h9]; omega
  · have hu2 := h 2 (by omega) (by omega)
    have hu3 := h 3 (by omega) (by omega)
    have hle2 : us l 2 ≤ 2 := ustep_in (us l 1) (at_ l 1) hu1.1 hu1.2 hu2.2
    have h31 : us l 3 = 1 := by
      have e3 : us l 3 = ustep (us l 2) (at_ l 2) := rfl
      have hx : us l 2 = 1 ∨ us l 2 = 2 := by omega
      rcases hx with e1 | e2
      · rw [e1, ustep_1] at e3
        split at e3 <;> omega
      · rw [e2, ustep_2] at e3
        split at e3 <;> omega
    have s3 : us (exb l i 0 4) 3 = us l 3 := hpre 3 (by omega)
    have s4 : us (exb l i 0 4) 4 = ustep (us l 3) 128 := by rw [hstep 3 (by omega) (by omega), s3, if_neg (by omega)]
    exact ⟨4, by omega, by omega, by omega, by omega, hlives 4 (by omega) (by omega) (by rw [s4, h31, h8]) (fun j h1 h2 => by omega)⟩

/-- What has been tried. -/
def No1 (l : List Nat) (i : Nat) : Prop := ∀ i', i' < i → ∀ k, k < 3 → ∀ m, l.length < m → m ≤ 4 → ¬ Hit l i' k m
def No2 (l : List Nat) (i k : Nat) : Prop := No1 l i ∧ ∀ k', k' < k → ∀ m, l.length < m → m ≤ 4 → ¬ Hit l i k' m
def No3 (l : List Nat) (i k m : Nat) : Prop := No2 l i k ∧ ∀ m', l.length < m' → m' < m → ¬ Hit l i k m'
theorem No1.zero (l : List Nat) : No1 l 0 := fun i' h => by omega
theorem No1.two {l : List Nat} {i : Nat} (h : No1 l i) : No2 l i 0 := ⟨h, fun k' h => by omega⟩
theorem No2.one {l : List Nat} {i : Nat} (h : No2 l i 3) : No1 l (i + 1) := fun i' hi k hk m h1 h2 => by
  rcases Nat.lt_or_ge i' i with h3 | h3
  · exact h.1 i' h3 k hk m h1 h2
  · obtain rfl : i' = i := by omega
    exact h.2 k hk m h1 h2
theorem No3.two {l : List Nat} {i k m : Nat} (h : No3 l i k m) (hm : 4 < m) : No2 l i (k + 1) := ⟨h.1.1, fun k' hk m' h1 h2 => by
  rcases Nat.lt_or_ge k' k with h3 | h3
  · exact h.1.2 k' h3 m' h1 h2
  · obtain rfl : k' = k := by omega
    exact h.2 m' h1 (by omega)⟩
theorem No1.all {l : List Nat} (h : No1 l 3) (h1 : 0 < l.length) (h3 : l.length ≤ 3) : ¬ AllAlive l := fun ha => by
  obtain ⟨i, k, m, a1, a2, a3, a4, a5⟩ := alive_hit h1 h3 ha
  exact h i a1 k a2 m a3 a4 a5

end Go.Proofs.YtgpbpgpolpakjaaGreatDoor.L

/- Memory: a slice of bytes of one's own that may have come of a string: appending to it a byte, reading it as a string. No program's function. -/






set_option linter.unusedVariables false
set_option linter.unusedSimpArgs false
set_option maxRecDepth 100000
namespace Go.Proofs.YtgpbpgpolpakjaaGreatDoor
open Go.RowKit L

/-- The slice v holds the bytes l; it lies in a block from base on, whose other cells are free. -/
def BRow (w : World) (base : Nat) (v : Value) (l : List Nat) : Prop :=
  ∃ g cap, v = .slice (some ⟨g, 0, none⟩) l.length cap ∧ base ≤ g ∧ g < w.heap.size ∧ l.length ≤ cap ∧ cap ≤ maxLen ∧
    (∀ j (h : j < l.length), w.cell? ⟨g, j, none⟩ = some (.int .u8 (l[j] : Nat))) ∧ ∀ j, j < cap → (w.cell? ⟨g, j, none⟩).isSome = true ∧ w.frozen? ⟨g, j, none⟩ = false

section
variable {w w' : World} {base : Nat} {v : Value} {l : List Nat}
theorem BRow.kept (h : BRow w base v l) (hs : w.heap.size ≤ w'.heap.size) (hk : ∀ g, g < w.heap.size → w'.heap[g]? = w.heap[g]?) : BRow w' base v l := by
  obtain ⟨g, cap, h1, h2, h3, h4, h5, h6, h7⟩ := h
  have hc : ∀ j, w'.cell? ⟨g, j, none⟩ = w.cell? ⟨g, j, none⟩ := fun j => World.cell?_of_block (hk g h3)
  have hf : ∀ j, w'.frozen? ⟨g, j, none⟩ = w.frozen? ⟨g, j, none⟩ := fun j => World.frozen?_of_block (hk g h3)
  exact ⟨g, cap, h1, h2, by omega, h4, h5, fun j hj => (hc j).trans (h6 j hj), fun j hj => by rw [hc, hf]; exact h7 j hj⟩
theorem BRow.below (h : BRow w base v l) (hb : Below w.heap.size w w') : BRow w' base v l := h.kept hb.size (fun g hg => hb.block g hg)
theorem BRow.alloc (h : BRow w base v l) (o : Obj) : BRow (w.alloc o) base v l := h.kept (by simp) (fun g hg => Below.heap_alloc w o g hg)
theorem BRow.drew (h : BRow w base v l) : BRow w.drew base v l := h.kept (Nat.le_refl _) (fun _ _ => rfl)
theorem BRow.drewN (h : BRow w base v l) (n : Nat) : BRow (w.drewN n) base v l := h.kept (Nat.le_refl _) (fun _ _ => rfl)
theorem BRow.of_own {n : Nat} {A : Option Addr} {c : Nat} (h : w.ownsRow base 5 1 v n (l.map fun b : Nat => Value.int .u8 (b : Nat))) (hn : 0 < n) : BRow w base v l := by
  have hl : l.length = n := by have := h.1; simpa using this
  rcases h.2 with ⟨_, e⟩ | ⟨g, cap, cur, rfl, hg, hh, h1, h2, h3, h4⟩
  · omega
  · have hcell : ∀ j, w.cell? ⟨g, j, none⟩ = cur[j]? := fun j => cell_of_row w g j cur 5 (0, 0) hh
    refine ⟨g, cap, by rw [hl], hg, (Array.getElem?_eq_some_iff.1 hh).1, by omega, h2, fun j hj => ?_, fun j hj => ⟨?_, ?_⟩⟩
    · rw [hcell j]
      have h5 := congrArg (fun x => x[j]?) h4
      simp only [List.getElem?_map, List.getElem?_take] at h5
      rw [if_pos (by omega), List.getElem?_eq_getElem hj] at h5
      simpa using h5
    · rw [hcell j, Array.getElem?_eq_getElem (by omega)]; rfl
    · simp [World.frozen?, hh]
end

section
variable {P : Program}
end

end Go.Proofs.YtgpbpgpolpakjaaGreatDoor

/- Walks: the laws of chapter 12 that ask no reference: blanks about a text; texts within brackets. -/


set_option linter.unusedVariables false
set_option linter.unusedSimpArgs false
set_option linter.unusedSectionVars false
set_option maxRecDepth 100000
namespace Go.Proofs.YtgpbpgpolpakjaaGreatDoor
open Go.RowKit Go.Shelf L

section
variable {A B l : List Nat} (hA : ∀ c ∈ A, L.blank c = true) (hB : ∀ c ∈ B, L.blank c = true)
include hA hB
end

end Go.Proofs.YtgpbpgpolpakjaaGreatDoor

/- Walks: the laws of chapter 12 that ask no reference: long texts. -/



set_option linter.unusedVariables false
set_option linter.unusedSimpArgs false
set_option maxRecDepth 100000
namespace Go.Proofs.YtgpbpgpolpakjaaGreatDoor
open Go.RowKit Go.Shelf L

theorem Lst.litS {w : World} {A : Option Addr} {xs : List Value} (h : Lst w A xs) (hx : 0 < xs.length) : ∃ b off, A = some ⟨b, off, none⟩ ∧ b < w.heap.size ∧ ∀ j u, xs[j]? = some u → w.cell? ⟨b, off + j, none⟩ = some u := by
  obtain ⟨ad, rfl, hc⟩ := h 0 _ (List.getElem?_eq_getElem hx)
  obtain ⟨b, off, spot⟩ := ad
  have hspot : spot = none := by simpa [Addr.add] using World.cell?_spot hc
  subst hspot
  have hb := World.block_lt_of_cell? w _ hc
  rw [block_of_add] at hb
  exact ⟨b, off, rfl, hb, fun j u hu => by have := h.addr hu; rwa [Addr.add_lit] at this⟩

end Go.Proofs.YtgpbpgpolpakjaaGreatDoor

/- Walks: reference 09: do some bytes go on to a scalar's? -/





set_option linter.unusedVariables false
set_option linter.unusedSimpArgs false
set_option maxRecDepth 100000
namespace Go.Proofs.YtgpbpgpolpakjaaGreatDoor
open Go.RowKit Go.Shelf L

/-- The two tables of part, and how far the world has gone. -/
def PInv (w0 : World) (gl gh : Nat) (wr : World) : Prop := Below w0.heap.size w0 wr ∧ BlkIs wr gl 5 #[.int .u8 128, .int .u8 160, .int .u8 144] ∧ BlkIs wr gh 5 #[.int .u8 191, .int .u8 159, .int .u8 143]
theorem PInv.below {w0 wr wr' : World} {gl gh : Nat} (h : PInv w0 gl gh wr) (hb : Below wr.heap.size wr wr') : PInv w0 gl gh wr' := ⟨h.1.trans (hb.mono h.1.size), h.2.1.below hb, h.2.2.below hb⟩
theorem PInv.low {w0 wr : World} {gl gh i : Nat} (h : PInv w0 gl gh wr) (hi : i < 3) : wr.cell? ⟨gl, i, none⟩ = some (.int .u8 (low3 i : Nat)) := by
  rw [h.2.1.cell i]
  have : i = 0 ∨ i = 1 ∨ i = 2 := by omega
  rcases this with rfl | rfl | rfl <;> rfl
theorem PInv.high {w0 wr : World} {gl gh i : Nat} (h : PInv w0 gl gh wr) (hi : i < 3) : wr.cell? ⟨gh, i, none⟩ = some (.int .u8 (high3 i : Nat)) := by
  rw [h.2.2.cell i]
  have : i = 0 ∨ i = 1 ∨ i = 2 := by omega
  rcases this with rfl | rfl | rfl <;> rfl

theorem PInv.size {w0 wr : World} {gl gh : Nat} (h : PInv w0 gl gh wr) : gh + 1 ≤ wr.heap.size := h.2.2.lt

end Go.Proofs.YtgpbpgpolpakjaaGreatDoor

/- The bytes of a stretch of a string. -/

set_option linter.unusedVariables false
namespace Go.Proofs.YtgpbpgpolpakjaaGreatDoor
open L
theorem L.nb_ext (s : ByteArray) (a b : Nat) : nb (s.extract a b) = ((nb s).drop a).take (b - a) := by
  unfold nb
  rw [ByteArray.data_extract, Array.toList_extract]
  simp [List.extract, List.map_drop, List.map_take]
theorem L.nb_drop (s : ByteArray) (a : Nat) : nb (s.extract a s.size) = (nb s).drop a := by
  rw [nb_ext, List.take_of_length_le]
  rw [List.length_drop, nb_length]; omega
end Go.Proofs.YtgpbpgpolpakjaaGreatDoor
