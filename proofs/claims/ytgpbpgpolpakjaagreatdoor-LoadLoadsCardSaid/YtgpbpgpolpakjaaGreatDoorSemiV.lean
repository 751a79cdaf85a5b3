/- Proof text. -/
import Derived.Test.YtgpbpgpolpakjaaGreatDoorMarkP
import Derived.Test.YtgpbpgpolpakjaaGreatDoorScanQ
import Derived.Test.YtgpbpgpolpakjaaGreatDoorNestP
import Derived.Test.YtgpbpgpolpakjaaGreatDoorFanoQ
import Derived.Test.YtgpbpgpolpakjaaGreatDoorMathsB
set_option maxHeartbeats 4000000
set_option linter.unusedVariables false
set_option linter.unusedSimpArgs false
set_option maxRecDepth 100000
namespace Go.Proofs.YtgpbpgpolpakjaaGreatDoor
open Go.RowKit Go.Shelf L
def L.zd2 (l : List Nat) : Nat := if (verd l 4096).1 = 4 then 4 else if (verd l 4096).1 = 3 then 3 else if (verd l 4096).1 = 2 then 5 else 0
theorem L.zks {l : List Nat} (h : zd2 l = 0) : Text l 4096 ∧ l.length ≤ 65536 := by
 unfold zd2 verd at h
 by_cases h1 : 65536 < l.length
 ·simp [h1] at h
 ·rw [if_neg h1] at h
  by_cases h2 : (goA L.start l 0).2 = l.length ∧ fin (goA L.start l 0).1 = true
  ·rw [if_pos h2] at h
   by_cases h3 : 4096 < (goA L.start l 0).1.most
   ·rw [if_pos h3] at h; simp at h
   ·exact ⟨⟨h2.1, h2.2, by omega⟩, by omega⟩
  ·rw [if_neg h2] at h; simp at h
theorem L.z0a {l : List Nat} (h : Text l 4096) (hl : l.length ≤ 65536) : zd2 l = 0 := by
 have hv : (verd l 4096).1 = 1 := by
  unfold verd
  rw [if_neg (show ¬ 65536 < l.length by omega), if_pos (show (goA L.start l 0).2 = l.length ∧ fin (goA L.start l 0).1 = true from ⟨h.1, h.2.1⟩), if_neg (show ¬ 4096 < (goA L.start l 0).1.most by have := h.2.2; omega)]
 unfold zd2
 rw [hv]; rfl
theorem L.z0b (l : List Nat) : ((verd l 4096).1 = 4 ∧ zd2 l = 4) ∨ ((verd l 4096).1 = 3 ∧ zd2 l = 3) ∨ ((verd l 4096).1 = 2 ∧ zd2 l = 5) ∨ ((verd l 4096).1 = 1 ∧ zd2 l = 0) := by
 have h : (verd l 4096).1 = 4 ∨ (verd l 4096).1 = 3 ∨ (verd l 4096).1 = 2 ∨ (verd l 4096).1 = 1 := by
  unfold verd
  split
  ·left; rfl
  split
  ·split
   ·right; right; left; rfl
   ·right; right; right; rfl
  ·right; left; rfl
 unfold zd2
 rcases h with h | h | h | h <;> rw [h] <;> simp
theorem ztl (s : ByteArray) (w : World) : Calls Tryz.prog 27 #[.string s] w fun e w' => e = .returned (.int .i64 (zd2 (nb s) : Nat)) ∧ Below w.heap.size w w' := by
 have HV := hid (zqb s 4096 w (by omega) (by omega))
 rcases z0b (nb s) with ⟨h1, h2⟩ | ⟨h1, h2⟩ | ⟨h1, h2⟩ | ⟨h1, h2⟩
 all_goals
  rw [h2]
  rw [h1] at HV
  clear h1 h2
  go_enter Tryz.func27, Tryz.ntmps27
  go_wp2_with fail
  refine (HV.out).mono ?_
  rintro e w1 ⟨rfl, hB1⟩
  go_wp2_with fail
  go_ret
  exact ⟨rfl, hB1⟩
theorem zvd (A : Option Addr) (c : Nat) (l : List Bool) (w : World) (hl : Lst w A (bools l)) (hn : l.length ≤ 4294967296) :
  Calls Tryz.prog 31 #[.slice A l.length c] w (zkc w l) := by
 have hb0 := BuilderAt.new_at w w.heap.size w.heap.size rfl
 go_enter Tryz.func31, Tryz.ntmps31
 go_wp2_with fail
 go_loopw [8] (fun i wr => ∃ (k : Nat) (v : Value), k ≤ l.length ∧ i = .int .i64 k ∧ BuilderAt wr w.heap.size w.heap.size v (l.take k) ∧ Below w.heap.size w wr) (fun i _ => l.length - (intOf i).toNat)
 case atStart => exact ⟨0, _, by omega, rfl, hb0, (Below.refl _ _).alloc (Nat.le_refl _) _⟩
 case round =>
  obtain ⟨k, v, hk, rfl, hb, hB⟩ := hrel
  have hsz := hB.size
  clear hb0
  rcases Nat.lt_or_ge k l.length with hlt | hge
  ·have q0 := zkb l hlt
   obtain ⟨ab, ao, rfl, had, hcl⟩ := hl.lit (by rw [zcx]; omega)
   have wc := (hB.cell (p := ⟨ab, ao + k, none⟩) had).trans (hcl _ _ q0)
   have hki : (k : Int) < (l.length : Int) := by omega
   have hk0 : (0 : Int) ≤ (k : Int) := by omega
   have H := hid (show l.take (k + 1) = l.take k ++ [zb l k] by
    rw [List.take_succ_eq_append_getElem hlt]
    have := zf9 l k hlt
    rw [List.getElem?_eq_getElem hlt] at this
    injection this with this
    rw [this])
   have hlk : (l.take k).length + 1 ≤ 4294967296 := by rw [List.length_take]; omega
   clear q0 hcl
   go_wp2_with fail
   refine (zox _ w.heap.size w.heap.size v (l.take k) _ hlk hb hsz).mono ?_
   rintro e w1 ⟨rfl, v1, hb1, hat1, ho1⟩
   have hB1 := hB.trans (za5 hb (Nat.le_refl _) (Nat.le_refl _) hsz ho1)
   rw [← H.out] at hb1
   go_wp2_with fail
   go_roundw
   case rel => exact ⟨k + 1, v1, by omega, by go_num, hb1, hB1⟩
   case measure => simp [intOf]; omega
  ·obtain rfl : k = l.length := by omega
   have hkn : ¬ ((l.length : Int) < (l.length : Int)) := by omega
   rw [List.take_length] at hb
   go_wp2_with fail
   refine (zg0 _ _ _ _ _ hb hn).mono ?_
   rintro e w2 ⟨g2, A2, c2, rfl, hr2, h1, h2, hB2⟩
   go_wp2_with fail
   go_ret
   exact ⟨g2, A2, c2, rfl, hr2, by omega, fun ad h => by have := h2 ad h; omega, hB.trans (hB2.mono hsz)⟩
def L.bndN (l : List Nat) : Nat := if (places l).length = 0 then 1 else l.length
theorem L.zwt (l : List Nat) : 1 ≤ bndN l := by
 unfold bndN
 by_cases h : (places l).length = 0
 ·rw [if_pos h]; omega
 ·rw [if_neg h]
  have := zbg l
  rw [zah] at h
  omega
theorem L.z8h (l : List Nat) (h : l.length ≤ 1048576) : bndN l ≤ 1048576 := by unfold bndN; split <;> omega
theorem L.zb5 {l : List Nat} (h : l.length ≤ 1048576) : zas (places l) (bndN l) := by
 refine ⟨⟨zwt l, by have := z8h l h; omega⟩, ?_, fun x hx => ?_⟩
 ·exact (zl3 l).imp (fun h => Nat.le_of_lt h)
 ·have h1 := zki l x hx
  unfold bndN
  rw [if_neg (fun e => by rw [List.length_eq_zero_iff] at e; rw [e] at hx; cases hx)]
  exact h1
theorem L.zc7 {l : List Nat} (h : l.length ≤ 65536) (hm : (places l).length ≤ 10000) : Few (places l) (bndN l) := by
 refine ⟨by omega, Nat.le_trans (Nat.div_le_self _ _) ?_⟩
 unfold bndN; split <;> omega
def zbo (w : World) (g : Nat) (s : ByteArray) : Prop :=
 ∃ q x t Ax cx, za w g 67 #[.pointer (some ⟨q, 0, none⟩), .pointer (some ⟨x, 0, none⟩), .pointer (some ⟨t, 0, none⟩), .string s] ∧ za4 w q (places (nb s)) (bndN (nb s)) ∧ zo w x Ax cx (zl (nb s)) ∧ zcc w t (zl (nb s))
theorem zbo.below {w w' : World} {g : Nat} {s : ByteArray} (h : zbo w g s) (hb : Below w.heap.size w w') : zbo w' g s := by
 obtain ⟨q, x, t, Ax, cx, h1, h2, h3, h4⟩ := h
 exact ⟨q, x, t, Ax, cx, h1.below hb, h2.below hb, h3.below hb, h4.below hb⟩
theorem zqh (A : Option Addr) (n c : Nat) (s : ByteArray) (w : World) : Calls Tryz.prog 30 #[.slice A n c, .string s] w fun e w' => e = .returned (.int .i64 (if n = 0 then 1 else s.size : Nat)) ∧ w = w' := by
 rcases Nat.eq_zero_or_pos n with rfl | h
 ·go_enter Tryz.func30, Tryz.ntmps30
  go_wp2_with fail
  go_ret
  exact ⟨rfl, rfl⟩
 ·rw [if_neg (show ¬ n = 0 by omega)]
  have hb : ((n : Int) == 0) = false := by rw [beq_eq_false_iff_ne]; omega
  have hz : ¬ (n = 0) := by omega
  go_enter Tryz.func30, Tryz.ntmps30
  go_wp2_with fail
  go_ret
  exact ⟨rfl, rfl⟩
theorem zve (s : ByteArray) (w : World) (h : zd2 (nb s) = 0) (hm : (places (nb s)).length ≤ 10000) :
  Calls Tryz.prog 9 #[.string s] w fun e w' => ∃ g, e = .returned (.tuple #[.pointer (some ⟨g, 0, none⟩), .int .i64 0]) ∧ zbo w' g s ∧ Below w.heap.size w w' := by
 obtain ⟨ht, hl⟩ := zks h
 have hsz : s.size ≤ 65536 := by rw [zf] at hl; exact hl
 have HK := hid (fun W => ztl s W)
 rw [h] at HK
 have HP := hid (fun W => zl5 s W (by omega))
 have HQ := hid (fun W => zl6 s W (by omega))
 have HBD := hid (fun A n c W => zqh A n c s W)
 have hbe : (if (places (nb s)).length = 0 then 1 else s.size) = bndN (nb s) := by unfold bndN; rw [zf]
 have HM := hid (fun A c W hW => z6d A c (places (nb s)) (bndN (nb s)) W hW (zb5 (by omega)) (zc7 hl hm))
 have hpl : (zl (nb s)).length ≤ 131072 := by rw [zbz]; have := zbg (nb s); omega
 have HR := hid (fun A c W hW => zvd A c (zl (nb s)) W hW (by omega))
 have HN := hid (fun g A c W hW => zl8 g A c (zl (nb s)) W hW (zsw ht.1 ht.2.1))
 have HBE := hid hbe
 have HMK := hid (show ∀ w' g q x t Ax cx, za w' g 67 #[.pointer (some ⟨q, 0, none⟩), .pointer (some ⟨x, 0, none⟩), .pointer (some ⟨t, 0, none⟩), .string s] → za4 w' q (places (nb s)) (bndN (nb s)) → zo w' x Ax cx (zl (nb s)) → zcc w' t (zl (nb s)) → zbo w' g s from fun w' g q x t Ax cx a b c d => ⟨q, x, t, Ax, cx, a, b, c, d⟩)
 clear h ht hl hm hbe
 generalize places (nb s) = P at *
 generalize zl (nb s) = R at *
 go_enter Tryz.func9, Tryz.ntmps9
 go_wp2_with fail
 refine (HK.out _).mono ?_
 rintro e w1 ⟨rfl, hB1⟩
 have hz1 := hB1.size
 go_wp2_with fail
 refine (HP.out _).mono ?_
 rintro e w2 ⟨A2, c2, rfl, hl2, hB2⟩
 have hL2 := zbw hl2
 have hB12 := hB1.trans (hB2.mono hz1)
 have hz2 := hB12.size
 clear hB1 hB2 hl2
 go_wp2_with fail
 refine (HBD.out _ _ _ _).mono ?_
 rintro e w' ⟨rfl, rfl⟩
 rw [HBE.out]
 go_wp2_with fail
 refine (HM.out _ _ _ hL2).mono ?_
 rintro e w3 ⟨q, rfl, hq3, hB3, _⟩
 have hB13 := hB12.trans (hB3.mono hz2)
 have hz3 := hB13.size
 clear hB12 hB3 hL2
 go_wp2_with fail
 refine (HQ.out _).mono ?_
 rintro e w4 ⟨A4, c4, rfl, hl4, hB4⟩
 have hL4 := zbw hl4
 have hq4 := hq3.below hB4
 have hB14 := hB13.trans (hB4.mono hz3)
 have hz4 := hB14.size
 clear hB13 hB4 hq3 hl4
 go_wp2_with fail
 refine (HR.out _ _ _ hL4).mono ?_
 rintro e w5 ⟨x, Ax, cx, rfl, hr5, _, _, hB5⟩
 have hq5 := hq4.below hB5
 have hB15 := hB14.trans (hB5.mono hz4)
 have hz5 := hB15.size
 clear hB14 hB5 hq4 hL4
 go_wp2_with fail
 refine (HN.out _ _ _ _ hr5).mono ?_
 rintro e w6 ⟨t, rfl, hn6, hB6⟩
 have hq6 := hq5.below hB6
 have hr6 := hr5.below hB6
 have hB16 := hB15.trans (hB6.mono hz5)
 have hz6 := hB16.size
 clear hB15 hB6 hq5 hr5
 go_wp2_with fail
 go_ret2
 have hBn : Below w6.heap.size w6 (w6.alloc (.cells #[.pointer (some ⟨q, 0, none⟩), .pointer (some ⟨x, 0, none⟩), .pointer (some ⟨t, 0, none⟩), .string s] 67)) := (Below.refl _ _).alloc (Nat.le_refl _) _
 exact ⟨w6.heap.size, rfl, HMK.out _ _ q x t Ax cx (za.new w6 _ _) (hq6.below hBn) (hr6.below hBn) (hn6.below hBn), hB16.alloc hz6 _⟩
theorem zq8 (g : Nat) (s : ByteArray) (w : World) (hi : zbo w g s) :
  Calls Tryz.prog 26 #[.pointer (some ⟨g, 0, none⟩)] w fun e w' => e = .returned (.int .i64 ((places (nb s)).length : Nat)) ∧ w = w' := by
 obtain ⟨q, x, t, Ax, cx, h1, h2, h3, h4⟩ := hi
 have k0 := h1.cell 0
 have HL := hid (zn0 q (places (nb s)) (bndN (nb s)) w h2)
 clear h1 h2 h3 h4
 generalize places (nb s) = P at *
 go_enter Tryz.func26, Tryz.ntmps26
 go_wp2_with fail
 refine (HL.out).mono ?_
 rintro e w' ⟨rfl, rfl⟩
 go_wp2_with fail
 go_ret
 exact ⟨rfl, rfl⟩
theorem zvf (g : Nat) (s : ByteArray) (i : Nat) (w : World) (hi : zbo w g s) (hT : Tab w) (hs : (nb s).length ≤ 65536) (hm : (places (nb s)).length ≤ 10000) (hk : i < (places (nb s)).length) :
  Calls Tryz.prog 55 #[.pointer (some ⟨g, 0, none⟩), .int .i64 (i : Nat)] w fun e w' => e = .returned (.tuple #[.int .i64 ((places (nb s))[i] : Nat), .int .i64 0]) ∧ Below w.heap.size w w' := by
 obtain ⟨q, x, t, Ax, cx, h1, h2, h3, h4⟩ := hi
 have k0 := h1.cell 0
 have HL := hid (zws q (places (nb s)) (bndN (nb s)) i w h2 hT (zb5 (by omega)) (zc7 hs hm) hk)
 clear h1 h2 h3 h4
 generalize (places (nb s))[i] = v at *
 go_enter Tryz.func55, Tryz.ntmps55
 go_wp2_with fail
 refine (HL.out).mono ?_
 rintro e w' ⟨rfl, hB⟩
 go_wp2_with fail
 go_ret2
 exact ⟨rfl, hB⟩
theorem ztm (g : Nat) (s : ByteArray) (w : World) (hi : zbo w g s) :
  Calls Tryz.prog 52 #[.pointer (some ⟨g, 0, none⟩)] w fun e w' => ∃ t, e = .returned (.pointer (some ⟨t, 0, none⟩)) ∧ zcc w t (zl (nb s)) ∧ w = w' := by
 obtain ⟨q, x, t, Ax, cx, h1, h2, h3, h4⟩ := hi
 have k2 := h1.cell 2
 have H4 := hid h4
 clear h1 h2 h3 h4
 go_enter Tryz.func52, Tryz.ntmps52
 go_wp2_with fail
 go_ret
 exact ⟨t, rfl, H4.out, rfl⟩
end Go.Proofs.YtgpbpgpolpakjaaGreatDoor
