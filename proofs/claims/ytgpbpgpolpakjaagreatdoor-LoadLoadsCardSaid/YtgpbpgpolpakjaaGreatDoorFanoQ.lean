/- Proof text. -/
import Derived.Test.YtgpbpgpolpakjaaGreatDoorBitsP
import Derived.Test.YtgpbpgpolpakjaaGreatDoorMaths
import Derived.Test.YtgpbpgpolpakjaaGreatDoorBase
import Derived.Test.YtgpbpgpolpakjaaGreatDoorChooseP
import Derived.RangeFuncNested
import Derived.RangeFuncBox
import Derived.RangeFuncBound
import Derived.RangeFuncCalls
import Derived.RangeFuncLeaves
import Derived.Shelf.Abstract
import Derived.Shelf.RegionOpen
import Derived.WalkKit
import Derived.OwnWalkIn
import Derived.TacticsInMore
import Derived.LoopNIn
import Derived.LoopIn
import Derived.BigQuiet
set_option maxHeartbeats 4000000
set_option linter.unusedVariables false
set_option linter.unusedSimpArgs false
set_option maxRecDepth 100000
namespace Go.Proofs.YtgpbpgpolpakjaaGreatDoor
open Go.RowKit Go.Shelf L
theorem wrap_one (k : Nat) (h : k ≤ 4294967296) : IntKind.i64.wrap ((k : Int) + 1) = (k : Int) + 1 := by rw [IntKind.wrap_i64]; omega
def L.wd (n B : Nat) : Nat := if n = 0 ∨ B < 2 * n then 0 else need (B / n) - 1
theorem zey (n B : Nat) (hB : B ≤ 1099511627776) : wd n B ≤ 40 := by
 unfold wd
 split
 ·omega
 ·rename_i h
  have hq : B / n < 2 ^ 41 := Nat.lt_of_le_of_lt (Nat.div_le_self _ _) (by omega)
  have := (zc8 (B / n) 41 (by omega)).2 hq
  omega
theorem zkq (n B : Nat) (w : World) (hn : n ≤ 16777216) (hB : B ≤ 1099511627776) :
  Calls Tryz.prog 79 #[.int .i64 (n : Nat), .int .i64 (B : Nat)] w fun e w' => e = .returned (.int .i64 (wd n B : Nat)) ∧ w = w' := by
 rcases Nat.eq_zero_or_pos n with h0 | h0
 ·have g0 : ((n : Int) == 0) = true := by rw [beq_iff_eq]; omega
  have HW := hid (show wd n B = 0 by unfold wd; rw [if_pos (Or.inl h0)])
  clear h0
  go_enter Tryz.func79, Tryz.ntmps79
  go_wp2_with fail
  go_ret
  exact ⟨by rw [HW.out]; rfl, rfl⟩
 ·have g0 : ((n : Int) == 0) = false := by rw [beq_eq_false_iff_ne]; omega
  by_cases h2 : B < 2 * n
  ·have g1 : decide ((B : Int) < 2 * (n : Int)) = true := decide_eq_true (by omega)
   have HW := hid (show wd n B = 0 by unfold wd; rw [if_pos (Or.inr h2)])
   clear h2
   go_enter Tryz.func79, Tryz.ntmps79
   go_wp2_with fail
   go_ret
   exact ⟨by rw [HW.out]; rfl, rfl⟩
  ·have g1 : decide ((B : Int) < 2 * (n : Int)) = false := decide_eq_false (by omega)
   have HW := hid (show wd n B = need (B / n) - 1 by unfold wd; rw [if_neg (by omega)])
   have hq2 : 2 ≤ B / n := (Nat.le_div_iff_mul_le h0).2 (by omega)
   have hqB : B / n ≤ B := Nat.div_le_self _ _
   obtain ⟨q, hq⟩ : ∃ q, q = B / n := ⟨_, rfl⟩
   have hqI : (B : Int) / (n : Int) = (q : Int) := by rw [hq]; simp
   have hqT : (B : Int).tdiv (n : Int) = (q : Int) := by rw [Int.tdiv_eq_ediv_of_nonneg (by omega)]; exact hqI
   rw [← hq] at HW hq2 hqB
   have hqW : IntKind.u64.wrap (q : Int) = (q : Int) := by rw [IntKind.wrap_u64]; omega
   have HN := hid (fun W => zed q W (by omega))
   have hnp := (zdj q (by omega))
   have hn1 : 1 ≤ need q := by
    rcases Nat.eq_zero_or_pos (need q) with h | h
    ·rw [h] at hnp; have := hnp.1; simp at this; omega
    ·exact h
   have hnI : ((need q : Nat) : Int) - 1 = ((need q - 1 : Nat) : Int) := by omega
   have HNI := hid hnI
   have hn64 := hnp.2.2
   clear hq hnp hnI h2
   generalize need q = nq at *
   go_enter Tryz.func79, Tryz.ntmps79
   go_wp2_with fail
   (with_reducible refine (HN.out _).mono ?_)
   rintro e w' ⟨rfl, rfl⟩
   go_wp2_with fail
   go_ret
   exact ⟨by rw [HW.out, ← HNI.out]; rfl, rfl⟩
theorem zkr (n B wdt : Nat) (w : World) (hn : n ≤ 16777216) (h1 : 1 ≤ B) (hB : B ≤ 1099511627776) (hw : wdt ≤ 40) :
  Calls Tryz.prog 83 #[.int .i64 (n : Nat), .int .i64 (B : Nat), .int .i64 (wdt : Nat)] w fun e w' => e = .returned (.int .i64 (n + (B - 1) / 2 ^ wdt + 1 : Nat)) ∧ w = w' := by
 obtain ⟨q, hq⟩ : ∃ q, q = (B - 1) / 2 ^ wdt := ⟨_, rfl⟩
 have hqB : q ≤ B - 1 := by rw [hq]; exact Nat.div_le_self _ _
 have hqI : ((B : Int) - 1) / 2 ^ wdt = (q : Int) := by
  rw [hq, show (B : Int) - 1 = ((B - 1 : Nat) : Int) from by omega]; norm_cast
 have hB1 : IntKind.i64.wrap ((B : Int) - 1) = (B : Int) - 1 := by rw [IntKind.wrap_i64]; omega
 rw [← hq]
 clear hq
 go_enter Tryz.func83, Tryz.ntmps83
 go_wp2_with fail
 go_ret
 exact ⟨by go_num, rfl⟩
def L.zb4 (last B : Int) : List Int → Bool
 | [] => true
 | x :: l => decide (last ≤ x) && decide (x < B) && zb4 x B l
def L.zij (zs : List Int) (B : Int) : Prop := (1 ≤ B ∧ B ≤ 1099511627776 ∧ zs.length < 16777216) ∧ zb4 0 B zs = true
def ints (zs : List Int) : List Value := zs.map (Value.int .i64)
theorem zz2 (A : Option Addr) (c : Nat) (zs : List Int) (B : Int) (w : World) (hl : Lst w A (ints zs)) (hn : zs.length ≤ 1000000) :
  Calls Tryz.prog 78 #[.slice A zs.length c, .int .i64 B] w fun e w' => ∃ ok, e = .returned (.bool ok) ∧ w = w' ∧ (ok = true ↔ zij zs B) := by
 by_cases hb : B < 1 ∨ 1099511627776 < B
 ·have HN := hid (show ¬ zij zs B from fun h => by have := h.1; omega)
  by_cases h1 : B < 1
  ·have g1 : decide (B < 1) = true := decide_eq_true h1
   go_enter Tryz.func78, Tryz.ntmps78
   go_wp2_with fail
   go_ret
   first | exact ⟨false, rfl, rfl, (fun h => by cases h), (fun h => absurd h HN.out)⟩ | exact Or.inl ⟨rfl, rfl, HN.out⟩
  ·have g1 : decide (B < 1) = false := decide_eq_false h1
   have g2 : decide (B > 1099511627776) = true := decide_eq_true (by omega)
   go_enter Tryz.func78, Tryz.ntmps78
   go_wp2_with fail
   go_ret
   first | exact ⟨false, rfl, rfl, (fun h => by cases h), (fun h => absurd h HN.out)⟩ | exact Or.inl ⟨rfl, rfl, HN.out⟩
 ·have g1 : decide (B < 1) = false := decide_eq_false (by omega)
  have g2 : decide (B > 1099511627776) = false := decide_eq_false (by omega)
  have g3 : decide ((zs.length : Int) > 16777215) = false := decide_eq_false (by omega)
  have g3N : ¬ (16777215 < zs.length) := by omega
  have HB := hid (show (1 ≤ B ∧ B ≤ 1099511627776 ∧ zs.length < 16777216) by omega)
  have g1N : ¬ (B < 1) := by omega
  clear hb
  go_enter Tryz.func78, Tryz.ntmps78
  go_wp2_with fail
  go_loop [5, 21] (fun lv iv => ∃ (last : Int) (i : Nat), lv = .int .i64 last ∧ iv = .int .i64 (i : Nat) ∧ i ≤ zs.length ∧ (zb4 0 B zs = zb4 last B (zs.drop i))) (fun _ iv => zs.length - (intOf iv).toNat)
  case atStart => exact ⟨0, 0, rfl, rfl, by omega, rfl⟩
  case round =>
   obtain ⟨last, i, rfl, rfl, hi, hok⟩ := hrel
   have HOK := hid hok
   clear hok
   rcases Nat.lt_or_ge i zs.length with hlt | hge
   ·have hii : (i : Int) < (zs.length : Int) := by omega
    have hii2 : decide ((i : Int) < (zs.length : Int)) = true := decide_eq_true hii
    have hi0 : (0 : Int) ≤ (i : Int) := by omega
    have hiW := wrap_one i (by omega)
    obtain ⟨g, o, rfl, _, hc⟩ := hl.lit (by unfold ints; rw [List.length_map]; omega)
    have hcell := hc i (.int .i64 zs[i]) (by unfold ints; rw [List.getElem?_map, List.getElem?_eq_getElem hlt]; rfl)
    have HD := hid (show zb4 last B (zs.drop i) = (decide (last ≤ zs[i]) && decide (zs[i] < B) && zb4 zs[i] B (zs.drop (i + 1))) by rw [List.drop_eq_getElem_cons hlt]; rfl)
    generalize zs[i] = x at *
    clear hc
    by_cases h1 : last ≤ x
    ·by_cases h2 : x < B
     ·have k1 : decide (x < last) = false := decide_eq_false (by omega)
      have k2 : decide (x ≥ B) = false := decide_eq_false (by omega)
      have HN := hid (show zb4 0 B zs = zb4 x B (zs.drop (i + 1)) by rw [HOK.out, HD.out, decide_eq_true h1, decide_eq_true h2]; rfl)
      clear h1 h2
      go_wp2_with fail
      go_round
      case rel => exact ⟨x, i + 1, rfl, by go_num, by omega, HN.out⟩
      case measure => simp [intOf]; omega
     ·have k1 : decide (x < last) = false := decide_eq_false (by omega)
      have k2 : decide (x ≥ B) = true := decide_eq_true (by omega)
      have HN := hid (show ¬ zij zs B from fun h => by have := h.2; rw [HOK.out, HD.out, decide_eq_false h2] at this; simp at this)
      clear h1 h2
      go_wp2_with fail
      go_ret
      first | exact ⟨false, rfl, rfl, (fun h => by cases h), (fun h => absurd h HN.out)⟩ | exact Or.inl ⟨rfl, rfl, HN.out⟩
    ·have k1 : decide (x < last) = true := decide_eq_true (by omega)
     have HN := hid (show ¬ zij zs B from fun h => by have := h.2; rw [HOK.out, HD.out, decide_eq_false h1] at this; simp at this)
     clear h1
     go_wp2_with fail
     go_ret
     first | exact ⟨false, rfl, rfl, (fun h => by cases h), (fun h => absurd h HN.out)⟩ | exact Or.inl ⟨rfl, rfl, HN.out⟩
   ·obtain rfl : i = zs.length := by omega
    have HN := hid (show zij zs B from ⟨HB.out, by rw [HOK.out, List.drop_length]; rfl⟩)
    go_wp2_with fail
    go_ret
    first | exact ⟨true, rfl, rfl, (fun _ => HN.out), (fun _ => rfl)⟩ | exact Or.inr ⟨rfl, rfl, HN.out⟩
theorem L.zx2 (v n : Nat) (h1 : 1 ≤ n) (h2 : n ≤ 63) : zay v 0 (n : Nat) = v % 2 ^ n := by
 apply Nat.eq_of_testBit_eq
 intro j
 have := zde v 0 n (by omega) h1 (by omega) j
 rw [Int.ofNat_zero] at this
 rw [this, Nat.testBit_mod_two_pow, Nat.zero_add]
theorem L.zu9 (k : Nat) : bitsOf 0 k = List.replicate k false := by
 unfold bitsOf
 apply List.ext_getElem
 ·simp
 ·intro i h1 h2; simp
theorem zau.refl {w : World} {base g : Nat} {v : Value} {bs : List Bool} (hb : BuilderAt w base g v bs) : zau w w base g v bs := ⟨v, hb, .inl rfl, Only.refl _ _⟩
theorem zau.trans {w w1 w2 : World} {base g : Nat} {v : Value} {bs1 bs2 : List Bool} (h : zau w w1 base g v bs1) (h2 : ∀ v1, BuilderAt w1 base g v1 bs1 → zau w1 w2 base g v1 bs2) : zau w w2 base g v bs2 := by
 obtain ⟨v1, hb1, hat1, ho1⟩ := h
 obtain ⟨v2, hb2, hat2, ho2⟩ := h2 v1 hb1
 have hz := ho1.size
 refine ⟨v2, hb2, ?_, ho1.trans ho2 ?_⟩
 ·rcases hat2 with e | ⟨k, e, hk⟩
  ·rcases hat1 with e1 | ⟨k, e1, hk⟩
   ·exact .inl (e.trans e1)
   ·exact .inr ⟨k, e.trans e1, hk⟩
  ·exact .inr ⟨k, e, by omega⟩
 ·intro i hi hs
  rcases hs with hs | hs
  ·exact .inl hs
  ·rcases hat1 with e1 | ⟨k, e1, hk⟩
   ·exact .inr (e1 ▸ hs)
   ·rw [e1] at hs; injection hs with hs; omega
theorem zau.of_drewN {w w' : World} {m base g : Nat} {v : Value} {bs' : List Bool} (h : zau (w.drewN m) w' base g v bs') : zau w w' base g v bs' := by
 obtain ⟨v', hb, hat, ho⟩ := h
 exact ⟨v', hb, hat, ho.of_drewN⟩
theorem zva (v n base g : Nat) (vb : Value) (bs : List Bool) (w : World) (hv : v < 2199023255552) (hn : n ≤ 41) (hl : bs.length + n ≤ 4294967296) (hb : BuilderAt w base g vb bs) (hbase : base ≤ w.heap.size) :
  Calls Tryz.prog 80 #[.pointer (some ⟨g, 0, none⟩), .int .i64 (v : Nat), .int .i64 (n : Nat)] w fun e w' => e = .returned (.tuple #[]) ∧ zau w w' base g vb (bs ++ bitsOf (v % 2 ^ n) n) := by
 rcases Nat.eq_zero_or_pos n with h0 | h0
 ·subst h0
  have HB := hid (zau.refl hb)
  clear hb
  go_enter Tryz.func80, Tryz.ntmps80
  go_wp2_with fail
  go_end0
  exact ⟨rfl, by simpa [bitsOf] using HB.out⟩
 ·have hi : (0 : Int) < (n : Int) := by omega
  have hvw : IntKind.u64.wrap (v : Int) = (v : Int) := by rw [IntKind.wrap_u64]; omega
  have hf := zx2 v n h0 (by omega)
  have HF := hid hf
  have hlt : zay v 0 (n : Nat) < 2 ^ n := by rw [hf]; exact Nat.mod_lt _ (Nat.two_pow_pos n)
  clear hf h0
  go_enter Tryz.func80, Tryz.ntmps80
  go_wp2_with fail
  refine (zeb v 0 n _ (by omega)).mono ?_
  rintro e w' ⟨rfl, m, rfl⟩
  go_wp2_with fail
  refine (zgc (zay v 0 (n : Nat)) n base g vb bs _ hlt (by omega) hl (by exact hb) (by exact hbase)).mono ?_
  rintro e w2 ⟨rfl, h⟩
  go_wp2
  go_end0
  rw [HF.out] at h
  exact ⟨rfl, h.of_drewN⟩
theorem zf0 (n base g : Nat) (v : Value) (bs : List Bool) (w : World) (hl : bs.length + n ≤ 4294967296) (hb : BuilderAt w base g v bs) (hbase : base ≤ w.heap.size) :
  Calls Tryz.prog 81 #[.pointer (some ⟨g, 0, none⟩), .int .i64 (n : Nat)] w fun e w' => e = .returned (.tuple #[]) ∧ zau w w' base g v (bs ++ List.replicate n false) := by
 have HB := hid (zau.refl hb)
 clear hb
 go_enter Tryz.func81, Tryz.ntmps81
 go_wp2_with fail
 go_loopw [1, 4] (fun x t wr => ∃ j : Nat, j ≤ n ∧ x = .int .i64 (n - j : Nat) ∧ zau w wr base g v (bs ++ List.replicate j false)) (fun x _ _ => (intOf x).toNat)
 case atStart => exact ⟨0, by omega, rfl, by simpa using HB.out⟩
 case round =>
  obtain ⟨j, hj, rfl, HP⟩ := hrel
  rcases Nat.lt_or_ge j n with hlt | hge
  ·obtain ⟨r, hr⟩ : ∃ r, r = n - j := ⟨_, rfl⟩
   rw [← hr]
   have hr0 : (0 : Int) < (r : Int) := by omega
   obtain ⟨k, hk⟩ : ∃ k, k = min r 64 := ⟨_, rfl⟩
   have hkI : min (r : Int) 64 = (k : Nat) := by omega
   have hsb : (r : Int) - (k : Int) = ((r - k : Nat) : Int) := by omega
   have hw : IntKind.i64.wrap ((r - k : Nat) : Int) = ((r - k : Nat) : Int) := by rw [IntKind.wrap_i64]; omega
   have hk1 : k ≤ 64 := by omega
   have hk2 : 0 < k := by omega
   have hk3 : j + k ≤ n := by omega
   have H := hid (show (bs ++ List.replicate j false) ++ bitsOf 0 k = bs ++ List.replicate (j + k) false by rw [zu9, List.append_assoc, List.replicate_append_replicate])
   have HR := hid (show r - k = n - (j + k) by omega)
   have hlen : (bs ++ List.replicate j false).length + k ≤ 4294967296 := by rw [List.length_append, List.length_replicate]; omega
   obtain ⟨v1, hb1, hat1, ho1⟩ := id HP
   have hb1z : base ≤ wr.heap.size := by have := ho1.size; omega
   have hm : r - k < r := by omega
   have hkr : k ≤ r := by omega
   clear hk hr
   go_wp2_with fail
   refine (zgc 0 k base g v1 _ _ (Nat.two_pow_pos k) hk1 hlen (by exact hb1) (by exact hb1z)).mono ?_
   rintro e w2 ⟨rfl, v2, hb2, hat2, ho2⟩
   rw [H.out] at hb2
   have HP2 : zau w w2 base g v (bs ++ List.replicate (j + k) false) := (show zau w wr base g v (bs ++ List.replicate j false) from ⟨v1, hb1, hat1, ho1⟩).trans (fun v3 hb3 => by
    obtain rfl : v3 = v1 := by
     have e0 := hb3.blk.cell 0
     rw [hb1.blk.cell 0] at e0
     simpa using e0.symm
    exact ⟨v2, hb2, hat2, ho2⟩)
   go_wp2
   go_roundw
   case rel => exact ⟨j + k, hk3, by rw [← HR.out], HP2⟩
   case measure => simp [intOf]; omega
  ·obtain rfl : j = n := by omega
   rw [Nat.sub_self]
   go_wp2_with fail
   go_end0
   exact ⟨rfl, HP⟩
theorem zqg (n B gl gx : Nat) (Al : Option Addr) (cl : Nat) (low : List Bool) (A : Option Addr) (c : Nat) (hi : List Bool) (w : World) (hn : n ≤ 16777216) (hB : B ≤ 1099511627776) (hl : zo w gl Al cl low) (hh : zo w gx A c hi) :
  Calls Tryz.prog 85 #[.int .i64 (n : Nat), .int .i64 (B : Nat), .pointer (some ⟨gl, 0, none⟩), .pointer (some ⟨gx, 0, none⟩)] w fun e w' => ∃ s gc gd Ad cd A1 c1 l1 A0 c0 l0, e = .returned (.pointer (some ⟨s, 0, none⟩)) ∧
   za w' s 146 #[.int .i64 (n : Nat), .int .i64 (B : Nat), .int .i64 (wd n B : Nat), .pointer (some ⟨gl, 0, none⟩), .pointer (some ⟨gc, 0, none⟩), .int .i64 (hi.length : Nat)] ∧
   zab w' gc gd gx A c hi Ad cd A1 c1 l1 A0 c0 l0 ∧ zo w' gl Al cl low ∧ Below w.heap.size w w' ∧ w.heap.size ≤ s := by
 have HW := hid (fun W => zkq n B W hn hB)
 have HN := hid (fun W hW => zjj gx A c hi W hW)
 have HL := hid (fun W hc => zar gx (hi.length : Nat) W hc)
 have HH := hid hh
 clear hh
 go_enter Tryz.func85, Tryz.ntmps85
 go_wp2_with fail
 (with_reducible refine (HW.out _).mono ?_)
 rintro e w' ⟨rfl, rfl⟩
 go_wp2_with fail
 refine (HN.out _ (by exact HH.out)).mono ?_
 rintro e w1 ⟨gc, gd, Ad, cd, A1, c1, l1, A0, c0, l0, rfl, hC, hB1, hg1⟩
 go_wp2_with fail
 refine (HL.out _ (by exact (hC.dir.row.cells).2)).mono ?_
 rintro e w' ⟨rfl, rfl⟩
 go_wp2_with fail
 go_ret
 have hz := hB1.size
 refine ⟨w1.heap.size, gc, gd, Ad, cd, A1, c1, l1, A0, c0, l0, rfl, za.new _ _ _, hC.below ((Below.refl _ _).alloc (Nat.le_refl _) _), (hl.below hB1).below ((Below.refl _ _).alloc (Nat.le_refl _) _), hB1.alloc hz _, hz⟩
def L.zas (l : List Nat) (B : Nat) : Prop := (1 ≤ B ∧ B ≤ 1099511627776) ∧ Ris l ∧ ∀ x ∈ l, x < B
theorem L.zny : ∀ (zs : List Int) (p B : Int), 0 ≤ p → zb4 p B zs = true → ∃ l : List Nat, zs = l.map (fun x : Nat => (x : Int)) ∧ l.Pairwise (· ≤ ·) ∧ ∀ x ∈ l, p ≤ (x : Int) ∧ (x : Int) < B
 | [], p, B, _, _ => ⟨[], rfl, List.Pairwise.nil, fun x h => by cases h⟩
 | z :: zs, p, B, hp, h => by
   simp only [zb4, Bool.and_eq_true, decide_eq_true_eq] at h
   obtain ⟨l, rfl, h1, h2⟩ := zny zs z B (by omega) h.2
   obtain ⟨k, rfl⟩ := Int.eq_ofNat_of_zero_le (show 0 ≤ z by omega)
   refine ⟨k :: l, rfl, List.pairwise_cons.2 ⟨fun x hx => by have := h2 x hx; omega, h1⟩, fun x hx => ?_⟩
   rcases List.mem_cons.1 hx with e | e
   ·subst e; exact h.1
   ·have := h2 x e; omega
theorem L.znz : ∀ (l : List Nat) (p B : Int), l.Pairwise (· ≤ ·) → (∀ x ∈ l, p ≤ (x : Int) ∧ (x : Int) < B) → zb4 p B (l.map (fun x : Nat => (x : Int))) = true
 | [], _, _, _, _ => rfl
 | x :: l, p, B, h, h2 => by
   have h' := List.pairwise_cons.1 h
   simp only [List.map_cons, zb4, Bool.and_eq_true, decide_eq_true_eq]
   refine ⟨h2 x (List.mem_cons_self ..), znz l x B h'.2 (fun y hy => ?_)⟩
   have := h'.1 y hy
   have := h2 y (List.mem_cons_of_mem _ hy)
   omega
theorem L.zas.z {l : List Nat} {b : Nat} (h : zas l b) (hn : l.length < 16777216) : zij (l.map (fun x : Nat => (x : Int))) (b : Nat) :=
 ⟨⟨by have := h.1; omega, by have := h.1; omega, by rw [List.length_map]; exact hn⟩, znz l 0 b h.2.1 (fun x hx => by have := h.2.2 x hx; omega)⟩
theorem z2n (l : List Nat) : ints (l.map (fun x : Nat => (x : Int))) = zz l := by unfold ints zz; rw [List.map_map]; rfl
def L.Few (l : List Nat) (B : Nat) : Prop := l.length ≤ 12000 ∧ (B - 1) / 2 ^ wd l.length B ≤ 100000
def L.top (l : List Nat) (B : Nat) : Nat := (B - 1) / 2 ^ wd l.length B + 1
theorem L.zas.up {l : List Nat} {B : Nat} (h : zas l B) (w : Nat) : UpL w 0 l := Ris.up w l 0 h.2.1 (fun _ _ => Nat.zero_le _)
theorem L.zas.part {l : List Nat} {B : Nat} (h : zas l B) (w : Nat) {x : Nat} (hx : x ∈ l) : x / 2 ^ w ≤ (B - 1) / 2 ^ w := zsg w (by have := h.2.2 x hx; omega)
theorem L.zas.last {l : List Nat} {B : Nat} (h : zas l B) (w : Nat) : zu w 0 l ≤ (B - 1) / 2 ^ w := zmj w _ l 0 (Nat.zero_le _) (fun x hx => h.part w hx)
def za4 (w : World) (s : Nat) (l : List Nat) (B : Nat) : Prop :=
 ∃ gl Al cl gc gd gx A c Ad cd A1 c1 l1 A0 c0 l0, za w s 146 #[.int .i64 (l.length : Nat), .int .i64 (B : Nat), .int .i64 (wd l.length B : Nat), .pointer (some ⟨gl, 0, none⟩), .pointer (some ⟨gc, 0, none⟩), .int .i64 (l.length + top l B : Nat)] ∧
   zo w gl Al cl (lows (wd l.length B) l) ∧ zab w gc gd gx A c (high (wd l.length B) (top l B) l) Ad cd A1 c1 l1 A0 c0 l0
theorem za4.below {w w' : World} {s : Nat} {l : List Nat} {B : Nat} (h : za4 w s l B) (hb : Below w.heap.size w w') : za4 w' s l B := by
 obtain ⟨gl, Al, cl, gc, gd, gx, A, c, Ad, cd, A1, c1, l1, A0, c0, l0, h1, h2, h3⟩ := h
 exact ⟨gl, Al, cl, gc, gd, gx, A, c, Ad, cd, A1, c1, l1, A0, c0, l0, h1.below hb, h2.below hb, h3.below hb⟩
def Apart (ga : Nat) (va : Value) (gb : Nat) (vb : Value) : Prop := ga ≠ gb ∧ ∀ k, va.ownBlock = some k → vb.ownBlock ≠ some k
theorem Apart.symm {ga gb : Nat} {va vb : Value} (h : Apart ga va gb vb) : Apart gb vb ga va := ⟨fun e => h.1 e.symm, fun k h1 h2 => h.2 k h2 h1⟩
theorem zlj {w w' : World} {base ga gb : Nat} {va vb v' : Value} {ba bb : List Bool} (ha : BuilderAt w base ga va ba) (hb : BuilderAt w base gb vb bb) (hap : Apart ga va gb vb)
  (hat : v'.ownBlock = va.ownBlock ∨ ∃ k, v'.ownBlock = some k ∧ w.heap.size ≤ k) (ho : Only (fun i => i = ga ∨ va.ownBlock = some i) w w') : BuilderAt w' base gb vb bb ∧ Apart ga v' gb vb := by
 have n1 : va.ownBlock ≠ some gb := hb.blk.ne_own ha.own (by decide)
 have n2 : vb.ownBlock ≠ some ga := ha.blk.ne_own hb.own (by decide)
 refine ⟨BuilderAt.mk (hb.blk.only ho ?_) (zac hb.own ho ?_), hap.1, fun k hk h2 => ?_⟩
 ·rintro (e | e)
  ·exact hap.1 e.symm
  ·exact n1 e
 ·rintro k hk (e | e)
  ·exact n2 (by rw [hk, e])
  ·exact hap.2 k e hk
 ·rcases hat with e | ⟨j, e, hj⟩
  ·exact hap.2 k (e ▸ hk) h2
  ·rw [e] at hk; injection hk with hk
   have := (hb.own.lt _ h2).2
   omega
theorem z6d (A : Option Addr) (c : Nat) (l : List Nat) (B : Nat) (w : World) (hl : Lst w A (zz l)) (hr : zas l B) (hf : Few l B) :
  Calls Tryz.prog 29 #[.slice A l.length c, .int .i64 (B : Nat)] w fun e w' => ∃ s, e = .returned (.tuple #[.pointer (some ⟨s, 0, none⟩), .int .i64 0]) ∧ za4 w' s l B ∧ Below w.heap.size w w' ∧ w.heap.size ≤ s := by
 have hn : l.length ≤ 12000 := hf.1
 have hB1 := hr.1.1
 have hB2 := hr.1.2
 have HR := hid (show Calls Tryz.prog 78 #[.slice A l.length c, .int .i64 (B : Nat)] w (fun e w' => e = .returned (.bool true) ∧ w = w') by
  have := zz2 A c (l.map (fun x : Nat => (x : Int))) (B : Nat) w (by rw [z2n]; exact hl) (by rw [List.length_map]; omega)
  rw [List.length_map] at this
  refine this.mono ?_
  rintro e w' ⟨ok, rfl, rfl, hok⟩
  cases ok
  ·exact absurd (hok.2 (hr.z (by omega))) (by simp)
  ·exact ⟨rfl, rfl⟩)
 have HWD := hid (fun W => zkq l.length B W (by omega) hB2)
 have hwd := zey l.length B hB2
 have HHB := hid (fun W => zkr l.length B (wd l.length B) W (by omega) hB1 hB2 hwd)
 have htop : (B - 1) / 2 ^ wd l.length B ≤ 100000 := hf.2
 have HBU := hid (fun gl gx Al cl low A c hi W hl hh => zqg l.length B gl gx Al cl low A c hi W (by omega) hB2 hl hh)
 have HS := hid (show ∀ w s, (∃ gl Al cl gc gd gx A c Ad cd A1 c1 l1 A0 c0 l0, za w s 146 #[.int .i64 (l.length : Nat), .int .i64 (B : Nat), .int .i64 (wd l.length B : Nat), .pointer (some ⟨gl, 0, none⟩), .pointer (some ⟨gc, 0, none⟩), .int .i64 (l.length + ((B - 1) / 2 ^ wd l.length B + 1) : Nat)] ∧
  zo w gl Al cl (lows (wd l.length B) l) ∧ zab w gc gd gx A c (high (wd l.length B) ((B - 1) / 2 ^ wd l.length B + 1) l) Ad cd A1 c1 l1 A0 c0 l0) → za4 w s l B from fun w s h => h)
 have hup := hr.up (wd l.length B)
 have hla := hr.last (wd l.length B)
 have hx41 : ∀ x ∈ l, x < 1099511627776 := fun x hx => by have := hr.2.2 x hx; omega
 clear hf hr
 generalize wd l.length B = W at *
 generalize (B - 1) / 2 ^ W = T at *
 have hb1 : BuilderAt ((w.alloc (.cells #[.slice none 0 0, .int .i64 0] 126)).alloc (.cells #[.slice none 0 0, .int .i64 0] 126)) w.heap.size w.heap.size (.slice none 0 0) [] := (BuilderAt.new_at w w.heap.size w.heap.size rfl).below ((Below.refl _ _).alloc (Nat.le_refl _) _)
 have hb2 : BuilderAt ((w.alloc (.cells #[.slice none 0 0, .int .i64 0] 126)).alloc (.cells #[.slice none 0 0, .int .i64 0] 126)) w.heap.size (w.heap.size + 1) (.slice none 0 0) [] := BuilderAt.new_at _ w.heap.size (w.heap.size + 1) (by show _ = (w.heap.push _).size; rw [Array.size_push])
 have hB0 : Below w.heap.size w ((w.alloc (.cells #[.slice none 0 0, .int .i64 0] 126)).alloc (.cells #[.slice none 0 0, .int .i64 0] 126)) := ((Below.refl _ _).alloc (Nat.le_refl _) _).alloc (by show _ ≤ (w.heap.push _).size; rw [Array.size_push]; omega) _
 go_enter Tryz.func29, Tryz.ntmps29
 go_wp2_with fail
 (with_reducible refine (HR.out).mono ?_)
 rintro e w' ⟨rfl, rfl⟩
 go_wp2_with fail
 (with_reducible refine (HWD.out _).mono ?_)
 rintro e w' ⟨rfl, rfl⟩
 go_wp2_with fail
 have h0s : w.heap.size ≤ w.heap.size := Nat.le_refl _
 go_loopw [9, 22] (fun part i wr => ∃ (k : Nat) (v1 v2 : Value), k ≤ l.length ∧ i = .int .i64 (k : Nat) ∧ part = .int .i64 (zu W 0 (l.take k) : Nat) ∧ BuilderAt wr w.heap.size w.heap.size v1 (lows W (l.take k)) ∧ BuilderAt wr w.heap.size (w.heap.size + 1) v2 (hiL W 0 (l.take k)) ∧ Apart w.heap.size v1 (w.heap.size + 1) v2 ∧ Below w.heap.size w wr) (fun _ i _ => l.length - (intOf i).toNat)
 case atStart => exact ⟨0, _, _, by omega, rfl, rfl, hb1, hb2, ⟨by omega, fun k h => by cases h⟩, hB0⟩
 case round =>
  obtain ⟨k, v1, v2, hk, rfl, rfl, hc1, hc2, hap, hB⟩ := hrel
  clear hb1 hb2 hB0
  rcases Nat.lt_or_ge k l.length with hlt | hge
  ·have hki : (k : Int) < (l.length : Int) := by omega
   have hk0 : (0 : Int) ≤ (k : Int) := by omega
   have hkw := wrap_one k (by omega)
   have hsz := hB.size
   obtain ⟨ab, ao, rfl, had, hcl⟩ := hl.lit (by rw [zc6]; omega)
   have hcell := (hB.cell (p := ⟨ab, ao + k, none⟩) had).trans (hcl k (.int .i64 (l[k] : Nat)) (by unfold zz; rw [List.getElem?_map, List.getElem?_eq_getElem hlt]; rfl))
   have htk : l.take (k + 1) = l.take k ++ [l[k]] := List.take_succ_eq_append_getElem hlt
   have hx := hx41 _ (List.getElem_mem hlt)
   have hspl : l = l.take k ++ l[k] :: l.drop (k + 1) := by rw [← List.drop_eq_getElem_cons hlt, List.take_append_drop]
   have hpu : zu W 0 (l.take k) ≤ l[k] / 2 ^ W := by
    rw [hspl, zbr] at hup
    exact hup.2.1
   have HL := hid (show lows W (l.take k) ++ bitsOf (l[k] % 2 ^ W) W = lows W (l.take (k + 1)) by rw [htk, zp1])
   have HH := hid (show (hiL W 0 (l.take k) ++ List.replicate (l[k] / 2 ^ W - zu W 0 (l.take k)) false) ++ [true] = hiL W 0 (l.take (k + 1)) by rw [htk, zek]; simp [hiL])
   have HP := hid (show l[k] / 2 ^ W = zu W 0 (l.take (k + 1)) by rw [htk, zcg]; rfl)
   have hlT : l[k] / 2 ^ W ≤ T := by
    have h1 : UpL W (l[k] / 2 ^ W) (l.drop (k + 1)) := by rw [hspl, zbr] at hup; exact hup.2.2
    have h2 := zic W _ _ h1
    rw [hspl, zcg] at hla
    exact Nat.le_trans h2 hla
   have hlen1 : (lows W (l.take k)).length + W ≤ 4294967296 := by
    rw [zbk, List.length_take]
    have : min k l.length * W ≤ 12000 * 40 := Nat.mul_le_mul (by omega) hwd
    omega
   have hlen2 : (hiL W 0 (l.take k)).length + (l[k] / 2 ^ W - zu W 0 (l.take k)) + 1 ≤ 4294967296 := by
    have h1 : UpL W 0 (l.take k) := by rw [hspl, zbr] at hup; exact hup.1
    rw [zcq W _ 0 h1, List.length_take]; omega
   generalize l[k] = x at *
   have hq : (x : Int) / 2 ^ W = ((x / 2 ^ W : Nat) : Int) := by norm_cast
   generalize x / 2 ^ W = q at *
   generalize zu W 0 (l.take k) = p at *
   have hqp : IntKind.i64.wrap ((q : Int) - (p : Int)) = ((q - p : Nat) : Int) := by rw [IntKind.wrap_i64]; omega
   clear hcl htk hspl
   go_wp2_with fail
   refine (zva x W w.heap.size w.heap.size v1 _ _ (by omega) (by omega) hlen1 (by exact hc1) (by exact hsz)).mono ?_
   rintro e w1 ⟨rfl, u1, hd1, hat1, ho1⟩
   rw [HL.out] at hd1
   obtain ⟨hd2, hap1⟩ := zlj hc1 hc2 hap hat1 ho1
   have hBa := hB.trans (za5 hc1 (Nat.le_refl _) (Nat.le_refl _) hsz ho1)
   have hsa := hBa.size
   go_wp2_with fail
   refine (zf0 (q - p) w.heap.size (w.heap.size + 1) v2 (hiL W 0 (l.take k)) _ (by omega) (by exact hd2) (by exact hsa)).mono ?_
   rintro e w2 ⟨rfl, u2, he2, hat2, ho2⟩
   obtain ⟨he1, hap2⟩ := zlj hd2 hd1 hap1.symm hat2 ho2
   have hBb := hBa.trans (za5 hd2 (Nat.le_succ _) (Nat.le_refl _) hsa ho2)
   have hsb := hBb.size
   go_wp2_with fail
   refine (zox true w.heap.size (w.heap.size + 1) u2 (hiL W 0 (l.take k) ++ List.replicate (q - p) false) _ (by rw [List.length_append, List.length_replicate]; omega) (by exact he2) (by exact hsb)).mono ?_
   rintro e w3 ⟨rfl, u3, hf2, hat3, ho3⟩
   obtain ⟨hf1, hap3⟩ := zlj he2 he1 hap2 hat3 ho3
   rw [HH.out] at hf2
   have hBc := hBb.trans (za5 he2 (Nat.le_succ _) (Nat.le_refl _) hsb ho3)
   go_wp2_with fail
   go_roundw
   case rel => exact ⟨k + 1, u1, u3, by omega, by go_num, by rw [← HP.out], hf1, hf2, hap3.symm, hBc⟩
   case measure => simp [intOf]; omega
  ·obtain rfl : k = l.length := by omega
   rw [List.take_length] at hc1 hc2
   rw [List.take_length]
   have hsz := hB.size
   have hlen := zcq W l 0 hup
   generalize hpp : zu W 0 l = p at *
   have hlen2 : (hiL W 0 l).length = l.length + p := by rw [hlen]; omega
   have HLN := hid hlen2
   have hsub : (l.length : Int) + (T : Int) + 1 - ((l.length : Int) + (p : Int)) = ((T + 1 - p : Nat) : Int) := by omega
   have hcc := hc2.blk.cell 1
   go_wp2_with fail
   (with_reducible refine (HHB.out _).mono ?_)
   rintro e w' ⟨rfl, rfl⟩
   go_wp2_with fail
   refine (zsk (w.heap.size + 1) (l.length + p : Nat) _ (by rw [← HLN.out]; exact hcc)).mono ?_
   rintro e w' ⟨rfl, rfl⟩
   go_wp2_with fail
   try rw [hsub]
   have hHI := hid (show hiL W 0 l ++ List.replicate (T + 1 - p) false = high W (T + 1) l by unfold high; rw [hpp])
   refine (zf0 (T + 1 - p) w.heap.size (w.heap.size + 1) v2 (hiL W 0 l) _ (by omega) (by exact hc2) (by exact hsz)).mono ?_
   rintro e w2 ⟨rfl, u2, he2, hat2, ho2⟩
   obtain ⟨he1, hap2⟩ := zlj hc2 hc1 hap.symm hat2 ho2
   rw [hHI.out] at he2
   have hBb := hB.trans (za5 hc2 (Nat.le_succ _) (Nat.le_refl _) hsz ho2)
   have hsb := hBb.size
   have hll : (lows W l).length ≤ 4294967296 := by
    rw [zbk]
    have : l.length * W ≤ 12000 * 40 := Nat.mul_le_mul (by omega) hwd
    omega
   have hhl : (high W (T + 1) l).length = l.length + (T + 1) := zdv W (T + 1) l hup (by omega)
   have HHL := hid hhl
   go_wp2_with fail
   refine (zg0 _ _ v1 (lows W l) _ (by exact he1) hll).mono ?_
   rintro e w3 ⟨gl, Al, cL, rfl, hrl, hgl, hAl, hB3⟩
   have hz3 := hB3.size
   go_wp2_with fail
   refine (zg0 _ _ u2 (high W (T + 1) l) _ (by exact he2.below hB3) (by rw [hhl]; omega)).mono ?_
   rintro e w4 ⟨gx, Ax, cx, rfl, hrx, hgx, hAx, hB4⟩
   have hz4 := hB4.size
   go_wp2_with fail
   refine (HBU.out gl gx Al cL (lows W l) Ax cx (high W (T + 1) l) _ (by exact hrl.below hB4) (by exact hrx)).mono ?_
   rintro e w5 ⟨s, gc, gd, Ad, cd, A1, c1, l1, A0, c0, l0, rfl, hbk, hch, hlo, hB5, hs⟩
   go_wp2_with fail
   go_ret2
   rw [HHL.out] at hbk
   exact ⟨s, rfl, HS.out _ _ ⟨gl, Al, cL, gc, gd, gx, Ax, cx, Ad, cd, A1, c1, l1, A0, c0, l0, hbk, hlo, hch⟩, ((hBb.trans (hB3.mono hsb)).trans (hB4.mono (by omega))).trans (hB5.mono (by omega)), by omega⟩
theorem zfm {P : Program} {f : Nat} {args : Array Value} {v : Value} {w : World} {n : Nat} (h : Calls P f args (w.drewN n) fun e w' => e = .returned v ∧ ∃ m, w' = (w.drewN n).drewN m) :
  Calls P f args (w.drewN n) fun e w'' => e = .returned v ∧ ∃ m, w'' = w.drewN m :=
 h.mono fun _ _ ⟨he, m, hw⟩ => ⟨he, n + m, by rw [hw, World.drewN_drewN]⟩
theorem zx3 (a b : Nat) (ha : a < 9223372036854775808) (hb : b < 9223372036854775808) : bits .or .i64 (a : Int) (b : Int) = ((a ||| b : Nat) : Int) := by
 have hx : a ||| b < 2 ^ 63 := Nat.or_lt_two_pow (by omega) (by omega)
 show IntKind.i64.wrap ((BitVec.ofInt 64 (a : Int) ||| BitVec.ofInt 64 (b : Int)).toNat : Int) = _
 rw [BitVec.toNat_or, ofInt_u64 a (by omega), ofInt_u64 b (by omega), IntKind.wrap_i64]
 omega
theorem L.z6e (l : List Nat) : cl l 0 = 0 := List.countP_eq_zero.2 (fun y _ => by simp)
theorem L.z2o {l : List Nat} (h : Ris l) (x : Nat) : (∀ y ∈ l.take (cl l x), y < x) ∧ ∀ y ∈ l.drop (cl l x), x ≤ y := by
 constructor
 ·intro y hy
  obtain ⟨j, hj, rfl⟩ := List.mem_iff_getElem.1 hy
  rw [List.length_take] at hj
  rw [List.getElem_take]
  exact (zng h (by omega)).2 (by omega)
 ·intro y hy
  obtain ⟨j, hj, rfl⟩ := List.mem_iff_getElem.1 hy
  rw [List.length_drop] at hj
  rw [List.getElem_drop]
  have := (zng h (x := x) (j := cl l x + j) (by omega))
  omega
theorem L.zz3 {l : List Nat} {w T p : Nat} (hu : UpL w 0 l) (h : Ris l) (hp : p < T) :
  zb (high w T l) (cl l ((p + 1) * 2 ^ w) + p) = false ∧ cl l ((p + 1) * 2 ^ w) + p < (high w T l).length ∧ kc false (high w T l) (cl l ((p + 1) * 2 ^ w) + p) = p := by
 obtain ⟨j, hj⟩ : ∃ j, j = cl l ((p + 1) * 2 ^ w) := ⟨_, rfl⟩
 have hc := z2o h ((p + 1) * 2 ^ w)
 have hle := znf l ((p + 1) * 2 ^ w)
 rw [← hj] at *
 have e : l = l.take j ++ l.drop j := (List.take_append_drop j l).symm
 have hz := z5k (w := w) (top := T) (l1 := l.take j) (l2 := l.drop j) (p := p) (by rw [← e]; exact hu)
  (zmj w p _ 0 (Nat.zero_le _) (fun x hx => by have := (zos w x (p + 1)).2 (hc.1 x hx); omega))
  (fun x hx => by
   have hm : x ∈ l.drop j := List.mem_of_mem_head? hx
   have := hc.2 x hm
   have h2 := zos w x (p + 1)
   omega) hp
 rw [← e, List.length_take, Nat.min_eq_left hle] at hz
 exact hz
theorem zn0 (s : Nat) (l : List Nat) (B : Nat) (w : World) (hs : za4 w s l B) :
  Calls Tryz.prog 75 #[.pointer (some ⟨s, 0, none⟩)] w fun e w' => e = .returned (.int .i64 (l.length : Nat)) ∧ w = w' := by
 obtain ⟨gl, Al, cl, gc, gd, gx, A, c, Ad, cd, A1, c1, l1, A0, c0, l0, hb, hl, hc⟩ := hs
 have k0 : w.cell? ⟨s, 0, none⟩ = some (.int .i64 (l.length : Nat)) := hb.cell 0
 go_enter Tryz.func75, Tryz.ntmps75
 go_wp2
 go_ret
 exact ⟨rfl, rfl⟩
theorem ztf (s : Nat) (l : List Nat) (B : Nat) (w : World) (hs : za4 w s l B) :
  Calls Tryz.prog 93 #[.pointer (some ⟨s, 0, none⟩)] w fun e w' => e = .returned (.int .i64 (B : Nat)) ∧ w = w' := by
 obtain ⟨gl, Al, cl, gc, gd, gx, A, c, Ad, cd, A1, c1, l1, A0, c0, l0, hb, hl, hc⟩ := hs
 have k1 : w.cell? ⟨s, 1, none⟩ = some (.int .i64 (B : Nat)) := hb.cell 1
 go_enter Tryz.func93, Tryz.ntmps93
 go_wp2
 go_ret
 exact ⟨rfl, rfl⟩
theorem ztg (s : Nat) (l : List Nat) (B i : Nat) (w : World) (hs : za4 w s l B) (hT : Tab w) (hB2 : B ≤ 1099511627776) (hup : UpL (wd l.length B) 0 l) (hi : i < l.length) (hxB : l[i] < 4611686018427387904) (hf : Few l B) :
  Calls Tryz.prog 143 #[.pointer (some ⟨s, 0, none⟩), .int .i64 (i : Nat)] w fun e w' => e = .returned (.int .i64 (l[i] : Nat)) ∧ Below w.heap.size w w' := by
 obtain ⟨gl, Al, cl, gc, gd, gx, A, c, Ad, cd, A1, c1, l1, A0, c0, l0, hb, hl, hc⟩ := hs
 have k2 : w.cell? ⟨s, 2, none⟩ = some (.int .i64 (wd l.length B : Nat)) := hb.cell 2
 have k3 : w.cell? ⟨s, 3, none⟩ = some (.pointer (some ⟨gl, 0, none⟩)) := hb.cell 3
 have k4 : w.cell? ⟨s, 4, none⟩ = some (.pointer (some ⟨gc, 0, none⟩)) := hb.cell 4
 have hsl := hb.lt
 have hn := hf.1
 have hwd := zey l.length B hB2
 have htop : (B - 1) / 2 ^ wd l.length B ≤ 100000 := hf.2
 clear hf
 generalize wd l.length B = W at *
 have hspl : l.take i ++ l[i] :: l.drop (i + 1) = l := by rw [← List.drop_eq_getElem_cons hi, List.take_append_drop]
 have hli : (l.take i).length = i := by rw [List.length_take]; omega
 have ho := zne (w := W) (top := top l B) (l1 := l.take i) (l2 := l.drop (i + 1)) (x := l[i]) (by rw [hspl]; exact hup)
 have hg := zor W (l.take i) (l.drop (i + 1)) l[i]
 rw [hspl, hli] at ho hg
 have hlen := zbk W l
 have hin : i * W + W ≤ (lows W l).length := by
  rw [hlen, ← Nat.succ_mul]; exact Nat.mul_le_mul_right _ hi
 have HO := hid (show ∀ w', Below w.heap.size w w' → _ from fun w' (hw : Below w.heap.size w w') => zst gc gd gx A c (high W (top l B) l) Ad cd A1 c1 l1 A0 c0 l0 i (i + l[i] / 2 ^ W) w' (hc.below hw) (hT.below hw) ho.2.1 ho.1 ho.2.2)
 have HG := hid (fun w' (hw : zo w' gl Al cl (lows W l)) => zgd gl Al cl (lows W l) (i * W) W w' hw (by omega) hin)
 rw [hg] at HG
 generalize l[i] = x at *
 have hxm : x / 2 ^ W * 2 ^ W + x % 2 ^ W = x := by rw [Nat.mul_comm]; exact Nat.div_add_mod x (2 ^ W)
 have hrlt : x % 2 ^ W < 2 ^ W := Nat.mod_lt _ (Nat.two_pow_pos W)
 have hjoin : x / 2 ^ W * 2 ^ W ||| x % 2 ^ W = x := by rw [nat_join W _ _ (Nat.mul_mod_left _ _) hrlt, hxm]
 have hX : (((x / 2 ^ W : Nat) : Int)) * 2 ^ W = ((x / 2 ^ W * 2 ^ W : Nat) : Int) := by norm_cast
 have hiW : (i : Int) * (W : Int) = ((i * W : Nat) : Int) := by norm_cast
 have hiWb : i * W ≤ 12000 * 40 := Nat.mul_le_mul (by omega) hwd
 have hpi : ((i + x / 2 ^ W : Nat) : Int) - (i : Int) = ((x / 2 ^ W : Nat) : Int) := by omega
 have hqx : x / 2 ^ W ≤ x := Nat.div_le_self _ _
 generalize i * W = m at *
 generalize x / 2 ^ W * 2 ^ W = X at *
 generalize hrr : x % 2 ^ W = r at *
 generalize x / 2 ^ W = q at *
 have hor : bits BinOp.or IntKind.i64 (X : Int) (r : Int) = (x : Int) := by rw [zx3 X r (by omega) (by omega), hjoin]
 have hXw : IntKind.i64.wrap (X : Int) = (X : Int) := by rw [IntKind.wrap_i64]; omega
 have hmw : IntKind.i64.wrap (m : Int) = (m : Int) := by rw [IntKind.wrap_i64]; omega
 have hrw : IntKind.i64.wrap (r : Int) = (r : Int) := by rw [IntKind.wrap_i64]; omega
 generalize hP : i + q = P at *
 clear hjoin hxm hrlt hrr hg ho hup hin hlen hspl hli hc
 have hB0 := Below.refl w.heap.size w
 go_enter Tryz.func143, Tryz.ntmps143
 go_wp2_with fail
 refine (HO.out _ hB0).mono ?_
 rintro e w1 ⟨rfl, hB1⟩
 have k2a := (hB1.cell (p := ⟨s, 2, none⟩) hsl).trans k2
 have k3a := (hB1.cell (p := ⟨s, 3, none⟩) hsl).trans k3
 have hl1 := hl.below hB1
 go_wp2_with fail
 go_quiet ((go_at_call 138; exact zfm (HG.out _ (by exact hl1))))
 go_wp2_with fail
 have hB2 : Below w.heap.size w (w1.drewN nq) := ⟨hB1.os, hB1.tape, hB1.output, hB1.size, hB1.block⟩
 go_ret
 exact ⟨rfl, hB2⟩
theorem zth (s : Nat) (l : List Nat) (B i : Nat) (w : World) (hs : za4 w s l B) (hT : Tab w) (hr : zas l B) (hf : Few l B) (hi : i < l.length) :
  Calls Tryz.prog 143 #[.pointer (some ⟨s, 0, none⟩), .int .i64 (i : Nat)] w fun e w' => e = .returned (.int .i64 (l[i] : Nat)) ∧ Below w.heap.size w w' :=
 ztg s l B i w hs hT hr.1.2 (hr.up _) hi (by have := hr.2.2 _ (List.getElem_mem hi); have := hr.1.2; omega) hf
theorem zws (s : Nat) (l : List Nat) (B i : Nat) (w : World) (hs : za4 w s l B) (hT : Tab w) (hr : zas l B) (hf : Few l B) (hi : i < l.length) :
  Calls Tryz.prog 95 #[.pointer (some ⟨s, 0, none⟩), .int .i64 (i : Nat)] w fun e w' => e = .returned (.tuple #[.int .i64 (l[i] : Nat), .int .i64 0]) ∧ Below w.heap.size w w' := by
 have HG := hid (zth s l B i w hs hT hr hf hi)
 obtain ⟨gl, Al, cl, gc, gd, gx, A, c, Ad, cd, A1, c1, l1, A0, c0, l0, hb, hl, hc⟩ := hs
 have k0 : w.cell? ⟨s, 0, none⟩ = some (.int .i64 (l.length : Nat)) := hb.cell 0
 have g0 : decide ((i : Int) < 0) = false := decide_eq_false (by omega)
 have g1 : decide ((i : Int) ≥ (l.length : Int)) = false := decide_eq_false (by omega)
 clear hb hl hc hr hf
 generalize l[i] = x at *
 go_enter Tryz.func95, Tryz.ntmps95
 go_wp2_with fail
 (with_reducible refine (HG.out).mono ?_)
 rintro e w1 ⟨rfl, hB1⟩
 go_wp2_with fail
 go_ret2
 exact ⟨rfl, hB1⟩
theorem z2p (s : Nat) (l : List Nat) (B : Nat) (i : Int) (w : World) (hs : za4 w s l B) (hi : i < 0 ∨ (l.length : Int) ≤ i) :
  Calls Tryz.prog 95 #[.pointer (some ⟨s, 0, none⟩), .int .i64 i] w fun e w' => e = .returned (.tuple #[.int .i64 0, .int .i64 2]) ∧ w = w' := by
 obtain ⟨gl, Al, cl, gc, gd, gx, A, c, Ad, cd, A1, c1, l1, A0, c0, l0, hb, hl, hc⟩ := hs
 have k0 : w.cell? ⟨s, 0, none⟩ = some (.int .i64 (l.length : Nat)) := hb.cell 0
 clear hb hl hc
 by_cases h0 : i < 0
 ·have g0 : decide (i < 0) = true := decide_eq_true h0
  go_enter Tryz.func95, Tryz.ntmps95
  go_wp2_with fail
  go_ret2
  exact ⟨rfl, rfl⟩
 ·have g0 : decide (i < 0) = false := decide_eq_false h0
  have g1 : decide (i ≥ (l.length : Int)) = true := decide_eq_true (by omega)
  have g2 : (l.length : Int) ≤ i := by omega
  go_enter Tryz.func95, Tryz.ntmps95
  go_wp2_with fail
  go_ret2
  exact ⟨rfl, rfl⟩
theorem zi6 (s : Nat) (l : List Nat) (B p : Nat) (w : World) (hs : za4 w s l B) (hT : Tab w) (hr : zas l B) (hf : Few l B) (hp : p ≤ top l B) :
  Calls Tryz.prog 148 #[.pointer (some ⟨s, 0, none⟩), .int .i64 (p : Nat)] w fun e w' => e = .returned (.int .i64 (cl l (p * 2 ^ wd l.length B) : Nat)) ∧ Below w.heap.size w w' := by
 rcases Nat.eq_zero_or_pos p with h0 | h0
 ·subst h0
  have HC := hid (show L.cl l (0 * 2 ^ wd l.length B) = 0 by rw [Nat.zero_mul, z6e])
  go_enter Tryz.func148, Tryz.ntmps148
  go_wp2_with fail
  go_ret
  exact ⟨by rw [HC.out]; rfl, Below.refl _ _⟩
 ·obtain ⟨q, rfl⟩ : ∃ q, p = q + 1 := ⟨p - 1, by omega⟩
  obtain ⟨gl, Al, cL, gc, gd, gx, A, c, Ad, cd, A1, c1, l1, A0, c0, l0, hb, hl, hc⟩ := hs
  have k4 : w.cell? ⟨s, 4, none⟩ = some (.pointer (some ⟨gc, 0, none⟩)) := hb.cell 4
  have hup := hr.up (wd l.length B)
  have hpz := zz3 (w := wd l.length B) (T := top l B) (p := q) hup hr.2.1 (by omega)
  have hcl := znf l ((q + 1) * 2 ^ wd l.length B)
  have hn := hf.1
  have htop : (B - 1) / 2 ^ wd l.length B ≤ 100000 := hf.2
  have ht : top l B = (B - 1) / 2 ^ wd l.length B + 1 := rfl
  have hq : q ≤ 100000 := by omega
  generalize L.cl l ((q + 1) * 2 ^ wd l.length B) = j at *
  have HZ := hid (zzs gc gd gx A c (high (wd l.length B) (top l B) l) Ad cd A1 c1 l1 A0 c0 l0 q (j + q) w hc hT hpz.2.1 hpz.1 hpz.2.2)
  have g0 : (((q + 1 : Nat) : Int) == 0) = false := by rw [beq_eq_false_iff_ne]; omega
  have hsub : ((q + 1 : Nat) : Int) - 1 = (q : Int) := by omega
  have hres : ((j + q : Nat) : Int) - ((q + 1 : Nat) : Int) + 1 = (j : Int) := by omega
  clear hb hl hc hr hf hup hpz ht htop hp
  generalize hr : q + 1 = r at *
  have hr1 : r ≤ 100001 := by omega
  have hr0 : 1 ≤ r := by omega
  generalize hP : j + q = P at *
  have hP1 : P ≤ 112001 := by omega
  clear hr hP
  go_enter Tryz.func148, Tryz.ntmps148
  go_wp2_with fail
  (with_reducible refine (HZ.out).mono ?_)
  rintro e w1 ⟨rfl, hB1⟩
  go_wp2_with fail
  go_ret
  exact ⟨by first | rfl | (rw [hres]) | go_num, hB1⟩
attribute [local go_sem] Oper.semAt_some
theorem zf1 {β : Type} {Bn : Nat} {J : β → World → Prop} (hJ : AbidesFrom Bn J) {s : β} {A A' : World} (h : J s A) (hb : Below A.heap.size A A') : J s A' :=
 hJ s A A' none h ⟨hb.os, hb.tape, hb.output, hb.size, fun k hk _ => hb.block k hk⟩ (fun r e => by cases e)
def amE (p : Nat × Nat) : Array Value := #[.int .i64 (p.1 : Nat), .int .i64 (p.2 : Nat)]
def L.segs (l : List Nat) (a b : Nat) : List (Nat × Nat) := (List.range (b - a)).map fun k => (a + k, l.getD (a + k) 0)
theorem L.zf2 (l : List Nat) (a b : Nat) : (segs l a b).length = b - a := by simp [segs]
theorem L.zz4 (l : List Nat) {a b i : Nat} (h1 : a ≤ i) (h2 : i < b) : (segs l a b).take (i + 1 - a) = (segs l a b).take (i - a) ++ [(i, l.getD i 0)] := by
 rw [show i + 1 - a = (i - a) + 1 from by omega, List.take_succ_eq_append_getElem (by rw [zf2]; omega)]
 congr 2
 unfold segs
 rw [List.getElem_map, List.getElem_range, show a + (i - a) = i from by omega]
theorem L.z2q (l : List Nat) (a b : Nat) : (segs l a b).take (b - a) = segs l a b := List.take_of_length_le (by rw [zf2]; exact Nat.le_refl _)
theorem zz5 (n : Nat) (hn : 2 ≤ n) (y Bs Bp s : Nat) (l : List Nat) (B p : Nat) (w : World) (hs : za4 w s l B) (hT : Tab w) (hr : zas l B) (hf : Few l B) (hp : p + 1 ≤ top l B)
  (hcs : w.cell? ⟨Bs, 0, none⟩ = some (.pointer (some ⟨s, 0, none⟩))) (hcp : w.cell? ⟨Bp, 0, none⟩ = some (.int .i64 (p : Nat))) (hBs : Bs < w.heap.size) (hBp : Bp < w.heap.size)
  (a b : Nat) (ha : a = cl l (p * 2 ^ wd l.length B)) (hb : b = cl l ((p + 1) * 2 ^ wd l.length B)) (hab : a ≤ b)
  (J Jx : List (Nat × Nat) → World → Prop) (W : World) (hW : Below w.heap.size w W) (hJ : AbidesFrom W.heap.size J)
  (hY : ∀ pre x W1, J pre W1 → pre.length < b - a → YieldAt Fence.wide (n - 1) Tryz.prog y (amE x) W1 fun e W' =>
   (e = .returned (.bool true) ∧ J (pre ++ [x]) W' ∧ Below w.heap.size W1 W') ∨ (e = .returned (.bool false) ∧ Jx (pre ++ [x]) W'))
  (h0 : J [] W) :
  CallsIn Fence.wide n Tryz.prog 182 #[.func (.yield y) #[] #[], .pointer (some ⟨Bs, 0, none⟩), .pointer (some ⟨Bp, 0, none⟩)] W fun e W' => (∃ v, e = .returned v) ∧
   ((∃ ys, ys = segs l a b ∧ J ys W') ∨ (∃ pre, pre <+: segs l a b ∧ Jx pre W')) := by
 have hn1 : l.length ≤ 12000 := hf.1
 have hbl : b ≤ l.length := by rw [hb]; exact znf _ _
 have htop : (B - 1) / 2 ^ wd l.length B ≤ 100000 := hf.2
 have ht : top l B = (B - 1) / 2 ^ wd l.length B + 1 := rfl
 have hpb : p ≤ 100000 := by omega
 have HF1 := hid (show ∀ W', Below w.heap.size w W' → Calls Tryz.prog 148 #[.pointer (some ⟨s, 0, none⟩), .int .i64 (p : Nat)] W' fun e w' => e = .returned (.int .i64 (a : Nat)) ∧ Below W'.heap.size W' w' from fun W' hW' => by
  rw [ha]; exact zi6 s l B p W' (hs.below hW') (hT.below hW') hr hf (by omega))
 have HF2 := hid (show ∀ W', Below w.heap.size w W' → Calls Tryz.prog 148 #[.pointer (some ⟨s, 0, none⟩), .int .i64 ((p : Int) + 1)] W' fun e w' => e = .returned (.int .i64 (b : Nat)) ∧ Below W'.heap.size W' w' from fun W' hW' => by
  rw [hb]; exact zi6 s l B (p + 1) W' (hs.below hW') (hT.below hW') hr hf hp)
 have HG := hid (show ∀ i W', i < l.length → Below w.heap.size w W' → Calls Tryz.prog 143 #[.pointer (some ⟨s, 0, none⟩), .int .i64 (i : Nat)] W' fun e w' => e = .returned (.int .i64 (l.getD i 0 : Nat)) ∧ Below W'.heap.size W' w' from fun i W' hi hW' => by
  rw [List.getD_eq_getElem?_getD, List.getElem?_eq_getElem hi]; exact zth s l B i W' (hs.below hW') (hT.below hW') hr hf hi)
 have hp1W := wrap_one p (by omega)
 clear hs hT hr hf hp ha hb htop ht
 have hsW := hW.size
 have ks := (hW.cell (p := ⟨Bs, 0, none⟩) hBs).trans hcs
 have kp := (hW.cell (p := ⟨Bp, 0, none⟩) hBp).trans hcp
 refine callsIn_of_wp Tryz.func182 rfl trivial ?_ rfl
 simp only [Tryz.ntmps182, List.size_toArray, List.length_cons, List.length_nil, Nat.reduceAdd, Nat.reduceSub, Array.replicate_succ, Array.replicate_zero, List.push_toArray, List.append_toArray, List.nil_append, List.cons_append]
 gi_wp2
 refine ⟨trivial, fun _ => by omega, ?_⟩
 refine (callsIn_wide.2 (HF1.out _ hW)).mono ?_
 rintro e w1 ⟨rfl, hB1⟩
 have hb1 := hW.trans (hB1.mono hsW)
 have hj1 := zf1 hJ h0 hB1
 gi_wp2
 gi_loopw [4] (fun av wr => ∃ i : Nat, a ≤ i ∧ i ≤ b ∧ av = .int .i64 (i : Nat) ∧ J ((segs l a b).take (i - a)) wr ∧ Below w.heap.size w wr)
  (fun av _ => b - (intOf av).toNat)
 case atStart => exact ⟨a, Nat.le_refl _, hab, rfl, by rw [Nat.sub_self]; exact hj1, hb1⟩
 case round =>
  obtain ⟨i, hi1, hi2, rfl, hJi, hBi⟩ := hrel
  have hsi := hBi.size
  have ks2 := (hBi.cell (p := ⟨Bs, 0, none⟩) hBs).trans hcs
  have kp2 := (hBi.cell (p := ⟨Bp, 0, none⟩) hBp).trans hcp
  rcases Nat.lt_or_ge i b with h | h
  ·have hlt : (i : Int) < (b : Int) := by omega
   have hd : decide ((i : Int) < (b : Int)) = true := decide_eq_true hlt
   have hiW := wrap_one i (by omega)
   have hx := zz4 l hi1 h
   have hil : i < l.length := by omega
   have hlen : ((segs l a b).take (i - a)).length < b - a := by rw [List.length_take, zf2]; omega
   gi_wp2
   refine ⟨trivial, fun _ => by omega, ?_⟩
   refine (callsIn_wide.2 (HF2.out _ hBi)).mono ?_
   rintro e w2 ⟨rfl, hB2⟩
   have hb2 := hBi.trans (hB2.mono hsi)
   have hs2 := hb2.size
   have hj2 := zf1 hJ hJi hB2
   have ks3 := (hb2.cell (p := ⟨Bs, 0, none⟩) hBs).trans hcs
   gi_wp2
   refine ⟨trivial, fun _ => by omega, ?_⟩
   refine (callsIn_wide.2 (HG.out i _ hil hb2)).mono ?_
   rintro e w3 ⟨rfl, hB3⟩
   have hb3 := hb2.trans (hB3.mono hs2)
   have hs3 := hb3.size
   have hj3 := zf1 hJ hj2 hB3
   obtain ⟨fn, tmps, assign, body, hy, hR⟩ := hY _ (i, l.getD i 0) w3 hj3 hlen
   dsimp only [amE] at hy hR
   rw [← hx] at hR
   have HX := hid hx
   clear hx
   generalize l.getD i 0 = x at *
   gi_wp2
   refine ⟨fun _ => by omega, ?_⟩
   refine hR.mono ?_
   rintro e W3 (⟨rfl, hJ3, hk3⟩ | ⟨rfl, hJx3⟩)
   ·have hb4 := hb3.trans hk3
    gi_wp2
    go_roundw
    case rel => exact ⟨i + 1, by omega, by omega, rfl, hJ3, hb4⟩
    case measure => simp [intOf]; omega
   ·gi_wp2
    go_end0
    refine ⟨⟨_, rfl⟩, .inr ⟨_, List.take_prefix _ _, hJx3⟩⟩
  ·obtain rfl : i = b := by omega
   have hd : decide ((i : Int) < (i : Int)) = false := decide_eq_false (by omega)
   have hE := hid (z2q l a i)
   gi_wp2
   refine ⟨trivial, fun _ => by omega, ?_⟩
   refine (callsIn_wide.2 (HF2.out _ hBi)).mono ?_
   rintro e w2 ⟨rfl, hB2⟩
   have hj2 := zf1 hJ hJi hB2
   rw [hE.out] at hj2
   gi_wp2
   refine ⟨trivial, ?_⟩
   gi_wp2
   refine ⟨fun _ h => (by cases h), ?_⟩
   gi_wp2
   go_end0
   exact ⟨⟨_, rfl⟩, .inl ⟨_, rfl, hj2⟩⟩
attribute [local go_sem] Oper.semAt_some
theorem zz6 (s : Nat) (p : Int) (w : World) : Calls Tryz.prog 147 #[.pointer (some ⟨s, 0, none⟩), .int .i64 p] w fun e w' => e = .returned (.func (.func 182) #[] #[.pointer (some ⟨w.heap.size, 0, none⟩), .pointer (some ⟨w.heap.size + 1, 0, none⟩)]) ∧ w' = (w.alloc (.cells #[.pointer (some ⟨s, 0, none⟩)] 54)).alloc (.cells #[.int .i64 p] 3) := by
 go_enter Tryz.func147, Tryz.ntmps147
 go_wp2_with fail
 go_ret
 first | exact ⟨rfl, rfl⟩ | (refine ⟨?_, rfl⟩; simp)
theorem zvb (n : Nat) (hn : 2 ≤ n) (Bs Bp s : Nat) (l : List Nat) (B p : Nat) (w : World) (hs : za4 w s l B) (hT : Tab w) (hr : zas l B) (hf : Few l B) (hp : p + 1 ≤ top l B)
  (hcs : w.cell? ⟨Bs, 0, none⟩ = some (.pointer (some ⟨s, 0, none⟩))) (hcp : w.cell? ⟨Bp, 0, none⟩ = some (.int .i64 (p : Nat))) (hBs : Bs < w.heap.size) (hBp : Bp < w.heap.size)
  (a b : Nat) (ha : a = cl l (p * 2 ^ wd l.length B)) (hb : b = cl l ((p + 1) * 2 ^ wd l.length B)) (hab : a ≤ b) :
  SeqStopsK Fence.wide n Tryz.prog 182 #[.pointer (some ⟨Bs, 0, none⟩), .pointer (some ⟨Bp, 0, none⟩)] amE (Below w.heap.size) (fun ys => ys = segs l a b) (fun pre => pre <+: segs l a b) (b - a) w := fun y J Jx W hW hJ _ hY h0 =>
 zz5 n hn y Bs Bp s l B p w hs hT hr hf hp hcs hcp hBs hBp a b ha hb hab J Jx W hW hJ hY h0
theorem L.z6f (l : List Nat) {x y : Nat} (h : x ≤ y) : cl l x ≤ cl l y := by
 unfold cl
 exact List.countP_mono_left (fun z _ hz => by simp at *; omega)
theorem z2r (s : Nat) (x : Int) (w : World) (h : x ≤ 0) :
  Calls Tryz.prog 110 #[.pointer (some ⟨s, 0, none⟩), .int .i64 x] w fun e w' => e = .returned (.int .i64 0) ∧ Below w.heap.size w w' := by
 have g0 : decide (x ≤ 0) = true := decide_eq_true h
 go_enter Tryz.func110, Tryz.ntmps110
 go_wp2_with fail
 refine bodyPost_ret (v := .int .i64 0) (by simp [results, Tryz.results110, go_sem]) rfl ⟨rfl, ?_⟩
 first | exact (((Below.refl _ _).alloc (Nat.le_refl _) _).alloc (by simp) _) | exact (((Below.refl _ _).alloc (Nat.le_refl _) _).alloc (by simp) _).setCell (p := ⟨w.heap.size + 1, 0, none⟩) (by simp) _
theorem L.z2s (l : List Nat) {a b j : Nat} (h1 : a ≤ j) (h2 : j < b) (h3 : j < l.length) : (j, l[j]) ∈ segs l a b := by
 unfold segs
 refine List.mem_map.2 ⟨j - a, List.mem_range.2 (by omega), ?_⟩
 rw [show a + (j - a) = j from by omega, List.getD_eq_getElem?_getD, List.getElem?_eq_getElem h3]; rfl
theorem L.zti (l : List Nat) {a b k : Nat} (h : k < (segs l a b).length) : (segs l a b)[k] = (a + k, l.getD (a + k) 0) := by
 simp [segs]
theorem L.zz7 {l : List Nat} (hr : Ris l) {W X p : Nat} (hp : p = X / 2 ^ W) (h : ∀ x ∈ segs l (cl l (p * 2 ^ W)) (cl l ((p + 1) * 2 ^ W)), x.2 < X) : cl l X = cl l ((p + 1) * 2 ^ W) := by
 have h1 : p * 2 ^ W ≤ X := by rw [hp]; exact Nat.div_mul_le_self _ _
 have h2 : X < (p + 1) * 2 ^ W := (zos W X (p + 1)).1 (by omega)
 have hb := znf l ((p + 1) * 2 ^ W)
 refine zp2 hr hb (fun j hj => ?_) (fun hi => ?_)
 ·by_cases ha : j < cl l (p * 2 ^ W)
  ·have := (zng hr (x := p * 2 ^ W) (show j < l.length by omega)).2 ha
   omega
  ·exact h _ (z2s l (by omega) hj (by omega))
 ·have := (zng hr (x := (p + 1) * 2 ^ W) hi)
  omega
theorem L.zz8 {l : List Nat} (hr : Ris l) {W X p : Nat} (hp : p = X / 2 ^ W) {q : List (Nat × Nat)} {x : Nat × Nat} (hq : q ++ [x] <+: segs l (cl l (p * 2 ^ W)) (cl l ((p + 1) * 2 ^ W))) (h1 : X ≤ x.2) (h2 : ∀ y ∈ q, y.2 < X) : cl l X = x.1 := by
 obtain ⟨r, hr'⟩ := hq
 have hb := znf l ((p + 1) * 2 ^ W)
 have hlen : q.length < (segs l (cl l (p * 2 ^ W)) (cl l ((p + 1) * 2 ^ W))).length := by rw [← hr']; simp
 have hlen2 := hlen
 rw [zf2] at hlen2
 have hx : x = (cl l (p * 2 ^ W) + q.length, l.getD (cl l (p * 2 ^ W) + q.length) 0) := by
  rw [← zti l hlen]; simp [← hr']
 have hp1 : p * 2 ^ W ≤ X := by rw [hp]; exact Nat.div_mul_le_self _ _
 rw [hx] at h1 ⊢
 refine zp2 hr (by simp; omega) (fun j hj => ?_) (fun hi => ?_)
 ·simp only at hj
  by_cases ha : j < cl l (p * 2 ^ W)
  ·have := (zng hr (x := p * 2 ^ W) (show j < l.length by omega)).2 ha
   omega
  ·have hk : j - cl l (p * 2 ^ W) < q.length := by omega
   have h3 := h2 _ (List.getElem_mem hk)
   have e : q[j - cl l (p * 2 ^ W)] = (segs l (cl l (p * 2 ^ W)) (cl l ((p + 1) * 2 ^ W)))[j - cl l (p * 2 ^ W)]'(by omega) := by
    simp only [← hr']
    rw [List.getElem_append_left (by simp; omega), List.getElem_append_left hk]
   rw [e, zti] at h3
   simp only [List.getD_eq_getElem?_getD] at h3
   rw [show cl l (p * 2 ^ W) + (j - cl l (p * 2 ^ W)) = j from by omega, List.getElem?_eq_getElem (by omega)] at h3
   exact h3
 ·simp only [List.getD_eq_getElem?_getD] at h1
  rw [List.getElem?_eq_getElem hi] at h1
  exact h1
def L.zrl (pre : List (Nat × Nat)) : Nat := (pre.getLast?.getD (0, 0)).1
theorem L.zn1 (pre : List (Nat × Nat)) (x : Nat × Nat) : zrl (pre ++ [x]) = x.1 := by unfold zrl; simp
theorem z2t (s : Nat) (l : List Nat) (B X : Nat) (w : World) (hs : za4 w s l B) (hT : Tab w) (hr : zas l B) (hf : Few l B) (h0 : 0 < X) (hX : X < B) :
  Calls Tryz.prog 110 #[.pointer (some ⟨s, 0, none⟩), .int .i64 (X : Nat)] w fun e w' => e = .returned (.int .i64 (cl l X : Nat)) ∧ Below w.heap.size w w' := by
 have hB0 : Below w.heap.size w ((w.alloc (.cells #[.int .i64 (X : Nat)] 3)).alloc (.cells #[.int .i64 0] 3)) := ((Below.refl _ _).alloc (Nat.le_refl _) _).alloc (by simp) _
 have b0 := (Boxed.new w 3 (.int .i64 (X : Nat))).alloc (.cells #[.int .i64 0] 3)
 have b1 := Boxed.new (w.alloc (.cells #[.int .i64 (X : Nat)] 3)) 3 (.int .i64 0)
 simp only [World.size_alloc] at b1
 have hslt : s < w.heap.size := by
  obtain ⟨gl, Al, cl, gc, gd, gx, A, c, Ad, cd, A1, c1, l1, A0, c0, l0, hb, hl, hc⟩ := hs
  exact hb.lt
 obtain ⟨kk1, kk2⟩ : w.cell? ⟨s, 1, none⟩ = some (.int .i64 (B : Nat)) ∧ w.cell? ⟨s, 2, none⟩ = some (.int .i64 (wd l.length B : Nat)) := by
  obtain ⟨gl, Al, cl, gc, gd, gx, A, c, Ad, cd, A1, c1, l1, A0, c0, l0, hb, hl, hc⟩ := hs
  exact ⟨hb.cell 1, hb.cell 2⟩
 have k1 := (hB0.cell (p := ⟨s, 1, none⟩) hslt).trans kk1
 have k2 := (hB0.cell (p := ⟨s, 2, none⟩) hslt).trans kk2
 have hn := hf.1
 have htop : (B - 1) / 2 ^ wd l.length B ≤ 100000 := hf.2
 have ht : top l B = (B - 1) / 2 ^ wd l.length B + 1 := rfl
 have hwd := zey l.length B hr.1.2
 have hBb := hr.1.2
 obtain ⟨p, hp⟩ : ∃ p, p = X / 2 ^ wd l.length B := ⟨_, rfl⟩
 have hpI : (X : Int) / 2 ^ wd l.length B = (p : Int) := by rw [hp]; norm_cast
 have hpt : p ≤ (B - 1) / 2 ^ wd l.length B := by rw [hp]; exact Nat.div_le_div_right (by omega)
 have g0 : decide ((X : Int) ≤ 0) = false := decide_eq_false (by omega)
 have g1 : decide ((X : Int) ≥ (B : Int)) = false := decide_eq_false (by omega)
 have hpW := wrap_one p (by omega)
 obtain ⟨W, hWd⟩ : ∃ W, W = wd l.length B := ⟨_, rfl⟩
 rw [← hWd] at hpI k2
 clear kk1 kk2
 have HWd := hid hWd
 have hW40 : W ≤ 40 := by omega
 have hm64 : min W 64 = W := by omega
 have HP := hid hp
 clear hWd hp
 have hw0 : decide ((W : Int) < 0) = false := decide_eq_false (by omega)
 have hw2 : (0 : Int) ≤ (W : Int) := by omega
 have hw3 : ¬ ((W : Int) < 0) := by omega
 have hw4 : (W : Int).toNat = W := Int.toNat_natCast W
 have hpW2 : IntKind.i64.wrap ((X : Int) / 2 ^ W) = (p : Int) := by rw [hpI, IntKind.wrap_i64]; omega
 have g2 : decide (X = 0) = false := decide_eq_false (by omega)
 have g3 : decide (B ≤ X) = false := decide_eq_false (by omega)
 refine (callsIn_wide (n := 8)).1 ?_
 refine callsIn_of_wp_marks Tryz.func110 rfl trivial ?_ rfl
 simp only [Tryz.ntmps110, List.size_toArray, List.length_cons, List.length_nil, Nat.reduceAdd, Nat.reduceSub, Array.replicate_succ, Array.replicate_zero, List.push_toArray, List.append_toArray, List.nil_append, List.cons_append]
 gi_wp2
 gi_region
 gi_wp2
 gi_region
 gi_wp2
 refine ⟨trivial, ?_⟩
 try simp only [hpI]
 refine (callsIn_wide.2 (zz6 s p _)).mono ?_
 rintro e w1 ⟨rfl, rfl⟩
 gi_wp2
 have hp := HP.out
 obtain ⟨a, ha⟩ : ∃ a, a = L.cl l (p * 2 ^ L.wd l.length B) := ⟨_, rfl⟩
 obtain ⟨b, hb⟩ : ∃ b, b = L.cl l ((p + 1) * 2 ^ L.wd l.length B) := ⟨_, rfl⟩
 have hab : a ≤ b := by rw [ha, hb]; exact L.z6f l (Nat.mul_le_mul_right _ (by omega))
 have HF := hid (show ∀ W', Below w.heap.size w W' → Calls Tryz.prog 148 #[.pointer (some ⟨s, 0, none⟩), .int .i64 ((p : Int) + 1)] W' fun e w' => e = .returned (.int .i64 (b : Nat)) ∧ Below W'.heap.size W' w' from fun W' hW' => by
  rw [hb]; exact zi6 s l B (p + 1) W' (hs.below hW') (hT.below hW') hr hf (by omega))
 have c0 := (b0.alloc (.cells #[.pointer (some ⟨s, 0, none⟩)] 54)).alloc (.cells #[.int .i64 (p : Nat)] 3)
 have c1 := (b1.alloc (.cells #[.pointer (some ⟨s, 0, none⟩)] 54)).alloc (.cells #[.int .i64 (p : Nat)] 3)
 have c2 := (Boxed.new ((w.alloc (.cells #[.int .i64 (X : Nat)] 3)).alloc (.cells #[.int .i64 0] 3)) 54 (.pointer (some ⟨s, 0, none⟩))).alloc (.cells #[.int .i64 (p : Nat)] 3)
 have c3 := Boxed.new (((w.alloc (.cells #[.int .i64 (X : Nat)] 3)).alloc (.cells #[.int .i64 0] 3)).alloc (.cells #[.pointer (some ⟨s, 0, none⟩)] 54)) 3 (.int .i64 (p : Nat))
 simp only [World.size_alloc] at c2 c3
 have hB1 := (hB0.alloc (by simp; omega) (.cells #[.pointer (some ⟨s, 0, none⟩)] 54)).alloc (by simp; omega) (.cells #[.int .i64 (p : Nat)] 3)
 have hsz : ((((w.alloc (.cells #[.int .i64 (X : Nat)] 3)).alloc (.cells #[.int .i64 0] 3)).alloc (.cells #[.pointer (some ⟨s, 0, none⟩)] 54)).alloc (.cells #[.int .i64 (p : Nat)] 3)).heap.size = w.heap.size + 4 := by simp
 obtain ⟨W0, hW0⟩ : ∃ W0, ((((w.alloc (.cells #[.int .i64 (X : Nat)] 3)).alloc (.cells #[.int .i64 0] 3)).alloc (.cells #[.pointer (some ⟨s, 0, none⟩)] 54)).alloc (.cells #[.int .i64 (p : Nat)] 3)).drew.drew = W0 := ⟨_, rfl⟩
 have d0 : Boxed W0 w.heap.size 3 (.int .i64 (X : Nat)) := by rw [← hW0]; exact c0
 have d1 : Boxed W0 (w.heap.size + 1) 3 (.int .i64 0) := by rw [← hW0]; exact c1
 have d2 : Boxed W0 (w.heap.size + 1 + 1) 54 (.pointer (some ⟨s, 0, none⟩)) := by rw [← hW0]; exact c2
 have d3 : Boxed W0 (w.heap.size + 1 + 1 + 1) 3 (.int .i64 (p : Nat)) := by rw [← hW0]; exact c3
 have hB2 : Below w.heap.size w W0 := by rw [← hW0]; exact ⟨hB1.os, hB1.tape, hB1.output, hB1.size, hB1.block⟩
 have hsz0 : W0.heap.size = w.heap.size + 4 := by rw [← hW0]; exact hsz
 rw [hW0]
 clear hW0 c0 c1 c2 c3 hB0 hB1 b0 b1 k1 k2 hsz
 refine wpIn_rangeFunc_ownF (n := 8) rfl (by omega) (gf := 182) (lb := #[.pointer (some ⟨w.heap.size + 1 + 1, 0, none⟩), .pointer (some ⟨w.heap.size + 1 + 1 + 1, 0, none⟩)]) rfl trivial (enters_of Tryz.func182 (by kernel_rfl) rfl)
  (zvb (8 - 1) (by omega) (w.heap.size + 1 + 1) (w.heap.size + 1 + 1 + 1) s l B p W0 (hs.below hB2) (hT.below hB2) hr hf (by omega) d2.cell d3.cell (by omega) (by omega) a b ha hb hab) belowK_t (belowK_b (Nat.le_refl _)) (Below.refl _ _) (fun _ => rfl)
  (fun pre W => (Boxed W w.heap.size 3 (.int .i64 (X : Nat)) ∧ Boxed W (w.heap.size + 1) 3 (.int .i64 0)) ∧ Below w.heap.size w W ∧ ∀ x ∈ pre, x.2 < X)
  (fun c pre W => (Boxed W (w.heap.size + 1) 3 (.int .i64 (zrl pre : Nat)) ∧ c = .ret) ∧ Below w.heap.size w W ∧ ∃ q x, pre = q ++ [x] ∧ X ≤ x.2 ∧ ∀ y ∈ q, y.2 < X)
  (OwnFrom.and (OwnFrom.and (Own.from (boxed_own _ _ (fun _ => .int .i64 (X : Nat))) _) (Own.from (boxed_own _ _ (fun _ => .int .i64 0)) _)) (OwnFrom.and (ownFrom_below (Nat.le_refl _) (by omega)) (ownFrom_pure _ _)))
  (fun c => OwnFrom.and (OwnFrom.and (Own.from (boxed_own _ _ (fun pre => .int .i64 (zrl pre : Nat))) _) (ownFrom_pure _ _)) (OwnFrom.and (ownFrom_below (Nat.le_refl _) (by omega)) (ownFrom_pure _ _)))
  ⟨⟨d0, d1⟩, hB2, by simp⟩
  (fun x => { tmps := #[.pointer (some ⟨s, 0, none⟩), .int .i64 (X : Nat), undef, .pointer (some ⟨w.heap.size, 0, none⟩), .pointer (some ⟨w.heap.size + 1, 0, none⟩), .int .i64 (p : Nat), .int .i64 (x.1 : Nat), .int .i64 (x.2 : Nat), .bool false, .int .i64 (X : Nat), .bool false, .bool false, .int .i64 (X : Nat), .pointer (some ⟨s, 0, none⟩), .pointer (some ⟨s, 0, none⟩), .pointer (some ⟨s, 1, none⟩), .int .i64 (B : Nat), .bool false, undef, undef, undef, undef, .int .i64 (X : Nat), .pointer (some ⟨s, 0, none⟩), .pointer (some ⟨s, 0, none⟩), .pointer (some ⟨s, 2, none⟩), .int .i64 (W : Nat), .int .i64 (p : Nat), .pointer (some ⟨s, 0, none⟩), .int .i64 (p : Nat), .func (.func 182) #[] #[.pointer (some ⟨w.heap.size + 1 + 1, 0, none⟩), .pointer (some ⟨w.heap.size + 1 + 1 + 1, 0, none⟩)], .int .i64 (x.1 : Nat), .int .i64 (x.2 : Nat), undef, undef, undef, undef, undef, undef, undef, undef], defers := [] })
  ?assign ?body ?done ?stop
 case assign =>
  intro l x W K hK
  clear hp ha hb
  dsimp only [amE]
  gi_wp2
  exact hK
 case body =>
  rintro r pre x W ⟨⟨e0, e1⟩, hB, hpre⟩ hlt
  clear hp ha hb
  have k0 := e0.cell
  have k0' := e1.cell
  have k0f := e1.frozen
  by_cases hx : X ≤ x.2
  ·have hxI : decide ((x.2 : Int) ≥ (X : Int)) = true := decide_eq_true (by omega)
   have HX := hid hx
   have HL := hid (L.zn1 pre x)
   clear hx
   gi_wp2
   exact ⟨(KeepsOthers.setCell _ _ _), ⟨by rw [HL.out]; exact e1.set _, rfl⟩, hB.setCell (p := ⟨w.heap.size + 1, 0, none⟩) (by simp) _, pre, x, rfl, HX.out, hpre⟩
  ·have hxI : decide ((x.2 : Int) ≥ (X : Int)) = false := decide_eq_false (by omega)
   have HX := hid hx
   clear hx
   gi_wp2
   exact ⟨KeepsOthers.refl _, Below.refl _ _, ⟨e0, e1⟩, hB, fun y hy => by
    rcases List.mem_append.1 hy with h | h
    ·exact hpre y h
    ·rw [List.mem_singleton] at h; have := HX.out; subst h; omega⟩
 case done =>
  rintro D ys W hD rfl ⟨⟨e0, e1⟩, hB, hall⟩ hK
  have k0' := e1.cell
  have k0f := e1.frozen
  have HC := hid (L.zz7 hr.2.1 hp (by rw [← ha, ← hb]; exact hall))
  rw [← hb] at HC
  have HD := hid hD
  have HH := hid hall
  clear hD hall hp ha hb
  gi_wp2
  refine ⟨trivial, ?_⟩
  refine (callsIn_wide.2 (HF.out _ hB)).mono ?_
  rintro e w2 ⟨rfl, hB3⟩
  have hK2 := (hB3.block D (Array.getElem?_eq_some_iff.1 hK).1).trans hK
  have e1' : Boxed w2 (w.heap.size + 1) 3 (.int .i64 0) := (hB3.block _ e1.lt).trans e1
  have hB4 := hB.trans (hB3.mono hB.size)
  have k1' := e1'.cell
  have k1f := e1'.frozen
  gi_wp2
  have hD := HD.out
  have e2 := e1'.set (.int .i64 (b : Nat))
  have hB5 := hB4.setCell (p := ⟨w.heap.size + 1, 0, none⟩) (by simp) (.int .i64 (b : Nat))
  have hK3 := (KeepsOthers.setCell w2 ⟨w.heap.size + 1, 0, none⟩ (.int .i64 (b : Nat))).same D _ hK2 rfl
  refine ⟨by simp, .inl ⟨_, _, rfl, run_takeDeferred hK3, ?_⟩⟩
  have f1 := cell_kept e2.cell (grownBy_putObj' _ D (.deferred none)) (fun r e => by cases e; exact ⟨_, hK3, rfl⟩)
  refine ⟨.int .i64 (b : Nat), ?_, by rw [HC.out], hB5.trans (belowK_b (w := w) (Nat.le_refl _) _ D _ _ (by omega) hK3 rfl rfl)⟩
  simp [results, Tryz.f110, go_sem, f1]
 case stop =>
  rintro D c pre W hD hpre ⟨⟨e1, rfl⟩, hB, q, x, rfl, h1, h2⟩ hK
  rw [L.zn1] at e1
  have hC := L.zz8 hr.2.1 hp (by rw [← ha, ← hb]; exact hpre) h1 h2
  clear hp ha hb
  gi_wp2
  refine ⟨by simp, .inl ⟨_, _, rfl, run_takeDeferred hK, ?_⟩⟩
  have f1 := cell_kept e1.cell (grownBy_putObj' _ D (.deferred none)) (fun r e => by cases e; exact ⟨_, hK, rfl⟩)
  refine ⟨.int .i64 (x.1 : Nat), ?_, by rw [hC], hB.trans (belowK_b (w := w) (Nat.le_refl _) _ D _ _ (by omega) hK rfl rfl)⟩
  simp [results, Tryz.f110, go_sem, f1]
theorem z2u (s : Nat) (l : List Nat) (B : Nat) (w : World) (hs : za4 w s l B) (hr : zas l B) (hf : Few l B) :
  Calls Tryz.prog 149 #[.pointer (some ⟨s, 0, none⟩)] w fun e w' => e = .returned (.int .i64 (l.length * wd l.length B + (l.length + top l B) : Nat)) ∧ ∃ m, w' = w.drewN m := by
 obtain ⟨gl, Al, cL, gc, gd, gx, A, c, Ad, cd, A1, c1, l1, A0, c0, l0, hb, hl, hc⟩ := hs
 have k3 : w.cell? ⟨s, 3, none⟩ = some (.pointer (some ⟨gl, 0, none⟩)) := hb.cell 3
 have k5 : w.cell? ⟨s, 5, none⟩ = some (.int .i64 (l.length + top l B : Nat)) := hb.cell 5
 have hslt := hb.lt
 have hn := hf.1
 have hwd := zey l.length B hr.1.2
 have htop : (B - 1) / 2 ^ wd l.length B ≤ 100000 := hf.2
 have ht : top l B = (B - 1) / 2 ^ wd l.length B + 1 := rfl
 have hm : l.length * wd l.length B ≤ 12000 * 40 := Nat.mul_le_mul hn hwd
 have HL := hid (fun W hc => zar gl ((lows (wd l.length B) l).length : Nat) W hc)
 have hcl := hl.cells.2
 rw [zbk] at HL hcl
 have hbb : l.length + top l B ≤ 200000 := by omega
 clear hb hl hc hr hf ht htop
 generalize l.length * wd l.length B = a at *
 generalize l.length + top l B = b at *
 have hw : IntKind.i64.wrap ((a : Int) + (b : Int)) = (a : Int) + (b : Int) := by rw [IntKind.wrap_i64]; omega
 go_enter Tryz.func149, Tryz.ntmps149
 go_wp2_with fail
 go_quiet ((go_at_call 94; exact zax (HL.out _ (by exact hcl))))
 go_wp2_with fail
 go_ret
 exact ⟨by go_num, _, rfl⟩
theorem L.zz9 (xs : List Bool) (k n : Nat) (h1 : 1 ≤ n) (hn : n ≤ 64) (h : 64 * k + n ≤ xs.length) : bitsOf (zay (zk xs k) 0 (n : Nat)) n = (xs.drop (64 * k)).take n ∧ zay (zk xs k) 0 (n : Nat) < 2 ^ n := by
 have ht := fun j => zde (zk xs k) 0 n (by omega) h1 hn j
 have e0 : ((0 : Nat) : Int) = 0 := rfl
 rw [e0] at ht
 constructor
 ·apply ziw
  ·rw [zq, List.length_take, List.length_drop]; omega
  ·intro i hi
   rw [zq] at hi
   rw [zcv, zc5, ht i, decide_eq_true hi, Nat.zero_add, zq2, fld_testBit]
   simp; omega
 ·apply Nat.lt_pow_two_of_testBit
  intro j hj
  rw [ht j, decide_eq_false (by omega)]; rfl
theorem L.zx4 (xs : List Bool) (a n : Nat) : xs.take a ++ (xs.drop a).take n = xs.take (a + n) := (List.take_add).symm
theorem ztj (base g gx : Nat) (v : Value) (bs : List Bool) (A : Option Addr) (c : Nat) (xs : List Bool) (w : World) (hb : BuilderAt w base g v bs) (hx : zdt w g v gx A c xs) (hl : bs.length + xs.length ≤ 4294967296) (hbase : base ≤ w.heap.size) :
  Calls Tryz.prog 98 #[.pointer (some ⟨g, 0, none⟩), .pointer (some ⟨gx, 0, none⟩)] w fun e w' => e = .returned (.tuple #[]) ∧ zau w w' base g v (bs ++ xs) := by
 have HB := hid (zau.refl hb)
 have HX := hid (show ∀ wr (v1 : Value), (v1.ownBlock = v.ownBlock ∨ ∃ k, v1.ownBlock = some k ∧ w.heap.size ≤ k) → Only (fun i => i = g ∨ v.ownBlock = some i) w wr → zo wr gx A c xs from fun wr v1 h1 h2 => (hx.put hb h1 h2).row)
 clear hx hb
 have hsm : xs.length ≤ 4294967296 := by omega
 go_enter Tryz.func98, Tryz.ntmps98
 go_wp2_with fail
 go_loopw [4] (fun x wr => ∃ k : Nat, x = .int .i64 (64 * k : Nat) ∧ 64 * k ≤ xs.length + 63 ∧ zau w wr base g v (bs ++ xs.take (64 * k))) (fun x _ => xs.length + 64 - (intOf x).toNat)
 case atStart => exact ⟨0, rfl, by omega, by simpa using HB.out⟩
 case round =>
  obtain ⟨k, rfl, hk, HP⟩ := hrel
  obtain ⟨v1, hb1, hat1, ho1⟩ := id HP
  have hr1 := HX.out wr v1 hat1 ho1
  have hb1z : base ≤ wr.heap.size := by have := ho1.size; omega
  have k1 := hr1.cells.2
  obtain ⟨a, ha⟩ : ∃ a, a = 64 * k := ⟨_, rfl⟩
  rw [← ha] at hk HP hb1 ⊢
  have haw : IntKind.i64.wrap ((a : Int) + 64) = (a : Int) + 64 := by rw [IntKind.wrap_i64]; omega
  rcases Nat.lt_or_ge a xs.length with hlt | hge
  ·have hd : decide ((a : Int) < (xs.length : Int)) = true := decide_eq_true (by omega)
   obtain ⟨n, hn⟩ : ∃ n, n = min 64 (xs.length - a) := ⟨_, rfl⟩
   have hnI : min 64 ((xs.length : Int) - (a : Int)) = (n : Int) := by omega
   have hsw : IntKind.i64.wrap ((xs.length : Int) - (a : Int)) = (xs.length : Int) - (a : Int) := by rw [IntKind.wrap_i64]; omega
   have hak : (a : Int) / 64 = (k : Int) := by omega
   have hakT : (a : Int).tdiv 64 = (k : Int) := by rw [Int.tdiv_eq_ediv_of_nonneg (by omega)]; exact hak
   have hn1 : 1 ≤ n := by omega
   have hn64 : n ≤ 64 := by omega
   have hp := zz9 xs k n hn1 hn64 (by omega)
   rw [← ha] at hp
   have HE := hid (show (bs ++ xs.take a) ++ bitsOf (zay (zk xs k) 0 (n : Nat)) n = bs ++ xs.take (64 * (k + 1)) by
    rw [hp.1, List.append_assoc, zx4]
    rcases Nat.lt_or_ge (xs.length - a) 64 with h | h
    ·rw [List.take_of_length_le (show xs.length ≤ a + n by omega), List.take_of_length_le (show xs.length ≤ 64 * (k + 1) by omega)]
    ·rw [show a + n = 64 * (k + 1) by omega])
   have hlen : (bs ++ xs.take a).length + n ≤ 4294967296 := by rw [List.length_append, List.length_take]; omega
   have hpl := hp.2
   have HW := hid (fun W (hr : zo W gx A c xs) => zdl gx A c xs (k : Nat) W hr)
   rw [zd8] at HW
   have hxl := za3 xs k
   have HA := hid ha
   have HN := hid hn
   clear hp ha hn
   generalize zk xs k = y at *
   have HM2 := hid HA.out
   go_wp2_with fail
   refine (zar gx (xs.length : Nat) _ (by exact k1)).mono ?_
   rintro e w' ⟨rfl, rfl⟩
   go_wp2_with fail
   refine (zar gx (xs.length : Nat) _ (by exact k1)).mono ?_
   rintro e w' ⟨rfl, rfl⟩
   go_wp2_with fail
   refine (HW.out _ hr1).mono ?_
   rintro e w' ⟨rfl, rfl⟩
   go_wp2_with fail
   refine (zeb y 0 n _ hxl).mono ?_
   rintro e w' ⟨rfl, m, rfl⟩
   go_wp2_with fail
   refine (zgc (zay y 0 (n : Nat)) n base g v1 _ _ hpl hn64 hlen (by exact hb1) (by exact hb1z)).mono ?_
   rintro e w2 ⟨rfl, h2⟩
   rw [HE.out] at h2
   have h3 := h2.of_drewN
   have HP2 := HP.trans (fun v3 hb3 => by
    obtain rfl : v3 = v1 := by
     have e0 := hb3.blk.cell 0
     rw [hb1.blk.cell 0] at e0
     simpa using e0.symm
    exact h3)
   go_wp2_with fail
   go_roundw
   case rel => exact ⟨k + 1, by have := HM2.out; go_num, by have := HM2.out; have := HN.out; omega, HP2⟩
   case measure => simp [intOf]; omega
  ·have hd : decide ((a : Int) < (xs.length : Int)) = false := decide_eq_false (by omega)
   have hge2 : xs.length ≤ a := hge
   rw [List.take_of_length_le hge2] at HP
   go_wp2_with fail
   refine (zar gx (xs.length : Nat) _ (by exact k1)).mono ?_
   rintro e w' ⟨rfl, rfl⟩
   go_wp2_with fail
   go_end0
   exact ⟨rfl, HP⟩
theorem zdt.old {w w' : World} {base g : Nat} {v : Value} {bs : List Bool} {gx : Nat} {A : Option Addr} {c : Nat} {ts : List Bool} (h : zo w gx A c ts) (hB : Below w.heap.size w w') (hb : BuilderAt w' base g v bs) (hbase : w.heap.size ≤ base) (hg : w.heap.size ≤ g) : zdt w' g v gx A c ts := by
 refine ⟨h.below hB, h.lst.below hB, fun ad e hne => ?_⟩
 subst e
 have h1 := zzm h.lst hne
 refine ⟨by omega, fun h3 => ?_⟩
 have := (hb.own.lt _ h3).1
 omega
theorem zvc (s : Nat) (l : List Nat) (B : Nat) (w : World) (hs : za4 w s l B) (hT : Tab w) (hr : zas l B) (hf : Few l B) :
  Calls Tryz.prog 99 #[.pointer (some ⟨s, 0, none⟩)] w (zkc w (high (wd l.length B) (top l B) l)) := by
 obtain ⟨gl, Al, cl, gc, gd, gx, A, c, Ad, cd, A1, c1, l1, A0, c0, l0, hb, hl, hc⟩ := hs
 have k0 : w.cell? ⟨s, 0, none⟩ = some (.int .i64 (l.length : Nat)) := hb.cell 0
 have k4 : w.cell? ⟨s, 4, none⟩ = some (.pointer (some ⟨gc, 0, none⟩)) := hb.cell 4
 have k5 : w.cell? ⟨s, 5, none⟩ = some (.int .i64 (l.length + top l B : Nat)) := hb.cell 5
 have hsl := hb.lt
 have hn := hf.1
 have hwd := zey l.length B hr.1.2
 have htop : (B - 1) / 2 ^ wd l.length B ≤ 100000 := hf.2
 have ht : top l B = (B - 1) / 2 ^ wd l.length B + 1 := rfl
 have hup := hr.up (wd l.length B)
 have hla := hr.last (wd l.length B)
 clear hf hr hb hl
 have htb : top l B ≤ 100001 := by omega
 have hlt0 : zu (wd l.length B) 0 l ≤ top l B := by omega
 clear htop ht hla
 generalize top l B = T at *
 generalize wd l.length B = W at *
 have HO := hid (fun i x (hi : i < l.length) (hx : l[i] = x) wr (hw : Below w.heap.size w wr) => by
  have hspl : l.take i ++ l[i] :: l.drop (i + 1) = l := by rw [← List.drop_eq_getElem_cons hi, List.take_append_drop]
  have hli : (l.take i).length = i := by rw [List.length_take]; omega
  have ho := zne (w := W) (top := T) (l1 := l.take i) (l2 := l.drop (i + 1)) (x := l[i]) (by rw [hspl]; exact hup)
  rw [hspl, hli, hx] at ho
  exact zst gc gd gx A c (high W T l) Ad cd A1 c1 l1 A0 c0 l0 i (i + x / 2 ^ W) wr (hc.below hw) (hT.below hw) ho.2.1 ho.1 ho.2.2)
 clear hc
 have hb1 : BuilderAt (w.alloc (.cells #[.slice none 0 0, .int .i64 0] 126)) w.heap.size w.heap.size (.slice none 0 0) [] := BuilderAt.new_at w w.heap.size w.heap.size rfl
 have hB0 : Below w.heap.size w (w.alloc (.cells #[.slice none 0 0, .int .i64 0] 126)) := (Below.refl _ _).alloc (Nat.le_refl _) _
 have h0s : w.heap.size ≤ w.heap.size := Nat.le_refl _
 go_enter Tryz.func99, Tryz.ntmps99
 go_wp2_with fail
 go_loopw [4, 12] (fun part i wr => ∃ (k : Nat) (v1 : Value), k ≤ l.length ∧ i = .int .i64 (k : Nat) ∧ part = .int .i64 (zu W 0 (l.take k) : Nat) ∧ BuilderAt wr w.heap.size w.heap.size v1 (hiL W 0 (l.take k)) ∧ Below w.heap.size w wr) (fun _ i _ => l.length - (intOf i).toNat)
 case atStart => exact ⟨0, _, by omega, rfl, rfl, hb1, hB0⟩
 case round =>
  obtain ⟨k, v1, hk, rfl, rfl, hc1, hB⟩ := hrel
  clear hb1 hB0
  have hsz := hB.size
  rcases Nat.lt_or_ge k l.length with hlt | hge
  ·have hki : (k : Int) < (l.length : Int) := by omega
   have hk0 : (0 : Int) ≤ (k : Int) := by omega
   have hkw := wrap_one k (by omega)
   have k4r := (hB.cell (p := ⟨s, 4, none⟩) hsl).trans k4
   have htk : l.take (k + 1) = l.take k ++ [l[k]] := List.take_succ_eq_append_getElem hlt
   have hspl : l = l.take k ++ l[k] :: l.drop (k + 1) := by rw [← List.drop_eq_getElem_cons hlt, List.take_append_drop]
   have hpu : zu W 0 (l.take k) ≤ l[k] / 2 ^ W := by
    rw [hspl, zbr] at hup
    exact hup.2.1
   have HH := hid (show (hiL W 0 (l.take k) ++ List.replicate (l[k] / 2 ^ W - zu W 0 (l.take k)) false) ++ [true] = hiL W 0 (l.take (k + 1)) by rw [htk, zek]; simp [hiL])
   have HP := hid (show l[k] / 2 ^ W = zu W 0 (l.take (k + 1)) by rw [htk, zcg]; rfl)
   have hlT : l[k] / 2 ^ W ≤ T := by
    have h1 : UpL W (l[k] / 2 ^ W) (l.drop (k + 1)) := by rw [hspl, zbr] at hup; exact hup.2.2
    have h2 := zic W _ _ h1
    rw [hspl, zcg] at hlt0
    exact Nat.le_trans h2 hlt0
   have hlen2 : (hiL W 0 (l.take k)).length + (l[k] / 2 ^ W - zu W 0 (l.take k)) + 1 ≤ 4294967296 := by
    have h1 : UpL W 0 (l.take k) := by rw [hspl, zbr] at hup; exact hup.1
    rw [zcq W _ 0 h1, List.length_take]; omega
   have hO := HO.out k l[k] hlt rfl wr hB
   clear htk hspl
   generalize l[k] / 2 ^ W = q at *
   generalize zu W 0 (l.take k) = p at *
   obtain ⟨P, hP⟩ : ∃ P, P = k + q := ⟨_, rfl⟩
   rw [← hP] at hO
   have hpi : (P : Int) - (k : Int) = (q : Int) := by omega
   clear hP
   have hpw : IntKind.i64.wrap (q : Int) = (q : Int) := by rw [IntKind.wrap_i64]; omega
   have hqp : IntKind.i64.wrap ((q : Int) - (p : Int)) = ((q - p : Nat) : Int) := by rw [IntKind.wrap_i64]; omega
   have HOO := hid hO
   clear hO
   go_wp2_with fail
   refine (HOO.out).mono ?_
   rintro e w1 ⟨rfl, hB1⟩
   have hd1 := hc1.below hB1
   have hBa := hB.trans (hB1.mono hsz)
   have hsa := hBa.size
   clear hB1
   go_wp2_with fail
   refine (zf0 (q - p) w.heap.size w.heap.size v1 (hiL W 0 (l.take k)) _ (by omega) (by exact hd1) (by exact hsa)).mono ?_
   rintro e w2 ⟨rfl, u2, he2, hat2, ho2⟩
   have hBb := hBa.trans (za5 hd1 (Nat.le_refl _) (Nat.le_refl _) hsa ho2)
   have hsb := hBb.size
   go_wp2_with fail
   refine (zox true w.heap.size w.heap.size u2 (hiL W 0 (l.take k) ++ List.replicate (q - p) false) _ (by rw [List.length_append, List.length_replicate]; omega) (by exact he2) (by exact hsb)).mono ?_
   rintro e w3 ⟨rfl, u3, hf2, hat3, ho3⟩
   rw [HH.out] at hf2
   have hBc := hBb.trans (za5 he2 (Nat.le_refl _) (Nat.le_refl _) hsb ho3)
   go_wp2_with fail
   go_roundw
   case rel => exact ⟨k + 1, u3, by omega, by go_num, by rw [← HP.out], hf2, hBc⟩
   case measure => simp [intOf]; omega
  ·obtain rfl : k = l.length := by omega
   rw [List.take_length] at hc1
   rw [List.take_length]
   have hki : ¬ ((l.length : Int) < (l.length : Int)) := by omega
   have hlen := zcq W l 0 hup
   have k5r := (hB.cell (p := ⟨s, 5, none⟩) hsl).trans k5
   generalize hpp : zu W 0 l = p at *
   have hlen2 : (hiL W 0 l).length = l.length + p := by rw [hlen]; omega
   have hcc := hc1.blk.cell 1
   have hcc2 : wr.cell? ⟨w.heap.size, 1, none⟩ = some (.int .i64 (l.length + p : Nat)) := by rw [← hlen2]; exact hcc
   obtain ⟨r, hrr⟩ : ∃ r, r = T - p := ⟨_, rfl⟩
   have hHI := hid (show hiL W 0 l ++ List.replicate r false = high W T l by rw [hrr]; unfold high; rw [hpp])
   have hhl : (high W T l).length = l.length + T := zdv W T l hup (by omega)
   have hsub : IntKind.i64.wrap (((l.length + T : Nat) : Int) - ((l.length + p : Nat) : Int)) = (r : Int) := by rw [IntKind.wrap_i64]; omega
   have hr4 : r ≤ 4294967296 - (hiL W 0 l).length := by omega
   have hh4 : (high W T l).length ≤ 4294967296 := by omega
   have hll4 : (hiL W 0 l).length + r ≤ 4294967296 := by omega
   clear hcc hrr hlen2 hlen hhl hlt0 htb hpp
   generalize l.length + T = N1 at *
   generalize l.length + p = N2 at *
   go_wp2_with fail
   go_region_law (first
    | (refine zca (o := ⟨some 39, _, _, _, _, _⟩) rfl 84 #[.pointer (some ⟨w.heap.size, 0, none⟩)] (by go_simp) ?_; refine (zsk w.heap.size (N2 : Nat) _ (by exact hcc2)).mono ?_; rintro e w' ⟨rfl, rfl⟩; refine ⟨_, rfl, ?_⟩)
    | (refine zca (o := ⟨some 41, _, _, _, _, _⟩) rfl 81 #[.pointer (some ⟨w.heap.size, 0, none⟩), .int .i64 (r : Nat)] (by go_simp) ?_
       refine (zf0 r w.heap.size w.heap.size v1 (hiL W 0 l) _ hll4 (by exact hc1) (by exact hsz)).mono ?_
       rintro e w2 ⟨rfl, u2, he2, hat2, ho2⟩
       refine ⟨_, rfl, ?_⟩))
   all_goals
    rw [hHI.out] at he2
    have hBb := hB.trans (za5 hc1 (Nat.le_refl _) (Nat.le_refl _) hsz (Only.of_drewN ho2))
    have hsb := hBb.size
    go_wp2_with fail
    refine (zg0 _ _ u2 (high W T l) _ (by exact he2) hh4).mono ?_
    rintro e w4 ⟨gx, Ax, cx, rfl, hrx, hgx, hAx, hB4⟩
    go_wp2_with fail
    go_ret
    exact ⟨gx, Ax, cx, rfl, hrx, by omega, fun ad e => by have := hAx ad e; omega, hBb.trans (hB4.mono hsb)⟩
theorem ztk (s : Nat) (l : List Nat) (B : Nat) (w : World) (hs : za4 w s l B) (hT : Tab w) (hr : zas l B) (hf : Few l B) :
  Calls Tryz.prog 36 #[.pointer (some ⟨s, 0, none⟩)] w fun e w' => e = .returned (.string ⟨(zy (seqB (wd l.length B) (top l B) l B)).toArray⟩) ∧ Below w.heap.size w w' := by
 have HHR := hid (fun W (hW : Below w.heap.size w W) => zvc s l B W (hs.below hW) (hT.below hW) hr hf)
 obtain ⟨gl, Al, cl, gc, gd, gx, A, c, Ad, cd, A1, c1, l1, A0, c0, l0, hb, hl, hc⟩ := hs
 have k0 : w.cell? ⟨s, 0, none⟩ = some (.int .i64 (l.length : Nat)) := hb.cell 0
 have k1 : w.cell? ⟨s, 1, none⟩ = some (.int .i64 (B : Nat)) := hb.cell 1
 have k3 : w.cell? ⟨s, 3, none⟩ = some (.pointer (some ⟨gl, 0, none⟩)) := hb.cell 3
 have hsl := hb.lt
 have hn := hf.1
 have hwd := zey l.length B hr.1.2
 have htop : (B - 1) / 2 ^ wd l.length B ≤ 100000 := hf.2
 have ht : top l B = (B - 1) / 2 ^ wd l.length B + 1 := rfl
 have hup := hr.up (wd l.length B)
 have hla := hr.last (wd l.length B)
 have hBb := hr.1
 clear hf hr hb hc
 have htb : top l B ≤ 100001 := by omega
 have hlt0 : zu (wd l.length B) 0 l ≤ top l B := by omega
 clear htop ht hla
 generalize top l B = T at *
 generalize wd l.length B = W at *
 have HS := hid (show bitsOf l.length 24 ++ (bitsOf B 41 ++ (lows W l ++ high W T l)) = seqB W T l B from rfl)
 have hsz4 := zeu W T l B hup hlt0
 have hwl : l.length * W ≤ 12000 * 40 := Nat.mul_le_mul hn hwd
 have hlo := zbk W l
 have hhi := zdv W T l hup hlt0
 have hb0 : BuilderAt (w.alloc (.cells #[.slice none 0 0, .int .i64 0] 126)) w.heap.size w.heap.size (.slice none 0 0) [] := BuilderAt.new_at w w.heap.size w.heap.size rfl
 have hB0 : Below w.heap.size w (w.alloc (.cells #[.slice none 0 0, .int .i64 0] 126)) := (Below.refl _ _).alloc (Nat.le_refl _) _
 have hz0 := hB0.size
 have hnw : IntKind.u64.wrap (l.length : Int) = (l.length : Int) := by rw [IntKind.wrap_u64]; omega
 have hBw : IntKind.u64.wrap (B : Int) = (B : Int) := by rw [IntKind.wrap_u64]; omega
 have hn24 : l.length < 2 ^ 24 := by omega
 have hB41 : B < 2 ^ 41 := by omega
 have q0 := fun W (h : Below w.heap.size w W) => (h.cell (p := ⟨s, 0, none⟩) hsl).trans k0
 have q1 := fun W (h : Below w.heap.size w W) => (h.cell (p := ⟨s, 1, none⟩) hsl).trans k1
 have q3 := fun W (h : Below w.heap.size w W) => (h.cell (p := ⟨s, 3, none⟩) hsl).trans k3
 have Q1 := hid q1
 have Q3 := hid q3
 have kk0 := q0 _ hB0
 clear q0 q1 q3 k1 k3
 generalize hgl : lows W l = lo at *
 generalize hgh : high W T l = hi at *
 clear hgl hgh
 go_enter Tryz.func36, Tryz.ntmps36
 go_wp2_with fail
 refine (zgc l.length 24 w.heap.size w.heap.size _ [] _ hn24 (by omega) (by simp) (by exact hb0) (by exact hz0)).mono ?_
 rintro e w1 ⟨rfl, v1, hb1, hat1, ho1⟩
 have hBa := hB0.trans (za5 hb0 (Nat.le_refl _) (Nat.le_refl _) hz0 (by first | exact ho1 | exact Only.of_drewN ho1))
 have hza := hBa.size
 have kk1 := Q1.out _ hBa
 go_wp2_with fail
 refine (zgc B 41 w.heap.size w.heap.size v1 ([] ++ bitsOf l.length 24) _ hB41 (by omega) (by simp [zq]) (by exact hb1) (by exact hza)).mono ?_
 rintro e w2 ⟨rfl, v2, hb2, hat2, ho2⟩
 have hBc := hBa.trans (za5 hb1 (Nat.le_refl _) (Nat.le_refl _) hza (by first | exact ho2 | exact Only.of_drewN ho2))
 have hzc := hBc.size
 have kk3 := Q3.out _ hBc
 clear hBa hza hb1
 go_wp2_with fail
 refine (ztj w.heap.size w.heap.size gl v2 _ Al cl lo _ (by exact hb2) (by exact zdt.old hl (by exact hBc) (by exact hb2) (Nat.le_refl _) (Nat.le_refl _)) (by simp [zq]; omega) (by exact hzc)).mono ?_
 rintro e w3 ⟨rfl, v3, hb3, hat3, ho3⟩
 have hBd := hBc.trans (za5 hb2 (Nat.le_refl _) (Nat.le_refl _) hzc (by first | exact ho3 | exact Only.of_drewN ho3))
 have hzd := hBd.size
 clear hBc hzc hb2
 go_wp2_with fail
 refine (HHR.out _ (by exact hBd)).mono ?_
 rintro e w4 ⟨gh, Ah, ch, rfl, hrh, hgh, hAh, hB4⟩
 have hb4 := hb3.below hB4
 have hBe := hBd.trans (hB4.mono hzd)
 have hze := hBe.size
 go_wp2_with fail
 refine (ztj w.heap.size w.heap.size gh v3 _ Ah ch hi _ (by exact hb4) (by exact zdt.new hrh (by exact hAh) (by exact hb3)) (by simp [zq]; omega) (by exact hze)).mono ?_
 rintro e w5 ⟨rfl, v5, hb5, hat5, ho5⟩
 have hBf := hBe.trans (za5 hb4 (Nat.le_refl _) (Nat.le_refl _) hze (by first | exact ho5 | exact Only.of_drewN ho5))
 have hzf := hBf.size
 rw [List.nil_append, List.append_assoc, List.append_assoc, HS.out] at hb5
 go_wp2_with fail
 refine (zg0 _ _ v5 (seqB W T l B) _ (by exact hb5) (by omega)).mono ?_
 rintro e w6 ⟨gr, Ar, cr, rfl, hrr, _, _, hB6⟩
 have hBg := hBf.trans (hB6.mono hzf)
 have hzg := hBg.size
 go_wp2_with fail
 refine (znl gr Ar cr (seqB W T l B) _ (by exact hrr)).mono ?_
 rintro e w7 ⟨rfl, hB7⟩
 go_wp2_with fail
 go_ret
 exact ⟨rfl, hBg.trans (hB7.mono hzg)⟩
end Go.Proofs.YtgpbpgpolpakjaaGreatDoor
