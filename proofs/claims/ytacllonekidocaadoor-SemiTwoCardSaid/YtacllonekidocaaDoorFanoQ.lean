/- The texts FanoA, FanoB, FanoC, FanoD, FanoE, FanoG, FanoH, FanoI, in one. -/
import Derived.Test.YtacllonekidocaaDoorBitsP
import Derived.Test.YtacllonekidocaaDoorMaths
import Derived.Test.YtacllonekidocaaDoorBase
import Derived.Test.YtacllonekidocaaDoorChooseP
import Derived.RangeFuncNested
import Derived.RangeFuncBox
import Derived.RangeFuncBound
import Derived.RangeFuncCalls
import Derived.RangeFuncLeaves
import Derived.Shelf.Abstract
import Derived.Shelf.RegionOpen
import Derived.WalkKit
import Derived.OwnWalkIn
import Derived.TacticsInMore
import Derived.LoopNIn
import Derived.LoopIn
import Derived.BigQuiet
/- Walks: numbers that rise: the width, the high row's length, which numbers are right; how a row is put. -/



set_option linter.unusedVariables false
set_option linter.unusedSimpArgs false
set_option maxRecDepth 100000
namespace Go.Proofs.YtacllonekidocaaDoor
open Go.RowKit Go.Shelf L

theorem wrap_one (k : Nat) (h : k ≤ 4294967296) : IntKind.i64.wrap ((k : Int) + 1) = (k : Int) + 1 := by rw [IntKind.wrap_i64]; omega
theorem wrap_less (k : Nat) (h : k ≤ 4294967296) : IntKind.i64.wrap ((k : Int) - 1) = (k : Int) - 1 := by rw [IntKind.wrap_i64]; omega
/-- How many bits are low ones. -/
def L.wd (n B : Nat) : Nat := if n = 0 ∨ B < 2 * n then 0 else need (B / n) - 1

theorem wd_le (n B : Nat) (hB : B ≤ 1099511627776) : wd n B ≤ 40 := by
  unfold wd
  split
  · omega
  · rename_i h
    have hq : B / n < 2 ^ 41 := Nat.lt_of_le_of_lt (Nat.div_le_self _ _) (by omega)
    have := (need_le_iff (B / n) 41 (by omega)).2 hq
    omega

set_option maxHeartbeats 1000000 in
theorem width_any (n B : Nat) (w : World) (hn : n ≤ 16777216) (hB : B ≤ 1099511627776) :
    Calls Tryd.prog 23 #[.int .i64 (n : Nat), .int .i64 (B : Nat)] w fun e w' => e = .returned (.int .i64 (wd n B : Nat)) ∧ w = w' := by
  rcases Nat.eq_zero_or_pos n with h0 | h0
  · have g0 : ((n : Int) == 0) = true := by rw [beq_iff_eq]; omega
    have HW := hid (show wd n B = 0 by unfold wd; rw [if_pos (Or.inl h0)])
    clear h0
    go_enter Tryd.func23, Tryd.ntmps23
    go_wp2_with fail
    go_ret
    exact ⟨by rw [HW.out]; rfl, rfl⟩
  · have g0 : ((n : Int) == 0) = false := by rw [beq_eq_false_iff_ne]; omega
    by_cases h2 : B < 2 * n
    · have g1 : decide ((B : Int) < 2 * (n : Int)) = true := decide_eq_true (by omega)
      have HW := hid (show wd n B = 0 by unfold wd; rw [if_pos (Or.inr h2)])
      clear h2
      go_enter Tryd.func23, Tryd.ntmps23
      go_wp2_with fail
      go_ret
      exact ⟨by rw [HW.out]; rfl, rfl⟩
    · have g1 : decide ((B : Int) < 2 * (n : Int)) = false := decide_eq_false (by omega)
      have HW := hid (show wd n B = need (B / n) - 1 by unfold wd; rw [if_neg (by omega)])
      have hq2 : 2 ≤ B / n := (Nat.le_div_iff_mul_le h0).2 (by omega)
      have hqB : B / n ≤ B := Nat.div_le_self _ _
      obtain ⟨q, hq⟩ : ∃ q, q = B / n := ⟨_, rfl⟩
      have hqI : (B : Int) / (n : Int) = (q : Int) := by rw [hq]; simp
      have hqT : (B : Int).tdiv (n : Int) = (q : Int) := by rw [Int.tdiv_eq_ediv_of_nonneg (by omega)]; exact hqI
      rw [← hq] at HW hq2 hqB
      have hqW : IntKind.u64.wrap (q : Int) = (q : Int) := by rw [IntKind.wrap_u64]; omega
      have HN := hid (fun W => wneed_any q W (by omega))
      have hnp := (need_spec q (by omega))
      have hn1 : 1 ≤ need q := by
        rcases Nat.eq_zero_or_pos (need q) with h | h
        · rw [h] at hnp; have := hnp.1; simp at this; omega
        · exact h
      have hnI : ((need q : Nat) : Int) - 1 = ((need q - 1 : Nat) : Int) := by omega
      have HNI := hid hnI
      have hn64 := hnp.2.2
      clear hq hnp hnI h2
      generalize need q = nq at *
      go_enter Tryd.func23, Tryd.ntmps23
      go_wp2_with fail
      (with_reducible refine (HN.out _).mono ?_)
      rintro e w' ⟨rfl, rfl⟩
      go_wp2_with fail
      go_ret
      exact ⟨by rw [HW.out, ← HNI.out]; rfl, rfl⟩

set_option maxHeartbeats 1000000 in
theorem highBits_any (n B wdt : Nat) (w : World) (hn : n ≤ 16777216) (h1 : 1 ≤ B) (hB : B ≤ 1099511627776) (hw : wdt ≤ 40) :
    Calls Tryd.prog 27 #[.int .i64 (n : Nat), .int .i64 (B : Nat), .int .i64 (wdt : Nat)] w fun e w' => e = .returned (.int .i64 (n + (B - 1) / 2 ^ wdt + 1 : Nat)) ∧ w = w' := by
  obtain ⟨q, hq⟩ : ∃ q, q = (B - 1) / 2 ^ wdt := ⟨_, rfl⟩
  have hqB : q ≤ B - 1 := by rw [hq]; exact Nat.div_le_self _ _
  have hqI : ((B : Int) - 1) / 2 ^ wdt = (q : Int) := by
    rw [hq, show (B : Int) - 1 = ((B - 1 : Nat) : Int) from by omega]; norm_cast
  have hB1 : IntKind.i64.wrap ((B : Int) - 1) = (B : Int) - 1 := by rw [IntKind.wrap_i64]; omega
  rw [← hq]
  clear hq
  go_enter Tryd.func27, Tryd.ntmps27
  go_wp2_with fail
  go_ret
  exact ⟨by go_num, rfl⟩

/-- From a least number on the numbers rise, all less than a bound. -/
def L.okFrom (last B : Int) : List Int → Bool
  | [] => true
  | x :: l => decide (last ≤ x) && decide (x < B) && okFrom x B l
def L.RightZ (zs : List Int) (B : Int) : Prop := (1 ≤ B ∧ B ≤ 1099511627776 ∧ zs.length < 16777216) ∧ okFrom 0 B zs = true
def ints (zs : List Int) : List Value := zs.map (Value.int .i64)

set_option maxHeartbeats 2000000 in
theorem right_any (A : Option Addr) (c : Nat) (zs : List Int) (B : Int) (w : World) (hl : Lst w A (ints zs)) (hn : zs.length ≤ 1000000) :
    Calls Tryd.prog 22 #[.slice A zs.length c, .int .i64 B] w fun e w' => ∃ ok, e = .returned (.bool ok) ∧ w = w' ∧ (ok = true ↔ RightZ zs B) := by
  by_cases hb : B < 1 ∨ 1099511627776 < B
  · have HN := hid (show ¬ RightZ zs B from fun h => by have := h.1; omega)
    by_cases h1 : B < 1
    · have g1 : decide (B < 1) = true := decide_eq_true h1
      go_enter Tryd.func22, Tryd.ntmps22
      go_wp2_with fail
      go_ret
      first | exact ⟨false, rfl, rfl, (fun h => by cases h), (fun h => absurd h HN.out)⟩ | exact Or.inl ⟨rfl, rfl, HN.out⟩
    · have g1 : decide (B < 1) = false := decide_eq_false h1
      have g2 : decide (B > 1099511627776) = true := decide_eq_true (by omega)
      go_enter Tryd.func22, Tryd.ntmps22
      go_wp2_with fail
      go_ret
      first | exact ⟨false, rfl, rfl, (fun h => by cases h), (fun h => absurd h HN.out)⟩ | exact Or.inl ⟨rfl, rfl, HN.out⟩
  · have g1 : decide (B < 1) = false := decide_eq_false (by omega)
    have g2 : decide (B > 1099511627776) = false := decide_eq_false (by omega)
    have g3 : decide ((zs.length : Int) > 16777215) = false := decide_eq_false (by omega)
    have g3N : ¬ (16777215 < zs.length) := by omega
    have HB := hid (show (1 ≤ B ∧ B ≤ 1099511627776 ∧ zs.length < 16777216) by omega)
    have g1N : ¬ (B < 1) := by omega
    clear hb
    go_enter Tryd.func22, Tryd.ntmps22
    go_wp2_with fail
    go_loop [5, 21] (fun lv iv => ∃ (last : Int) (i : Nat), lv = .int .i64 last ∧ iv = .int .i64 (i : Nat) ∧ i ≤ zs.length ∧ (okFrom 0 B zs = okFrom last B (zs.drop i))) (fun _ iv => zs.length - (intOf iv).toNat)
    case atStart => exact ⟨0, 0, rfl, rfl, by omega, rfl⟩
    case round =>
      obtain ⟨last, i, rfl, rfl, hi, hok⟩ := hrel
      have HOK := hid hok
      clear hok
      rcases Nat.lt_or_ge i zs.length with hlt | hge
      · have hii : (i : Int) < (zs.length : Int) := by omega
        have hii2 : decide ((i : Int) < (zs.length : Int)) = true := decide_eq_true hii
        have hi0 : (0 : Int) ≤ (i : Int) := by omega
        have hiW := wrap_one i (by omega)
        obtain ⟨g, o, rfl, _, hc⟩ := hl.lit (by unfold ints; rw [List.length_map]; omega)
        have hcell := hc i (.int .i64 zs[i]) (by unfold ints; rw [List.getElem?_map, List.getElem?_eq_getElem hlt]; rfl)
        have HD := hid (show okFrom last B (zs.drop i) = (decide (last ≤ zs[i]) && decide (zs[i] < B) && okFrom zs[i] B (zs.drop (i + 1))) by rw [List.drop_eq_getElem_cons hlt]; rfl)
        generalize zs[i] = x at *
        clear hc
        by_cases h1 : last ≤ x
        · by_cases h2 : x < B
          · have k1 : decide (x < last) = false := decide_eq_false (by omega)
            have k2 : decide (x ≥ B) = false := decide_eq_false (by omega)
            have HN := hid (show okFrom 0 B zs = okFrom x B (zs.drop (i + 1)) by rw [HOK.out, HD.out, decide_eq_true h1, decide_eq_true h2]; rfl)
            clear h1 h2
            go_wp2_with fail
            go_round
            case rel => exact ⟨x, i + 1, rfl, by go_num, by omega, HN.out⟩
            case measure => simp [intOf]; omega
          · have k1 : decide (x < last) = false := decide_eq_false (by omega)
            have k2 : decide (x ≥ B) = true := decide_eq_true (by omega)
            have HN := hid (show ¬ RightZ zs B from fun h => by have := h.2; rw [HOK.out, HD.out, decide_eq_false h2] at this; simp at this)
            clear h1 h2
            go_wp2_with fail
            go_ret
            first | exact ⟨false, rfl, rfl, (fun h => by cases h), (fun h => absurd h HN.out)⟩ | exact Or.inl ⟨rfl, rfl, HN.out⟩
        · have k1 : decide (x < last) = true := decide_eq_true (by omega)
          have HN := hid (show ¬ RightZ zs B from fun h => by have := h.2; rw [HOK.out, HD.out, decide_eq_false h1] at this; simp at this)
          clear h1
          go_wp2_with fail
          go_ret
          first | exact ⟨false, rfl, rfl, (fun h => by cases h), (fun h => absurd h HN.out)⟩ | exact Or.inl ⟨rfl, rfl, HN.out⟩
      · obtain rfl : i = zs.length := by omega
        have HN := hid (show RightZ zs B from ⟨HB.out, by rw [HOK.out, List.drop_length]; rfl⟩)
        go_wp2_with fail
        go_ret
        first | exact ⟨true, rfl, rfl, (fun _ => HN.out), (fun _ => rfl)⟩ | exact Or.inr ⟨rfl, rfl, HN.out⟩

end Go.Proofs.YtacllonekidocaaDoor

/- Walks: numbers that rise: how a number's bits and 0s are put; a sequence of two rows. -/


set_option linter.unusedVariables false
set_option linter.unusedSimpArgs false
set_option maxRecDepth 100000
namespace Go.Proofs.YtacllonekidocaaDoor
open Go.RowKit Go.Shelf L

theorem L.fieldN_low (v n : Nat) (h1 : 1 ≤ n) (h2 : n ≤ 63) : fieldN v 0 (n : Nat) = v % 2 ^ n := by
  apply Nat.eq_of_testBit_eq
  intro j
  have := fieldN_testBit v 0 n (by omega) h1 (by omega) j
  rw [Int.ofNat_zero] at this
  rw [this, Nat.testBit_mod_two_pow, Nat.zero_add]
theorem L.bitsOf_none (k : Nat) : bitsOf 0 k = List.replicate k false := by
  unfold bitsOf
  apply List.ext_getElem
  · simp
  · intro i h1 h2; simp

theorem PutDone.refl {w : World} {base g : Nat} {v : Value} {bs : List Bool} (hb : BuilderAt w base g v bs) : PutDone w w base g v bs := ⟨v, hb, .inl rfl, Only.refl _ _⟩
theorem PutDone.trans {w w1 w2 : World} {base g : Nat} {v : Value} {bs1 bs2 : List Bool} (h : PutDone w w1 base g v bs1) (h2 : ∀ v1, BuilderAt w1 base g v1 bs1 → PutDone w1 w2 base g v1 bs2) : PutDone w w2 base g v bs2 := by
  obtain ⟨v1, hb1, hat1, ho1⟩ := h
  obtain ⟨v2, hb2, hat2, ho2⟩ := h2 v1 hb1
  have hz := ho1.size
  refine ⟨v2, hb2, ?_, ho1.trans ho2 ?_⟩
  · rcases hat2 with e | ⟨k, e, hk⟩
    · rcases hat1 with e1 | ⟨k, e1, hk⟩
      · exact .inl (e.trans e1)
      · exact .inr ⟨k, e.trans e1, hk⟩
    · exact .inr ⟨k, e, by omega⟩
  · intro i hi hs
    rcases hs with hs | hs
    · exact .inl hs
    · rcases hat1 with e1 | ⟨k, e1, hk⟩
      · exact .inr (e1 ▸ hs)
      · rw [e1] at hs; injection hs with hs; omega
theorem PutDone.of_drewN {w w' : World} {m base g : Nat} {v : Value} {bs' : List Bool} (h : PutDone (w.drewN m) w' base g v bs') : PutDone w w' base g v bs' := by
  obtain ⟨v', hb, hat, ho⟩ := h
  exact ⟨v', hb, hat, ho.of_drewN⟩

set_option maxHeartbeats 1000000 in
theorem fnumber_any (v n base g : Nat) (vb : Value) (bs : List Bool) (w : World) (hv : v < 2199023255552) (hn : n ≤ 41) (hl : bs.length + n ≤ 4294967296) (hb : BuilderAt w base g vb bs) (hbase : base ≤ w.heap.size) :
    Calls Tryd.prog 24 #[.pointer (some ⟨g, 0, none⟩), .int .i64 (v : Nat), .int .i64 (n : Nat)] w fun e w' => e = .returned (.tuple #[]) ∧ PutDone w w' base g vb (bs ++ bitsOf (v % 2 ^ n) n) := by
  rcases Nat.eq_zero_or_pos n with h0 | h0
  · subst h0
    have HB := hid (PutDone.refl hb)
    clear hb
    go_enter Tryd.func24, Tryd.ntmps24
    go_wp2_with fail
    go_end0
    exact ⟨rfl, by simpa [bitsOf] using HB.out⟩
  · have hi : (0 : Int) < (n : Int) := by omega
    have hvw : IntKind.u64.wrap (v : Int) = (v : Int) := by rw [IntKind.wrap_u64]; omega
    have hf := fieldN_low v n h0 (by omega)
    have HF := hid hf
    have hlt : fieldN v 0 (n : Nat) < 2 ^ n := by rw [hf]; exact Nat.mod_lt _ (Nat.two_pow_pos n)
    clear hf h0
    go_enter Tryd.func24, Tryd.ntmps24
    go_wp2_with fail
    refine (field_any v 0 n _ (by omega)).mono ?_
    rintro e w' ⟨rfl, m, rfl⟩
    go_wp2_with fail
    refine (put_ok (fieldN v 0 (n : Nat)) n base g vb bs _ hlt (by omega) hl (by exact hb) (by exact hbase)).mono ?_
    rintro e w2 ⟨rfl, h⟩
    go_wp2
    go_end0
    rw [HF.out] at h
    exact ⟨rfl, h.of_drewN⟩

set_option maxHeartbeats 1000000 in
theorem noughts_any (n base g : Nat) (v : Value) (bs : List Bool) (w : World) (hl : bs.length + n ≤ 4294967296) (hb : BuilderAt w base g v bs) (hbase : base ≤ w.heap.size) :
    Calls Tryd.prog 25 #[.pointer (some ⟨g, 0, none⟩), .int .i64 (n : Nat)] w fun e w' => e = .returned (.tuple #[]) ∧ PutDone w w' base g v (bs ++ List.replicate n false) := by
  have HB := hid (PutDone.refl hb)
  clear hb
  go_enter Tryd.func25, Tryd.ntmps25
  go_wp2_with fail
  go_loopw [1, 4] (fun x t wr => ∃ j : Nat, j ≤ n ∧ x = .int .i64 (n - j : Nat) ∧ PutDone w wr base g v (bs ++ List.replicate j false)) (fun x _ _ => (intOf x).toNat)
  case atStart => exact ⟨0, by omega, rfl, by simpa using HB.out⟩
  case round =>
    obtain ⟨j, hj, rfl, HP⟩ := hrel
    rcases Nat.lt_or_ge j n with hlt | hge
    · obtain ⟨r, hr⟩ : ∃ r, r = n - j := ⟨_, rfl⟩
      rw [← hr]
      have hr0 : (0 : Int) < (r : Int) := by omega
      obtain ⟨k, hk⟩ : ∃ k, k = min r 64 := ⟨_, rfl⟩
      have hkI : min (r : Int) 64 = (k : Nat) := by omega
      have hsb : (r : Int) - (k : Int) = ((r - k : Nat) : Int) := by omega
      have hw : IntKind.i64.wrap ((r - k : Nat) : Int) = ((r - k : Nat) : Int) := by rw [IntKind.wrap_i64]; omega
      have hk1 : k ≤ 64 := by omega
      have hk2 : 0 < k := by omega
      have hk3 : j + k ≤ n := by omega
      have H := hid (show (bs ++ List.replicate j false) ++ bitsOf 0 k = bs ++ List.replicate (j + k) false by rw [bitsOf_none, List.append_assoc, List.replicate_append_replicate])
      have HR := hid (show r - k = n - (j + k) by omega)
      have hlen : (bs ++ List.replicate j false).length + k ≤ 4294967296 := by rw [List.length_append, List.length_replicate]; omega
      obtain ⟨v1, hb1, hat1, ho1⟩ := id HP
      have hb1z : base ≤ wr.heap.size := by have := ho1.size; omega
      have hm : r - k < r := by omega
      have hkr : k ≤ r := by omega
      clear hk hr
      go_wp2_with fail
      refine (put_ok 0 k base g v1 _ _ (Nat.two_pow_pos k) hk1 hlen (by exact hb1) (by exact hb1z)).mono ?_
      rintro e w2 ⟨rfl, v2, hb2, hat2, ho2⟩
      rw [H.out] at hb2
      have HP2 : PutDone w w2 base g v (bs ++ List.replicate (j + k) false) := (show PutDone w wr base g v (bs ++ List.replicate j false) from ⟨v1, hb1, hat1, ho1⟩).trans (fun v3 hb3 => by
        obtain rfl : v3 = v1 := by
          have e0 := hb3.blk.cell 0
          rw [hb1.blk.cell 0] at e0
          simpa using e0.symm
        exact ⟨v2, hb2, hat2, ho2⟩)
      go_wp2
      go_roundw
      case rel => exact ⟨j + k, hk3, by rw [← HR.out], HP2⟩
      case measure => simp [intOf]; omega
    · obtain rfl : j = n := by omega
      rw [Nat.sub_self]
      go_wp2_with fail
      go_end0
      exact ⟨rfl, HP⟩

set_option maxHeartbeats 1000000 in
theorem build_any (n B gl gx : Nat) (Al : Option Addr) (cl : Nat) (low : List Bool) (A : Option Addr) (c : Nat) (hi : List Bool) (w : World) (hn : n ≤ 16777216) (hB : B ≤ 1099511627776) (hl : RowAt w gl Al cl low) (hh : RowAt w gx A c hi) :
    Calls Tryd.prog 29 #[.int .i64 (n : Nat), .int .i64 (B : Nat), .pointer (some ⟨gl, 0, none⟩), .pointer (some ⟨gx, 0, none⟩)] w fun e w' => ∃ s gc gd Ad cd A1 c1 l1 A0 c0 l0, e = .returned (.pointer (some ⟨s, 0, none⟩)) ∧
      BlkIs w' s 73 #[.int .i64 (n : Nat), .int .i64 (B : Nat), .int .i64 (wd n B : Nat), .pointer (some ⟨gl, 0, none⟩), .pointer (some ⟨gc, 0, none⟩), .int .i64 (hi.length : Nat)] ∧
      ChooserAt w' gc gd gx A c hi Ad cd A1 c1 l1 A0 c0 l0 ∧ RowAt w' gl Al cl low ∧ Below w.heap.size w w' ∧ w.heap.size ≤ s := by
  have HW := hid (fun W => width_any n B W hn hB)
  have HN := hid (fun W hW => chooseNew_any gx A c hi W hW)
  have HL := hid (fun W hc => rlen_any gx (hi.length : Nat) W hc)
  have HH := hid hh
  clear hh
  go_enter Tryd.func29, Tryd.ntmps29
  go_wp2_with fail
  (with_reducible refine (HW.out _).mono ?_)
  rintro e w' ⟨rfl, rfl⟩
  go_wp2_with fail
  refine (HN.out _ (by exact HH.out)).mono ?_
  rintro e w1 ⟨gc, gd, Ad, cd, A1, c1, l1, A0, c0, l0, rfl, hC, hB1, hg1⟩
  go_wp2_with fail
  refine (HL.out _ (by exact (hC.dir.row.cells).2)).mono ?_
  rintro e w' ⟨rfl, rfl⟩
  go_wp2_with fail
  go_ret
  have hz := hB1.size
  refine ⟨w1.heap.size, gc, gd, Ad, cd, A1, c1, l1, A0, c0, l0, rfl, BlkIs.new _ _ _, hC.below ((Below.refl _ _).alloc (Nat.le_refl _) _), (hl.below hB1).below ((Below.refl _ _).alloc (Nat.le_refl _) _), hB1.alloc hz _, hz⟩

end Go.Proofs.YtacllonekidocaaDoor

/- Walks: numbers that rise: the sequence of some numbers is made. -/

set_option linter.unusedVariables false
set_option linter.unusedSimpArgs false
set_option maxRecDepth 100000
namespace Go.Proofs.YtacllonekidocaaDoor
open Go.RowKit Go.Shelf L

/-- Numbers that a sequence may have. -/
def L.RightN (l : List Nat) (B : Nat) : Prop := (1 ≤ B ∧ B ≤ 1099511627776) ∧ Ris l ∧ ∀ x ∈ l, x < B
theorem L.okFrom_nat : ∀ (zs : List Int) (p B : Int), 0 ≤ p → okFrom p B zs = true → ∃ l : List Nat, zs = l.map (fun x : Nat => (x : Int)) ∧ l.Pairwise (· ≤ ·) ∧ ∀ x ∈ l, p ≤ (x : Int) ∧ (x : Int) < B
  | [], p, B, _, _ => ⟨[], rfl, List.Pairwise.nil, fun x h => by cases h⟩
  | z :: zs, p, B, hp, h => by
    simp only [okFrom, Bool.and_eq_true, decide_eq_true_eq] at h
    obtain ⟨l, rfl, h1, h2⟩ := okFrom_nat zs z B (by omega) h.2
    obtain ⟨k, rfl⟩ := Int.eq_ofNat_of_zero_le (show 0 ≤ z by omega)
    refine ⟨k :: l, rfl, List.pairwise_cons.2 ⟨fun x hx => by have := h2 x hx; omega, h1⟩, fun x hx => ?_⟩
    rcases List.mem_cons.1 hx with e | e
    · subst e; exact h.1
    · have := h2 x e; omega
theorem L.nat_okFrom : ∀ (l : List Nat) (p B : Int), l.Pairwise (· ≤ ·) → (∀ x ∈ l, p ≤ (x : Int) ∧ (x : Int) < B) → okFrom p B (l.map (fun x : Nat => (x : Int))) = true
  | [], _, _, _, _ => rfl
  | x :: l, p, B, h, h2 => by
    have h' := List.pairwise_cons.1 h
    simp only [List.map_cons, okFrom, Bool.and_eq_true, decide_eq_true_eq]
    refine ⟨h2 x (List.mem_cons_self ..), nat_okFrom l x B h'.2 (fun y hy => ?_)⟩
    have := h'.1 y hy
    have := h2 y (List.mem_cons_of_mem _ hy)
    omega
theorem L.rightZ_nat {zs : List Int} {B : Int} (h : RightZ zs B) : ∃ (l : List Nat) (b : Nat), B = (b : Nat) ∧ zs = l.map (fun x : Nat => (x : Int)) ∧ RightN l b ∧ l.length < 16777216 := by
  obtain ⟨⟨h1, h2, h3⟩, h4⟩ := h
  obtain ⟨l, rfl, h5, h6⟩ := okFrom_nat zs 0 B (Int.le_refl _) h4
  obtain ⟨b, rfl⟩ := Int.eq_ofNat_of_zero_le (show 0 ≤ B by omega)
  rw [List.length_map] at h3
  exact ⟨l, b, rfl, rfl, ⟨by omega, h5, fun x hx => by have := h6 x hx; omega⟩, h3⟩
theorem L.RightN.z {l : List Nat} {b : Nat} (h : RightN l b) (hn : l.length < 16777216) : RightZ (l.map (fun x : Nat => (x : Int))) (b : Nat) :=
  ⟨⟨by have := h.1; omega, by have := h.1; omega, by rw [List.length_map]; exact hn⟩, nat_okFrom l 0 b h.2.1 (fun x hx => by have := h.2.2 x hx; omega)⟩
theorem ints_nat (l : List Nat) : ints (l.map (fun x : Nat => (x : Int))) = natCells l := by unfold ints natCells; rw [List.map_map]; rfl

/-- Not too many bits. -/
def L.Few (l : List Nat) (B : Nat) : Prop := l.length ≤ 10000 ∧ (B - 1) / 2 ^ wd l.length B ≤ 100000
/-- How many 0s the high row has. -/
def L.top (l : List Nat) (B : Nat) : Nat := (B - 1) / 2 ^ wd l.length B + 1
theorem L.RightN.up {l : List Nat} {B : Nat} (h : RightN l B) (w : Nat) : UpL w 0 l := Ris.up w l 0 h.2.1 (fun _ _ => Nat.zero_le _)
theorem L.RightN.part {l : List Nat} {B : Nat} (h : RightN l B) (w : Nat) {x : Nat} (hx : x ∈ l) : x / 2 ^ w ≤ (B - 1) / 2 ^ w := div_mono w (by have := h.2.2 x hx; omega)
theorem L.RightN.last {l : List Nat} {B : Nat} (h : RightN l B) (w : Nat) : lastP w 0 l ≤ (B - 1) / 2 ^ w := lastP_le w _ l 0 (Nat.zero_le _) (fun x hx => h.part w hx)

/-- A sequence at block s. -/
def SeqAt (w : World) (s : Nat) (l : List Nat) (B : Nat) : Prop :=
  ∃ gl Al cl gc gd gx A c Ad cd A1 c1 l1 A0 c0 l0, BlkIs w s 73 #[.int .i64 (l.length : Nat), .int .i64 (B : Nat), .int .i64 (wd l.length B : Nat), .pointer (some ⟨gl, 0, none⟩), .pointer (some ⟨gc, 0, none⟩), .int .i64 (l.length + top l B : Nat)] ∧
    RowAt w gl Al cl (lows (wd l.length B) l) ∧ ChooserAt w gc gd gx A c (high (wd l.length B) (top l B) l) Ad cd A1 c1 l1 A0 c0 l0
theorem SeqAt.below {w w' : World} {s : Nat} {l : List Nat} {B : Nat} (h : SeqAt w s l B) (hb : Below w.heap.size w w') : SeqAt w' s l B := by
  obtain ⟨gl, Al, cl, gc, gd, gx, A, c, Ad, cd, A1, c1, l1, A0, c0, l0, h1, h2, h3⟩ := h
  exact ⟨gl, Al, cl, gc, gd, gx, A, c, Ad, cd, A1, c1, l1, A0, c0, l0, h1.below hb, h2.below hb, h3.below hb⟩

/-- Two builders apart. -/
def Apart (ga : Nat) (va : Value) (gb : Nat) (vb : Value) : Prop := ga ≠ gb ∧ ∀ k, va.ownBlock = some k → vb.ownBlock ≠ some k
theorem Apart.symm {ga gb : Nat} {va vb : Value} (h : Apart ga va gb vb) : Apart gb vb ga va := ⟨fun e => h.1 e.symm, fun k h1 h2 => h.2 k h2 h1⟩
theorem two_put {w w' : World} {base ga gb : Nat} {va vb v' : Value} {ba bb : List Bool} (ha : BuilderAt w base ga va ba) (hb : BuilderAt w base gb vb bb) (hap : Apart ga va gb vb)
    (hat : v'.ownBlock = va.ownBlock ∨ ∃ k, v'.ownBlock = some k ∧ w.heap.size ≤ k) (ho : Only (fun i => i = ga ∨ va.ownBlock = some i) w w') : BuilderAt w' base gb vb bb ∧ Apart ga v' gb vb := by
  have n1 : va.ownBlock ≠ some gb := hb.blk.ne_own ha.own (by decide)
  have n2 : vb.ownBlock ≠ some ga := ha.blk.ne_own hb.own (by decide)
  refine ⟨BuilderAt.mk (hb.blk.only ho ?_) (own_only hb.own ho ?_), hap.1, fun k hk h2 => ?_⟩
  · rintro (e | e)
    · exact hap.1 e.symm
    · exact n1 e
  · rintro k hk (e | e)
    · exact n2 (by rw [hk, e])
    · exact hap.2 k e hk
  · rcases hat with e | ⟨j, e, hj⟩
    · exact hap.2 k (e ▸ hk) h2
    · rw [e] at hk; injection hk with hk
      have := (hb.own.lt _ h2).2
      omega

set_option maxHeartbeats 1000000 in
theorem make_err (A : Option Addr) (c : Nat) (zs : List Int) (B : Int) (w : World) (hl : Lst w A (ints zs)) (hn : zs.length ≤ 1000000) (h : ¬ RightZ zs B) :
    Calls Tryd.prog 12 #[.slice A zs.length c, .int .i64 B] w fun e w' => e = .returned (.tuple #[.pointer none, .int .i64 1]) ∧ w = w' := by
  have HR := hid (show Calls Tryd.prog 22 #[.slice A zs.length c, .int .i64 B] w (fun e w' => e = .returned (.bool false) ∧ w = w') by
    refine (right_any A c zs B w hl hn).mono ?_
    rintro e w' ⟨ok, rfl, rfl, hok⟩
    cases ok
    · exact ⟨rfl, rfl⟩
    · exact absurd (hok.1 rfl) h)
  clear h
  go_enter Tryd.func12, Tryd.ntmps12
  go_wp2_with fail
  (with_reducible refine (HR.out).mono ?_)
  rintro e w' ⟨rfl, rfl⟩
  go_wp2_with fail
  go_ret2
  exact ⟨rfl, rfl⟩

set_option maxHeartbeats 4000000 in
theorem make_ok (A : Option Addr) (c : Nat) (l : List Nat) (B : Nat) (w : World) (hl : Lst w A (natCells l)) (hr : RightN l B) (hf : Few l B) :
    Calls Tryd.prog 12 #[.slice A l.length c, .int .i64 (B : Nat)] w fun e w' => ∃ s, e = .returned (.tuple #[.pointer (some ⟨s, 0, none⟩), .int .i64 0]) ∧ SeqAt w' s l B ∧ Below w.heap.size w w' ∧ w.heap.size ≤ s := by
  have hn : l.length ≤ 10000 := hf.1
  have hB1 := hr.1.1
  have hB2 := hr.1.2
  have HR := hid (show Calls Tryd.prog 22 #[.slice A l.length c, .int .i64 (B : Nat)] w (fun e w' => e = .returned (.bool true) ∧ w = w') by
    have := right_any A c (l.map (fun x : Nat => (x : Int))) (B : Nat) w (by rw [ints_nat]; exact hl) (by rw [List.length_map]; omega)
    rw [List.length_map] at this
    refine this.mono ?_
    rintro e w' ⟨ok, rfl, rfl, hok⟩
    cases ok
    · exact absurd (hok.2 (hr.z (by omega))) (by simp)
    · exact ⟨rfl, rfl⟩)
  have HWD := hid (fun W => width_any l.length B W (by omega) hB2)
  have hwd := wd_le l.length B hB2
  have HHB := hid (fun W => highBits_any l.length B (wd l.length B) W (by omega) hB1 hB2 hwd)
  have htop : (B - 1) / 2 ^ wd l.length B ≤ 100000 := hf.2
  have HBU := hid (fun gl gx Al cl low A c hi W hl hh => build_any l.length B gl gx Al cl low A c hi W (by omega) hB2 hl hh)
  have HS := hid (show ∀ w s, (∃ gl Al cl gc gd gx A c Ad cd A1 c1 l1 A0 c0 l0, BlkIs w s 73 #[.int .i64 (l.length : Nat), .int .i64 (B : Nat), .int .i64 (wd l.length B : Nat), .pointer (some ⟨gl, 0, none⟩), .pointer (some ⟨gc, 0, none⟩), .int .i64 (l.length + ((B - 1) / 2 ^ wd l.length B + 1) : Nat)] ∧
    RowAt w gl Al cl (lows (wd l.length B) l) ∧ ChooserAt w gc gd gx A c (high (wd l.length B) ((B - 1) / 2 ^ wd l.length B + 1) l) Ad cd A1 c1 l1 A0 c0 l0) → SeqAt w s l B from fun w s h => h)
  have hup := hr.up (wd l.length B)
  have hla := hr.last (wd l.length B)
  have hx41 : ∀ x ∈ l, x < 1099511627776 := fun x hx => by have := hr.2.2 x hx; omega
  clear hf hr
  generalize wd l.length B = W at *
  generalize (B - 1) / 2 ^ W = T at *
  have hb1 : BuilderAt ((w.alloc (.cells #[.slice none 0 0, .int .i64 0] 62)).alloc (.cells #[.slice none 0 0, .int .i64 0] 62)) w.heap.size w.heap.size (.slice none 0 0) [] := (BuilderAt.new_at w w.heap.size w.heap.size rfl).below ((Below.refl _ _).alloc (Nat.le_refl _) _)
  have hb2 : BuilderAt ((w.alloc (.cells #[.slice none 0 0, .int .i64 0] 62)).alloc (.cells #[.slice none 0 0, .int .i64 0] 62)) w.heap.size (w.heap.size + 1) (.slice none 0 0) [] := BuilderAt.new_at _ w.heap.size (w.heap.size + 1) (by show _ = (w.heap.push _).size; rw [Array.size_push])
  have hB0 : Below w.heap.size w ((w.alloc (.cells #[.slice none 0 0, .int .i64 0] 62)).alloc (.cells #[.slice none 0 0, .int .i64 0] 62)) := ((Below.refl _ _).alloc (Nat.le_refl _) _).alloc (by show _ ≤ (w.heap.push _).size; rw [Array.size_push]; omega) _
  go_enter Tryd.func12, Tryd.ntmps12
  go_wp2_with fail
  (with_reducible refine (HR.out).mono ?_)
  rintro e w' ⟨rfl, rfl⟩
  go_wp2_with fail
  (with_reducible refine (HWD.out _).mono ?_)
  rintro e w' ⟨rfl, rfl⟩
  go_wp2_with fail
  have h0s : w.heap.size ≤ w.heap.size := Nat.le_refl _
  go_loopw [9, 22] (fun part i wr => ∃ (k : Nat) (v1 v2 : Value), k ≤ l.length ∧ i = .int .i64 (k : Nat) ∧ part = .int .i64 (lastP W 0 (l.take k) : Nat) ∧ BuilderAt wr w.heap.size w.heap.size v1 (lows W (l.take k)) ∧ BuilderAt wr w.heap.size (w.heap.size + 1) v2 (hiL W 0 (l.take k)) ∧ Apart w.heap.size v1 (w.heap.size + 1) v2 ∧ Below w.heap.size w wr) (fun _ i _ => l.length - (intOf i).toNat)
  case atStart => exact ⟨0, _, _, by omega, rfl, rfl, hb1, hb2, ⟨by omega, fun k h => by cases h⟩, hB0⟩
  case round =>
    obtain ⟨k, v1, v2, hk, rfl, rfl, hc1, hc2, hap, hB⟩ := hrel
    clear hb1 hb2 hB0
    rcases Nat.lt_or_ge k l.length with hlt | hge
    · have hki : (k : Int) < (l.length : Int) := by omega
      have hk0 : (0 : Int) ≤ (k : Int) := by omega
      have hkw := wrap_one k (by omega)
      have hsz := hB.size
      obtain ⟨ab, ao, rfl, had, hcl⟩ := hl.lit (by rw [natCells_length]; omega)
      have hcell := (hB.cell (p := ⟨ab, ao + k, none⟩) had).trans (hcl k (.int .i64 (l[k] : Nat)) (by unfold natCells; rw [List.getElem?_map, List.getElem?_eq_getElem hlt]; rfl))
      have htk : l.take (k + 1) = l.take k ++ [l[k]] := List.take_succ_eq_append_getElem hlt
      have hx := hx41 _ (List.getElem_mem hlt)
      have hspl : l = l.take k ++ l[k] :: l.drop (k + 1) := by rw [← List.drop_eq_getElem_cons hlt, List.take_append_drop]
      have hpu : lastP W 0 (l.take k) ≤ l[k] / 2 ^ W := by
        rw [hspl, UpL_append] at hup
        exact hup.2.1
      have HL := hid (show lows W (l.take k) ++ bitsOf (l[k] % 2 ^ W) W = lows W (l.take (k + 1)) by rw [htk, lows_snoc])
      have HH := hid (show (hiL W 0 (l.take k) ++ List.replicate (l[k] / 2 ^ W - lastP W 0 (l.take k)) false) ++ [true] = hiL W 0 (l.take (k + 1)) by rw [htk, hiL_append]; simp [hiL])
      have HP := hid (show l[k] / 2 ^ W = lastP W 0 (l.take (k + 1)) by rw [htk, lastP_append]; rfl)
      have hlT : l[k] / 2 ^ W ≤ T := by
        have h1 : UpL W (l[k] / 2 ^ W) (l.drop (k + 1)) := by rw [hspl, UpL_append] at hup; exact hup.2.2
        have h2 := UpL_le W _ _ h1
        rw [hspl, lastP_append] at hla
        exact Nat.le_trans h2 hla
      have hlen1 : (lows W (l.take k)).length + W ≤ 4294967296 := by
        rw [lows_length, List.length_take]
        have : min k l.length * W ≤ 10000 * 40 := Nat.mul_le_mul (by omega) hwd
        omega
      have hlen2 : (hiL W 0 (l.take k)).length + (l[k] / 2 ^ W - lastP W 0 (l.take k)) + 1 ≤ 4294967296 := by
        have h1 : UpL W 0 (l.take k) := by rw [hspl, UpL_append] at hup; exact hup.1
        rw [hiL_length W _ 0 h1, List.length_take]; omega
      generalize l[k] = x at *
      have hq : (x : Int) / 2 ^ W = ((x / 2 ^ W : Nat) : Int) := by norm_cast
      generalize x / 2 ^ W = q at *
      generalize lastP W 0 (l.take k) = p at *
      have hqp : IntKind.i64.wrap ((q : Int) - (p : Int)) = ((q - p : Nat) : Int) := by rw [IntKind.wrap_i64]; omega
      clear hcl htk hspl
      go_wp2_with fail
      refine (fnumber_any x W w.heap.size w.heap.size v1 _ _ (by omega) (by omega) hlen1 (by exact hc1) (by exact hsz)).mono ?_
      rintro e w1 ⟨rfl, u1, hd1, hat1, ho1⟩
      rw [HL.out] at hd1
      obtain ⟨hd2, hap1⟩ := two_put hc1 hc2 hap hat1 ho1
      have hBa := hB.trans (putDone_below hc1 (Nat.le_refl _) (Nat.le_refl _) hsz ho1)
      have hsa := hBa.size
      go_wp2_with fail
      refine (noughts_any (q - p) w.heap.size (w.heap.size + 1) v2 (hiL W 0 (l.take k)) _ (by omega) (by exact hd2) (by exact hsa)).mono ?_
      rintro e w2 ⟨rfl, u2, he2, hat2, ho2⟩
      obtain ⟨he1, hap2⟩ := two_put hd2 hd1 hap1.symm hat2 ho2
      have hBb := hBa.trans (putDone_below hd2 (Nat.le_succ _) (Nat.le_refl _) hsa ho2)
      have hsb := hBb.size
      go_wp2_with fail
      refine (bit_any true w.heap.size (w.heap.size + 1) u2 (hiL W 0 (l.take k) ++ List.replicate (q - p) false) _ (by rw [List.length_append, List.length_replicate]; omega) (by exact he2) (by exact hsb)).mono ?_
      rintro e w3 ⟨rfl, u3, hf2, hat3, ho3⟩
      obtain ⟨hf1, hap3⟩ := two_put he2 he1 hap2 hat3 ho3
      rw [HH.out] at hf2
      have hBc := hBb.trans (putDone_below he2 (Nat.le_succ _) (Nat.le_refl _) hsb ho3)
      go_wp2_with fail
      go_roundw
      case rel => exact ⟨k + 1, u1, u3, by omega, by go_num, by rw [← HP.out], hf1, hf2, hap3.symm, hBc⟩
      case measure => simp [intOf]; omega
    · obtain rfl : k = l.length := by omega
      rw [List.take_length] at hc1 hc2
      rw [List.take_length]
      have hsz := hB.size
      have hlen := hiL_length W l 0 hup
      generalize hpp : lastP W 0 l = p at *
      have hlen2 : (hiL W 0 l).length = l.length + p := by rw [hlen]; omega
      have HLN := hid hlen2
      have hsub : (l.length : Int) + (T : Int) + 1 - ((l.length : Int) + (p : Int)) = ((T + 1 - p : Nat) : Int) := by omega
      have hcc := hc2.blk.cell 1
      go_wp2_with fail
      (with_reducible refine (HHB.out _).mono ?_)
      rintro e w' ⟨rfl, rfl⟩
      go_wp2_with fail
      refine (blen_any (w.heap.size + 1) (l.length + p : Nat) _ (by rw [← HLN.out]; exact hcc)).mono ?_
      rintro e w' ⟨rfl, rfl⟩
      go_wp2_with fail
      try rw [hsub]
      have hHI := hid (show hiL W 0 l ++ List.replicate (T + 1 - p) false = high W (T + 1) l by unfold high; rw [hpp])
      refine (noughts_any (T + 1 - p) w.heap.size (w.heap.size + 1) v2 (hiL W 0 l) _ (by omega) (by exact hc2) (by exact hsz)).mono ?_
      rintro e w2 ⟨rfl, u2, he2, hat2, ho2⟩
      obtain ⟨he1, hap2⟩ := two_put hc2 hc1 hap.symm hat2 ho2
      rw [hHI.out] at he2
      have hBb := hB.trans (putDone_below hc2 (Nat.le_succ _) (Nat.le_refl _) hsz ho2)
      have hsb := hBb.size
      have hll : (lows W l).length ≤ 4294967296 := by
        rw [lows_length]
        have : l.length * W ≤ 10000 * 40 := Nat.mul_le_mul (by omega) hwd
        omega
      have hhl : (high W (T + 1) l).length = l.length + (T + 1) := high_length W (T + 1) l hup (by omega)
      have HHL := hid hhl
      go_wp2_with fail
      refine (row_any _ _ v1 (lows W l) _ (by exact he1) hll).mono ?_
      rintro e w3 ⟨gl, Al, cL, rfl, hrl, hgl, hAl, hB3⟩
      have hz3 := hB3.size
      go_wp2_with fail
      refine (row_any _ _ u2 (high W (T + 1) l) _ (by exact he2.below hB3) (by rw [hhl]; omega)).mono ?_
      rintro e w4 ⟨gx, Ax, cx, rfl, hrx, hgx, hAx, hB4⟩
      have hz4 := hB4.size
      go_wp2_with fail
      refine (HBU.out gl gx Al cL (lows W l) Ax cx (high W (T + 1) l) _ (by exact hrl.below hB4) (by exact hrx)).mono ?_
      rintro e w5 ⟨s, gc, gd, Ad, cd, A1, c1, l1, A0, c0, l0, rfl, hbk, hch, hlo, hB5, hs⟩
      go_wp2_with fail
      go_ret2
      rw [HHL.out] at hbk
      exact ⟨s, rfl, HS.out _ _ ⟨gl, Al, cL, gc, gd, gx, Ax, cx, Ad, cd, A1, c1, l1, A0, c0, l0, hbk, hlo, hch⟩, ((hBb.trans (hB3.mono hsb)).trans (hB4.mono (by omega))).trans (hB5.mono (by omega)), by omega⟩

end Go.Proofs.YtacllonekidocaaDoor

/- Walks: numbers that rise: a number, and how many stand ahead of a part. -/

set_option linter.unusedVariables false
set_option linter.unusedSimpArgs false
set_option maxRecDepth 100000
namespace Go.Proofs.YtacllonekidocaaDoor
open Go.RowKit Go.Shelf L

theorem quiet_join {P : Program} {f : Nat} {args : Array Value} {v : Value} {w : World} {n : Nat} (h : Calls P f args (w.drewN n) fun e w' => e = .returned v ∧ ∃ m, w' = (w.drewN n).drewN m) :
    Calls P f args (w.drewN n) fun e w'' => e = .returned v ∧ ∃ m, w'' = w.drewN m :=
  h.mono fun _ _ ⟨he, m, hw⟩ => ⟨he, n + m, by rw [hw, World.drewN_drewN]⟩
theorem i64_or_nat (a b : Nat) (ha : a < 9223372036854775808) (hb : b < 9223372036854775808) : bits .or .i64 (a : Int) (b : Int) = ((a ||| b : Nat) : Int) := by
  have hx : a ||| b < 2 ^ 63 := Nat.or_lt_two_pow (by omega) (by omega)
  show IntKind.i64.wrap ((BitVec.ofInt 64 (a : Int) ||| BitVec.ofInt 64 (b : Int)).toNat : Int) = _
  rw [BitVec.toNat_or, ofInt_u64 a (by omega), ofInt_u64 b (by omega), IntKind.wrap_i64]
  omega
theorem L.cl_zero (l : List Nat) : cl l 0 = 0 := List.countP_eq_zero.2 (fun y _ => by simp)
/-- The place that parts the lesser ones from the others. -/
theorem L.cl_parts {l : List Nat} (h : Ris l) (x : Nat) : (∀ y ∈ l.take (cl l x), y < x) ∧ ∀ y ∈ l.drop (cl l x), x ≤ y := by
  constructor
  · intro y hy
    obtain ⟨j, hj, rfl⟩ := List.mem_iff_getElem.1 hy
    rw [List.length_take] at hj
    rw [List.getElem_take]
    exact (cl_lt h (by omega)).2 (by omega)
  · intro y hy
    obtain ⟨j, hj, rfl⟩ := List.mem_iff_getElem.1 hy
    rw [List.length_drop] at hj
    rw [List.getElem_drop]
    have := (cl_lt h (x := x) (j := cl l x + j) (by omega))
    omega
/-- A part's 0, by the numbers ahead of it. -/
theorem L.part_zero {l : List Nat} {w T p : Nat} (hu : UpL w 0 l) (h : Ris l) (hp : p < T) :
    bitAt (high w T l) (cl l ((p + 1) * 2 ^ w) + p) = false ∧ cl l ((p + 1) * 2 ^ w) + p < (high w T l).length ∧ kc false (high w T l) (cl l ((p + 1) * 2 ^ w) + p) = p := by
  obtain ⟨j, hj⟩ : ∃ j, j = cl l ((p + 1) * 2 ^ w) := ⟨_, rfl⟩
  have hc := cl_parts h ((p + 1) * 2 ^ w)
  have hle := cl_le l ((p + 1) * 2 ^ w)
  rw [← hj] at *
  have e : l = l.take j ++ l.drop j := (List.take_append_drop j l).symm
  have hz := zero_at (w := w) (top := T) (l1 := l.take j) (l2 := l.drop j) (p := p) (by rw [← e]; exact hu)
    (lastP_le w p _ 0 (Nat.zero_le _) (fun x hx => by have := (part_lt w x (p + 1)).2 (hc.1 x hx); omega))
    (fun x hx => by
      have hm : x ∈ l.drop j := List.mem_of_mem_head? hx
      have := hc.2 x hm
      have h2 := part_lt w x (p + 1)
      omega) hp
  rw [← e, List.length_take, Nat.min_eq_left hle] at hz
  exact hz

set_option maxHeartbeats 400000 in
theorem seqLen_any (s : Nat) (l : List Nat) (B : Nat) (w : World) (hs : SeqAt w s l B) :
    Calls Tryd.prog 17 #[.pointer (some ⟨s, 0, none⟩)] w fun e w' => e = .returned (.int .i64 (l.length : Nat)) ∧ w = w' := by
  obtain ⟨gl, Al, cl, gc, gd, gx, A, c, Ad, cd, A1, c1, l1, A0, c0, l0, hb, hl, hc⟩ := hs
  have k0 : w.cell? ⟨s, 0, none⟩ = some (.int .i64 (l.length : Nat)) := hb.cell 0
  go_enter Tryd.func17, Tryd.ntmps17
  go_wp2
  go_ret
  exact ⟨rfl, rfl⟩
set_option maxHeartbeats 600000 in
theorem sget_raw (s : Nat) (l : List Nat) (B i : Nat) (w : World) (hs : SeqAt w s l B) (hT : Tab w) (hB2 : B ≤ 1099511627776) (hup : UpL (wd l.length B) 0 l) (hi : i < l.length) (hxB : l[i] < 4611686018427387904) (hf : Few l B) :
    Calls Tryd.prog 34 #[.pointer (some ⟨s, 0, none⟩), .int .i64 (i : Nat)] w fun e w' => e = .returned (.int .i64 (l[i] : Nat)) ∧ Below w.heap.size w w' := by
  obtain ⟨gl, Al, cl, gc, gd, gx, A, c, Ad, cd, A1, c1, l1, A0, c0, l0, hb, hl, hc⟩ := hs
  have k2 : w.cell? ⟨s, 2, none⟩ = some (.int .i64 (wd l.length B : Nat)) := hb.cell 2
  have k3 : w.cell? ⟨s, 3, none⟩ = some (.pointer (some ⟨gl, 0, none⟩)) := hb.cell 3
  have k4 : w.cell? ⟨s, 4, none⟩ = some (.pointer (some ⟨gc, 0, none⟩)) := hb.cell 4
  have hsl := hb.lt
  have hn := hf.1
  have hwd := wd_le l.length B hB2
  have htop : (B - 1) / 2 ^ wd l.length B ≤ 100000 := hf.2
  clear hf
  generalize wd l.length B = W at *
  have hspl : l.take i ++ l[i] :: l.drop (i + 1) = l := by rw [← List.drop_eq_getElem_cons hi, List.take_append_drop]
  have hli : (l.take i).length = i := by rw [List.length_take]; omega
  have ho := one_at (w := W) (top := top l B) (l1 := l.take i) (l2 := l.drop (i + 1)) (x := l[i]) (by rw [hspl]; exact hup)
  have hg := low_get W (l.take i) (l.drop (i + 1)) l[i]
  rw [hspl, hli] at ho hg
  have hlen := lows_length W l
  have hin : i * W + W ≤ (lows W l).length := by
    rw [hlen, ← Nat.succ_mul]; exact Nat.mul_le_mul_right _ hi
  have HO := hid (show ∀ w', Below w.heap.size w w' → _ from fun w' (hw : Below w.heap.size w w') => chOne_at gc gd gx A c (high W (top l B) l) Ad cd A1 c1 l1 A0 c0 l0 i (i + l[i] / 2 ^ W) w' (hc.below hw) (hT.below hw) ho.2.1 ho.1 ho.2.2)
  have HG := hid (fun w' (hw : RowAt w' gl Al cl (lows W l)) => rField_ok gl Al cl (lows W l) (i * W) W w' hw (by omega) hin)
  rw [hg] at HG
  generalize l[i] = x at *
  have hxm : x / 2 ^ W * 2 ^ W + x % 2 ^ W = x := by rw [Nat.mul_comm]; exact Nat.div_add_mod x (2 ^ W)
  have hrlt : x % 2 ^ W < 2 ^ W := Nat.mod_lt _ (Nat.two_pow_pos W)
  have hjoin : x / 2 ^ W * 2 ^ W ||| x % 2 ^ W = x := by rw [nat_join W _ _ (Nat.mul_mod_left _ _) hrlt, hxm]
  have hX : (((x / 2 ^ W : Nat) : Int)) * 2 ^ W = ((x / 2 ^ W * 2 ^ W : Nat) : Int) := by norm_cast
  have hiW : (i : Int) * (W : Int) = ((i * W : Nat) : Int) := by norm_cast
  have hiWb : i * W ≤ 10000 * 40 := Nat.mul_le_mul (by omega) hwd
  have hpi : ((i + x / 2 ^ W : Nat) : Int) - (i : Int) = ((x / 2 ^ W : Nat) : Int) := by omega
  have hqx : x / 2 ^ W ≤ x := Nat.div_le_self _ _
  generalize i * W = m at *
  generalize x / 2 ^ W * 2 ^ W = X at *
  generalize hrr : x % 2 ^ W = r at *
  generalize x / 2 ^ W = q at *
  have hor : bits BinOp.or IntKind.i64 (X : Int) (r : Int) = (x : Int) := by rw [i64_or_nat X r (by omega) (by omega), hjoin]
  have hXw : IntKind.i64.wrap (X : Int) = (X : Int) := by rw [IntKind.wrap_i64]; omega
  have hmw : IntKind.i64.wrap (m : Int) = (m : Int) := by rw [IntKind.wrap_i64]; omega
  have hrw : IntKind.i64.wrap (r : Int) = (r : Int) := by rw [IntKind.wrap_i64]; omega
  generalize hP : i + q = P at *
  clear hjoin hxm hrlt hrr hg ho hup hin hlen hspl hli hc
  have hB0 := Below.refl w.heap.size w
  go_enter Tryd.func34, Tryd.ntmps34
  go_wp2_with fail
  refine (HO.out _ hB0).mono ?_
  rintro e w1 ⟨rfl, hB1⟩
  have k2a := (hB1.cell (p := ⟨s, 2, none⟩) hsl).trans k2
  have k3a := (hB1.cell (p := ⟨s, 3, none⟩) hsl).trans k3
  have hl1 := hl.below hB1
  go_wp2_with fail
  go_quiet ((go_at_call 49; exact quiet_join (HG.out _ (by exact hl1))))
  go_wp2_with fail
  have hB2 : Below w.heap.size w (w1.drewN nq) := ⟨hB1.os, hB1.tape, hB1.output, hB1.size, hB1.block⟩
  go_ret
  exact ⟨rfl, hB2⟩

theorem sget_any (s : Nat) (l : List Nat) (B i : Nat) (w : World) (hs : SeqAt w s l B) (hT : Tab w) (hr : RightN l B) (hf : Few l B) (hi : i < l.length) :
    Calls Tryd.prog 34 #[.pointer (some ⟨s, 0, none⟩), .int .i64 (i : Nat)] w fun e w' => e = .returned (.int .i64 (l[i] : Nat)) ∧ Below w.heap.size w w' :=
  sget_raw s l B i w hs hT hr.1.2 (hr.up _) hi (by have := hr.2.2 _ (List.getElem_mem hi); have := hr.1.2; omega) hf

set_option maxHeartbeats 1000000 in
theorem sGet_in (s : Nat) (l : List Nat) (B i : Nat) (w : World) (hs : SeqAt w s l B) (hT : Tab w) (hr : RightN l B) (hf : Few l B) (hi : i < l.length) :
    Calls Tryd.prog 18 #[.pointer (some ⟨s, 0, none⟩), .int .i64 (i : Nat)] w fun e w' => e = .returned (.tuple #[.int .i64 (l[i] : Nat), .int .i64 0]) ∧ Below w.heap.size w w' := by
  have HG := hid (sget_any s l B i w hs hT hr hf hi)
  obtain ⟨gl, Al, cl, gc, gd, gx, A, c, Ad, cd, A1, c1, l1, A0, c0, l0, hb, hl, hc⟩ := hs
  have k0 : w.cell? ⟨s, 0, none⟩ = some (.int .i64 (l.length : Nat)) := hb.cell 0
  have g0 : decide ((i : Int) < 0) = false := decide_eq_false (by omega)
  have g1 : decide ((i : Int) ≥ (l.length : Int)) = false := decide_eq_false (by omega)
  clear hb hl hc hr hf
  generalize l[i] = x at *
  go_enter Tryd.func18, Tryd.ntmps18
  go_wp2_with fail
  (with_reducible refine (HG.out).mono ?_)
  rintro e w1 ⟨rfl, hB1⟩
  go_wp2_with fail
  go_ret2
  exact ⟨rfl, hB1⟩
set_option maxHeartbeats 1000000 in
theorem sGet_out (s : Nat) (l : List Nat) (B : Nat) (i : Int) (w : World) (hs : SeqAt w s l B) (hi : i < 0 ∨ (l.length : Int) ≤ i) :
    Calls Tryd.prog 18 #[.pointer (some ⟨s, 0, none⟩), .int .i64 i] w fun e w' => e = .returned (.tuple #[.int .i64 0, .int .i64 2]) ∧ w = w' := by
  obtain ⟨gl, Al, cl, gc, gd, gx, A, c, Ad, cd, A1, c1, l1, A0, c0, l0, hb, hl, hc⟩ := hs
  have k0 : w.cell? ⟨s, 0, none⟩ = some (.int .i64 (l.length : Nat)) := hb.cell 0
  clear hb hl hc
  by_cases h0 : i < 0
  · have g0 : decide (i < 0) = true := decide_eq_true h0
    go_enter Tryd.func18, Tryd.ntmps18
    go_wp2_with fail
    go_ret2
    exact ⟨rfl, rfl⟩
  · have g0 : decide (i < 0) = false := decide_eq_false h0
    have g1 : decide (i ≥ (l.length : Int)) = true := decide_eq_true (by omega)
    have g2 : (l.length : Int) ≤ i := by omega
    go_enter Tryd.func18, Tryd.ntmps18
    go_wp2_with fail
    go_ret2
    exact ⟨rfl, rfl⟩

end Go.Proofs.YtacllonekidocaaDoor

/- Walks: numbers that rise: the numbers of a part, one by one. -/













set_option linter.unusedVariables false
set_option linter.unusedSimpArgs false
set_option maxRecDepth 100000
namespace Go.Proofs.YtacllonekidocaaDoor
open Go.RowKit Go.Shelf L
attribute [local go_sem] Oper.semAt_some

theorem abide_below {β : Type} {Bn : Nat} {J : β → World → Prop} (hJ : AbidesFrom Bn J) {s : β} {A A' : World} (h : J s A) (hb : Below A.heap.size A A') : J s A' :=
  hJ s A A' none h ⟨hb.os, hb.tape, hb.output, hb.size, fun k hk _ => hb.block k hk⟩ (fun r e => by cases e)

/-- A number with its place. -/
def amE (p : Nat × Nat) : Array Value := #[.int .i64 (p.1 : Nat), .int .i64 (p.2 : Nat)]
/-- The numbers of some places, with their places. -/
def L.segs (l : List Nat) (a b : Nat) : List (Nat × Nat) := (List.range (b - a)).map fun k => (a + k, l.getD (a + k) 0)
theorem L.segs_length (l : List Nat) (a b : Nat) : (segs l a b).length = b - a := by simp [segs]
theorem L.segs_succ (l : List Nat) {a b i : Nat} (h1 : a ≤ i) (h2 : i < b) : (segs l a b).take (i + 1 - a) = (segs l a b).take (i - a) ++ [(i, l.getD i 0)] := by
  rw [show i + 1 - a = (i - a) + 1 from by omega, List.take_succ_eq_append_getElem (by rw [segs_length]; omega)]
  congr 2
  unfold segs
  rw [List.getElem_map, List.getElem_range, show a + (i - a) = i from by omega]
theorem L.segs_all (l : List Nat) (a b : Nat) : (segs l a b).take (b - a) = segs l a b := List.take_of_length_le (by rw [segs_length]; exact Nat.le_refl _)

end Go.Proofs.YtacllonekidocaaDoor

/- Walks: numbers that rise: how many are less. -/


set_option linter.unusedVariables false
set_option linter.unusedSimpArgs false
set_option maxRecDepth 100000
namespace Go.Proofs.YtacllonekidocaaDoor
open Go.RowKit Go.Shelf L
attribute [local go_sem] Oper.semAt_some

/-- How many are less than a number of whichever sign. -/
def L.clz (l : List Nat) (x : Int) : Nat := cl l x.toNat
theorem L.clz_low (l : List Nat) {x : Int} (h : x ≤ 0) : clz l x = 0 := by unfold clz; rw [show x.toNat = 0 from by omega, cl_zero]
theorem L.clz_high {l : List Nat} {B : Nat} {x : Int} (hl : ∀ y ∈ l, y < B) (h : (B : Int) ≤ x) : clz l x = l.length := by
  unfold clz cl
  rw [List.countP_eq_length]
  intro y hy
  have := hl y hy
  exact decide_eq_true (by omega)
theorem L.cl_mono (l : List Nat) {x y : Nat} (h : x ≤ y) : cl l x ≤ cl l y := by
  unfold cl
  exact List.countP_mono_left (fun z _ hz => by simp at *; omega)

theorem L.segs_mem (l : List Nat) {a b j : Nat} (h1 : a ≤ j) (h2 : j < b) (h3 : j < l.length) : (j, l[j]) ∈ segs l a b := by
  unfold segs
  refine List.mem_map.2 ⟨j - a, List.mem_range.2 (by omega), ?_⟩
  rw [show a + (j - a) = j from by omega, List.getD_eq_getElem?_getD, List.getElem?_eq_getElem h3]; rfl
theorem L.segs_get (l : List Nat) {a b k : Nat} (h : k < (segs l a b).length) : (segs l a b)[k] = (a + k, l.getD (a + k) 0) := by
  simp [segs]
/-- None of a part reaches it: all of the part are less. -/
theorem L.segs_none {l : List Nat} (hr : Ris l) {W X p : Nat} (hp : p = X / 2 ^ W) (h : ∀ x ∈ segs l (cl l (p * 2 ^ W)) (cl l ((p + 1) * 2 ^ W)), x.2 < X) : cl l X = cl l ((p + 1) * 2 ^ W) := by
  have h1 : p * 2 ^ W ≤ X := by rw [hp]; exact Nat.div_mul_le_self _ _
  have h2 : X < (p + 1) * 2 ^ W := (part_lt W X (p + 1)).1 (by omega)
  have hb := cl_le l ((p + 1) * 2 ^ W)
  refine cl_unique hr hb (fun j hj => ?_) (fun hi => ?_)
  · by_cases ha : j < cl l (p * 2 ^ W)
    · have := (cl_lt hr (x := p * 2 ^ W) (show j < l.length by omega)).2 ha
      omega
    · exact h _ (segs_mem l (by omega) hj (by omega))
  · have := (cl_lt hr (x := (p + 1) * 2 ^ W) hi)
    omega
/-- The first of a part that reaches it. -/
theorem L.segs_some {l : List Nat} (hr : Ris l) {W X p : Nat} (hp : p = X / 2 ^ W) {q : List (Nat × Nat)} {x : Nat × Nat} (hq : q ++ [x] <+: segs l (cl l (p * 2 ^ W)) (cl l ((p + 1) * 2 ^ W))) (h1 : X ≤ x.2) (h2 : ∀ y ∈ q, y.2 < X) : cl l X = x.1 := by
  obtain ⟨r, hr'⟩ := hq
  have hb := cl_le l ((p + 1) * 2 ^ W)
  have hlen : q.length < (segs l (cl l (p * 2 ^ W)) (cl l ((p + 1) * 2 ^ W))).length := by rw [← hr']; simp
  have hlen2 := hlen
  rw [segs_length] at hlen2
  have hx : x = (cl l (p * 2 ^ W) + q.length, l.getD (cl l (p * 2 ^ W) + q.length) 0) := by
    rw [← segs_get l hlen]; simp [← hr']
  have hp1 : p * 2 ^ W ≤ X := by rw [hp]; exact Nat.div_mul_le_self _ _
  rw [hx] at h1 ⊢
  refine cl_unique hr (by simp; omega) (fun j hj => ?_) (fun hi => ?_)
  · simp only at hj
    by_cases ha : j < cl l (p * 2 ^ W)
    · have := (cl_lt hr (x := p * 2 ^ W) (show j < l.length by omega)).2 ha
      omega
    · have hk : j - cl l (p * 2 ^ W) < q.length := by omega
      have h3 := h2 _ (List.getElem_mem hk)
      have e : q[j - cl l (p * 2 ^ W)] = (segs l (cl l (p * 2 ^ W)) (cl l ((p + 1) * 2 ^ W)))[j - cl l (p * 2 ^ W)]'(by omega) := by
        simp only [← hr']
        rw [List.getElem_append_left (by simp; omega), List.getElem_append_left hk]
      rw [e, segs_get] at h3
      simp only [List.getD_eq_getElem?_getD] at h3
      rw [show cl l (p * 2 ^ W) + (j - cl l (p * 2 ^ W)) = j from by omega, List.getElem?_eq_getElem (by omega)] at h3
      exact h3
  · simp only [List.getD_eq_getElem?_getD] at h1
    rw [List.getElem?_eq_getElem hi] at h1
    exact h1
def L.lastI (pre : List (Nat × Nat)) : Nat := (pre.getLast?.getD (0, 0)).1
theorem L.lastI_snoc (pre : List (Nat × Nat)) (x : Nat × Nat) : lastI (pre ++ [x]) = x.1 := by unfold lastI; simp

end Go.Proofs.YtacllonekidocaaDoor

/- Walks: numbers that rise: next, the one ahead, has; sizes. -/

set_option linter.unusedVariables false
set_option linter.unusedSimpArgs false
set_option maxRecDepth 100000
namespace Go.Proofs.YtacllonekidocaaDoor
open Go.RowKit Go.Shelf L

/-- The least that isn't less; the greatest that isn't greater. -/
def L.nxt (l : List Nat) (x : Int) : Option Nat := l[clz l x]?
def L.prv (l : List Nat) (x : Int) : Option Nat := if clz l (x + 1) = 0 then none else l[clz l (x + 1) - 1]?
def oN : Option Nat → Value
  | some v => .tuple #[.int .i64 (v : Nat), .bool true]
  | none => .tuple #[.int .i64 0, .bool false]
theorem L.clz_le (l : List Nat) (x : Int) : clz l x ≤ l.length := cl_le _ _

/-- Is a number there? -/
def L.hasN (l : List Nat) (x : Int) : Bool := match nxt l x with
  | some y => decide (x = (y : Int))
  | none => false
end Go.Proofs.YtacllonekidocaaDoor

/- Walks: numbers that rise: a row's bits put; the high row, told anew; the bytes. -/


set_option linter.unusedVariables false
set_option linter.unusedSimpArgs false
set_option maxRecDepth 100000
namespace Go.Proofs.YtacllonekidocaaDoor
open Go.RowKit Go.Shelf L

theorem L.row_piece (xs : List Bool) (k n : Nat) (h1 : 1 ≤ n) (hn : n ≤ 64) (h : 64 * k + n ≤ xs.length) : bitsOf (fieldN (wordAt xs k) 0 (n : Nat)) n = (xs.drop (64 * k)).take n ∧ fieldN (wordAt xs k) 0 (n : Nat) < 2 ^ n := by
  have ht := fun j => fieldN_testBit (wordAt xs k) 0 n (by omega) h1 hn j
  have e0 : ((0 : Nat) : Int) = 0 := rfl
  rw [e0] at ht
  constructor
  · apply ext_bits
    · rw [bitsOf_length, List.length_take, List.length_drop]; omega
    · intro i hi
      rw [bitsOf_length] at hi
      rw [bitAt_bitsOf, bitAt_drop_take, ht i, decide_eq_true hi, Nat.zero_add, wordAt_eq_fld, fld_testBit]
      simp; omega
  · apply Nat.lt_pow_two_of_testBit
    intro j hj
    rw [ht j, decide_eq_false (by omega)]; rfl
theorem L.take_piece (xs : List Bool) (a n : Nat) : xs.take a ++ (xs.drop a).take n = xs.take (a + n) := (List.take_add).symm

/-- A row of old, apart from a builder. -/
theorem RowFar.old {w w' : World} {base g : Nat} {v : Value} {bs : List Bool} {gx : Nat} {A : Option Addr} {c : Nat} {ts : List Bool} (h : RowAt w gx A c ts) (hB : Below w.heap.size w w') (hb : BuilderAt w' base g v bs) (hbase : w.heap.size ≤ base) (hg : w.heap.size ≤ g) : RowFar w' g v gx A c ts := by
  refine ⟨h.below hB, h.lst.below hB, fun ad e hne => ?_⟩
  subst e
  have h1 := lst_lt h.lst hne
  refine ⟨by omega, fun h3 => ?_⟩
  have := (hb.own.lt _ h3).1
  omega

end Go.Proofs.YtacllonekidocaaDoor
