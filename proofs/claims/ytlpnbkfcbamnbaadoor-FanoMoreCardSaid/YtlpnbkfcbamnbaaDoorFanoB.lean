/- Walks: numbers that rise: how a number's bits and 0s are put; a sequence of two rows. -/
import Derived.Test.YtlpnbkfcbamnbaaDoorFanoA
import Derived.Test.YtlpnbkfcbamnbaaDoorChooseE
set_option linter.unusedVariables false
set_option linter.unusedSimpArgs false
set_option maxRecDepth 100000
namespace Go.Proofs.YtlpnbkfcbamnbaaDoor
open Go.RowKit Go.Shelf L

theorem L.fieldN_low (v n : Nat) (h1 : 1 ≤ n) (h2 : n ≤ 63) : fieldN v 0 (n : Nat) = v % 2 ^ n := by
  apply Nat.eq_of_testBit_eq
  intro j
  have := fieldN_testBit v 0 n (by omega) h1 (by omega) j
  rw [Int.ofNat_zero] at this
  rw [this, Nat.testBit_mod_two_pow, Nat.zero_add]
theorem L.bitsOf_none (k : Nat) : bitsOf 0 k = List.replicate k false := by
  unfold bitsOf
  apply List.ext_getElem
  · simp
  · intro i h1 h2; simp

theorem PutDone.refl {w : World} {base g : Nat} {v : Value} {bs : List Bool} (hb : BuilderAt w base g v bs) : PutDone w w base g v bs := ⟨v, hb, .inl rfl, Only.refl _ _⟩
theorem PutDone.trans {w w1 w2 : World} {base g : Nat} {v : Value} {bs1 bs2 : List Bool} (h : PutDone w w1 base g v bs1) (h2 : ∀ v1, BuilderAt w1 base g v1 bs1 → PutDone w1 w2 base g v1 bs2) : PutDone w w2 base g v bs2 := by
  obtain ⟨v1, hb1, hat1, ho1⟩ := h
  obtain ⟨v2, hb2, hat2, ho2⟩ := h2 v1 hb1
  have hz := ho1.size
  refine ⟨v2, hb2, ?_, ho1.trans ho2 ?_⟩
  · rcases hat2 with e | ⟨k, e, hk⟩
    · rcases hat1 with e1 | ⟨k, e1, hk⟩
      · exact .inl (e.trans e1)
      · exact .inr ⟨k, e.trans e1, hk⟩
    · exact .inr ⟨k, e, by omega⟩
  · intro i hi hs
    rcases hs with hs | hs
    · exact .inl hs
    · rcases hat1 with e1 | ⟨k, e1, hk⟩
      · exact .inr (e1 ▸ hs)
      · rw [e1] at hs; injection hs with hs; omega
theorem PutDone.of_drewN {w w' : World} {m base g : Nat} {v : Value} {bs' : List Bool} (h : PutDone (w.drewN m) w' base g v bs') : PutDone w w' base g v bs' := by
  obtain ⟨v', hb, hat, ho⟩ := h
  exact ⟨v', hb, hat, ho.of_drewN⟩

set_option maxHeartbeats 1000000 in
theorem fnumber_any (v n base g : Nat) (vb : Value) (bs : List Bool) (w : World) (hv : v < 2199023255552) (hn : n ≤ 41) (hl : bs.length + n ≤ 4294967296) (hb : BuilderAt w base g vb bs) (hbase : base ≤ w.heap.size) :
    Calls Tryd.prog 56 #[.pointer (some ⟨g, 0, none⟩), .int .i64 (v : Nat), .int .i64 (n : Nat)] w fun e w' => e = .returned (.tuple #[]) ∧ PutDone w w' base g vb (bs ++ bitsOf (v % 2 ^ n) n) := by
  rcases Nat.eq_zero_or_pos n with h0 | h0
  · subst h0
    have HB := hid (PutDone.refl hb)
    clear hb
    go_enter Tryd.func56, Tryd.ntmps56
    go_wp2_with fail
    go_end0
    exact ⟨rfl, by simpa [bitsOf] using HB.out⟩
  · have hi : (0 : Int) < (n : Int) := by omega
    have hvw : IntKind.u64.wrap (v : Int) = (v : Int) := by rw [IntKind.wrap_u64]; omega
    have hf := fieldN_low v n h0 (by omega)
    have HF := hid hf
    have hlt : fieldN v 0 (n : Nat) < 2 ^ n := by rw [hf]; exact Nat.mod_lt _ (Nat.two_pow_pos n)
    clear hf h0
    go_enter Tryd.func56, Tryd.ntmps56
    go_wp2_with fail
    refine (field_any v 0 n _ (by omega)).mono ?_
    rintro e w' ⟨rfl, m, rfl⟩
    go_wp2_with fail
    refine (put_ok (fieldN v 0 (n : Nat)) n base g vb bs _ hlt (by omega) hl (by exact hb) (by exact hbase)).mono ?_
    rintro e w2 ⟨rfl, h⟩
    go_wp2
    go_end0
    rw [HF.out] at h
    exact ⟨rfl, h.of_drewN⟩

set_option maxHeartbeats 1000000 in
theorem noughts_any (n base g : Nat) (v : Value) (bs : List Bool) (w : World) (hl : bs.length + n ≤ 4294967296) (hb : BuilderAt w base g v bs) (hbase : base ≤ w.heap.size) :
    Calls Tryd.prog 57 #[.pointer (some ⟨g, 0, none⟩), .int .i64 (n : Nat)] w fun e w' => e = .returned (.tuple #[]) ∧ PutDone w w' base g v (bs ++ List.replicate n false) := by
  have HB := hid (PutDone.refl hb)
  clear hb
  go_enter Tryd.func57, Tryd.ntmps57
  go_wp2_with fail
  go_loopw [1, 4] (fun x t wr => ∃ j : Nat, j ≤ n ∧ x = .int .i64 (n - j : Nat) ∧ PutDone w wr base g v (bs ++ List.replicate j false)) (fun x _ _ => (intOf x).toNat)
  case atStart => exact ⟨0, by omega, rfl, by simpa using HB.out⟩
  case round =>
    obtain ⟨j, hj, rfl, HP⟩ := hrel
    rcases Nat.lt_or_ge j n with hlt | hge
    · obtain ⟨r, hr⟩ : ∃ r, r = n - j := ⟨_, rfl⟩
      rw [← hr]
      have hr0 : (0 : Int) < (r : Int) := by omega
      obtain ⟨k, hk⟩ : ∃ k, k = min r 64 := ⟨_, rfl⟩
      have hkI : min (r : Int) 64 = (k : Nat) := by omega
      have hsb : (r : Int) - (k : Int) = ((r - k : Nat) : Int) := by omega
      have hw : IntKind.i64.wrap ((r - k : Nat) : Int) = ((r - k : Nat) : Int) := by rw [IntKind.wrap_i64]; omega
      have hk1 : k ≤ 64 := by omega
      have hk2 : 0 < k := by omega
      have hk3 : j + k ≤ n := by omega
      have H := hid (show (bs ++ List.replicate j false) ++ bitsOf 0 k = bs ++ List.replicate (j + k) false by rw [bitsOf_none, List.append_assoc, List.replicate_append_replicate])
      have HR := hid (show r - k = n - (j + k) by omega)
      have hlen : (bs ++ List.replicate j false).length + k ≤ 4294967296 := by rw [List.length_append, List.length_replicate]; omega
      obtain ⟨v1, hb1, hat1, ho1⟩ := id HP
      have hb1z : base ≤ wr.heap.size := by have := ho1.size; omega
      have hm : r - k < r := by omega
      have hkr : k ≤ r := by omega
      clear hk hr
      go_wp2_with fail
      refine (put_ok 0 k base g v1 _ _ (Nat.two_pow_pos k) hk1 hlen (by exact hb1) (by exact hb1z)).mono ?_
      rintro e w2 ⟨rfl, v2, hb2, hat2, ho2⟩
      rw [H.out] at hb2
      have HP2 : PutDone w w2 base g v (bs ++ List.replicate (j + k) false) := (show PutDone w wr base g v (bs ++ List.replicate j false) from ⟨v1, hb1, hat1, ho1⟩).trans (fun v3 hb3 => by
        obtain rfl : v3 = v1 := by
          have e0 := hb3.blk.cell 0
          rw [hb1.blk.cell 0] at e0
          simpa using e0.symm
        exact ⟨v2, hb2, hat2, ho2⟩)
      go_wp2
      go_roundw
      case rel => exact ⟨j + k, hk3, by rw [← HR.out], HP2⟩
      case measure => simp [intOf]; omega
    · obtain rfl : j = n := by omega
      rw [Nat.sub_self]
      go_wp2_with fail
      go_end0
      exact ⟨rfl, HP⟩

set_option maxHeartbeats 1000000 in
theorem build_any (n B gl gx : Nat) (Al : Option Addr) (cl : Nat) (low : List Bool) (A : Option Addr) (c : Nat) (hi : List Bool) (w : World) (hn : n ≤ 16777216) (hB : B ≤ 1099511627776) (hl : RowAt w gl Al cl low) (hh : RowAt w gx A c hi) :
    Calls Tryd.prog 61 #[.int .i64 (n : Nat), .int .i64 (B : Nat), .pointer (some ⟨gl, 0, none⟩), .pointer (some ⟨gx, 0, none⟩)] w fun e w' => ∃ s gc gd Ad cd A1 c1 l1 A0 c0 l0, e = .returned (.pointer (some ⟨s, 0, none⟩)) ∧
      BlkIs w' s 80 #[.int .i64 (n : Nat), .int .i64 (B : Nat), .int .i64 (wd n B : Nat), .pointer (some ⟨gl, 0, none⟩), .pointer (some ⟨gc, 0, none⟩), .int .i64 (hi.length : Nat)] ∧
      ChooserAt w' gc gd gx A c hi Ad cd A1 c1 l1 A0 c0 l0 ∧ RowAt w' gl Al cl low ∧ Below w.heap.size w w' ∧ w.heap.size ≤ s := by
  have HW := hid (fun W => width_any n B W hn hB)
  have HN := hid (fun W hW => chooseNew_any gx A c hi W hW)
  have HL := hid (fun W hc => rlen_any gx (hi.length : Nat) W hc)
  have HH := hid hh
  clear hh
  go_enter Tryd.func61, Tryd.ntmps61
  go_wp2_with fail
  (with_reducible refine (HW.out _).mono ?_)
  rintro e w' ⟨rfl, rfl⟩
  go_wp2_with fail
  refine (HN.out _ (by exact HH.out)).mono ?_
  rintro e w1 ⟨gc, gd, Ad, cd, A1, c1, l1, A0, c0, l0, rfl, hC, hB1, hg1⟩
  go_wp2_with fail
  refine (HL.out _ (by exact (hC.dir.row.cells).2)).mono ?_
  rintro e w' ⟨rfl, rfl⟩
  go_wp2_with fail
  go_ret
  have hz := hB1.size
  refine ⟨w1.heap.size, gc, gd, Ad, cd, A1, c1, l1, A0, c0, l0, rfl, BlkIs.new _ _ _, hC.below ((Below.refl _ _).alloc (Nat.le_refl _) _), (hl.below hB1).below ((Below.refl _ _).alloc (Nat.le_refl _) _), hB1.alloc hz _, hz⟩

end Go.Proofs.YtlpnbkfcbamnbaaDoor
