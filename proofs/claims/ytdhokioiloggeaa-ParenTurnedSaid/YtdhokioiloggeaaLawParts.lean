/- Walks: the laws BitsParts and BitsEach return true. -/
import Derived.Test.YtdhokioiloggeaaBitsI
set_option linter.unusedVariables false
set_option linter.unusedSimpArgs false
set_option maxRecDepth 100000
namespace Go.Proofs.Ytdhokioiloggeaa
open Go.RowKit L

set_option maxHeartbeats 2000000 in
theorem lawParts_long (A : Option Addr) (n c : Nat) (k : Int) (w : World) (hn : 60 < n) :
    Calls Try.prog 8 #[.slice A n c, .int .u16 k] w fun e w' => e = .returned (.bool true) ∧ Below w.heap.size w w' := by
  have h1 : (60 : Int) < (n : Int) := by omega
  go_enter Try.func8, Try.ntmps8
  go_wp2_with fail
  refine (awake2 _).mono ?_
  rintro e w1 ⟨rfl, hB1⟩
  go_wp2_with fail
  refine (awake2 _).mono ?_
  rintro e w2 ⟨rfl, hB2⟩
  go_wp2
  go_ret
  exact ⟨rfl, hB1.trans (hB2.mono hB1.size)⟩

theorem cut_head (bs : List Bool) (k : Int) : (bs.drop (cutLo bs.length 0)).take (cutHi bs.length 0 k - cutLo bs.length 0) = bs.take (cutLo bs.length k) := by
  have h1 : cutLo bs.length 0 = 0 := by unfold cutLo; omega
  have h2 : cutHi bs.length 0 k = cutLo bs.length k := by unfold cutHi cutLo; omega
  rw [h1, h2]; simp
theorem cut_tail (bs : List Bool) (k : Int) : (bs.drop (cutLo bs.length k)).take (cutHi bs.length k (bs.length : Nat) - cutLo bs.length k) = bs.drop (cutLo bs.length k) := by
  have h2 : cutHi bs.length k (bs.length : Nat) = bs.length := by unfold cutHi cutLo; omega
  rw [h2]; exact List.take_of_length_le (by rw [List.length_drop]; omega)

theorem take_bit (l : List Bool) (k : Nat) (h : k < l.length) : l.take (k + 1) = l.take k ++ [bitAt l k] := by
  rw [List.take_succ_eq_append_getElem h]
  have := bitAt_get l k h
  rw [List.getElem?_eq_getElem h] at this
  injection this with this
  rw [this]
theorem rowBit_nat (l : List Bool) (k : Nat) : rowBit l (k : Nat) = bitAt l k := by unfold rowBit; simp

set_option maxHeartbeats 8000000 in
theorem lawParts_true (A : Option Addr) (c : Nat) (l : List (Nat × Int)) (p : Int) (w : World) (hl : Lst w A (opCells l)) (hx : ∀ o ∈ l, o.1 < 18446744073709551616) (hn : l.length ≤ 60) (hp0 : 0 ≤ p) (hp1 : p ≤ 65535) :
    Calls Try.prog 8 #[.slice A l.length c, .int .u16 p] w fun e w' => e = .returned (.bool true) ∧ Below w.heap.size w w' := by
  have hbl := allPuts_length l
  go_enter Try.func8, Try.ntmps8
  go_wp2_with fail
  refine (awake2 _).mono ?_
  rintro e w1 ⟨rfl, hB1⟩
  have hz1 := hB1.size
  go_wp2_with fail
  refine (all_any A c l _ (hl.below hB1) hx hn).mono ?_
  rintro e w2 ⟨A2, c2, rfl, hl2, hA2, hB2, hc2⟩
  have hz2 := hB2.size
  generalize allPuts l = bs at *
  have hbs : bs.length ≤ 3840 := by omega
  go_wp2_with fail
  refine (made_any A2 c2 bs _ hl2 (by omega)).mono ?_
  rintro e w3 ⟨g3, A3, c3, rfl, hr3, _, _, hB3⟩
  have hz3 := hB3.size
  have hBa : Below w.heap.size w w3 := hB1.trans ((hB2.mono hz1).trans (hB3.mono (by omega)))
  clear hB1 hB2 hB3 hl2 hl
  go_wp2_with fail
  refine (clip_any g3 A3 c3 bs 0 p _ hr3).mono ?_
  rw [cut_head]
  rintro e w4 ⟨g4, A4, c4, rfl, hr4, _, _, hB4⟩
  have hr3' := hr3.below hB4
  have hz4 := hB4.size
  go_wp2_with fail
  refine (rlen_any g3 _ _ hr3'.cells.2).mono ?_
  rintro e w' ⟨rfl, rfl⟩
  go_wp2_with fail
  refine (clip_any g3 A3 c3 bs p (bs.length : Nat) _ hr3').mono ?_
  rw [cut_tail]
  rintro e w5 ⟨g5, A5, c5, rfl, hr5, _, _, hB5⟩
  have hz5 := hB5.size
  have hr3'' := hr3'.below hB5
  have hr4' := hr4.below hB5
  have hBb : Below w.heap.size w w5 := hBa.trans ((hB4.mono (by omega)).trans (hB5.mono (by omega)))
  have hb0 := BuilderAt.new_at w5 w5.heap.size w5.heap.size rfl
  have HM := hid (show min p ((bs.length : Nat) : Int) = ((bs.take (cutLo bs.length p)).length : Nat) by rw [List.length_take]; unfold cutLo; omega)
  have HT := hid (List.take_append_drop (cutLo bs.length p) bs)
  have hla : (bs.take (cutLo bs.length p)).length ≤ 3840 := by rw [List.length_take]; omega
  have hlc : (bs.drop (cutLo bs.length p)).length ≤ 3840 := by rw [List.length_drop]; omega
  clear hr3 hr4 hr3' hB4 hB5 hBa
  generalize bs.take (cutLo bs.length p) = ba at *
  generalize bs.drop (cutLo bs.length p) = bc at *
  go_wp2_with fail
  go_loopw [11] (fun i wr => ∃ (k m : Nat) (v : Value) (w6 : World), k ≤ ba.length ∧ i = .int .i64 k ∧ BuilderAt wr w5.heap.size w5.heap.size v (ba.take k) ∧ Below w5.heap.size w5 wr) (fun i _ => ba.length - (intOf i).toNat)
  case atStart => exact ⟨0, 0, _, w5, by omega, rfl, hb0, (Below.refl _ _).alloc (Nat.le_refl _) _⟩
  case round =>
    obtain ⟨k, m, v, w6, hk, rfl, hb, hB⟩ := hrel
    clear hb0
    have hsz := hB.size
    have hr4r : RowAt wr g4 A4 c4 ba := hr4'.below hB
    have hlc4 := hr4r.cells.2
    rcases Nat.lt_or_ge k ba.length with hlt | hge
    · have hki : (k : Int) < (ba.length : Int) := by omega
      have H := hid (take_bit ba k hlt)
      have hlk : (ba.take k).length + 1 ≤ 4294967296 := by rw [List.length_take]; omega
      go_wp2_with fail
      refine (rlen_any g4 _ _ hlc4).mono ?_
      rintro e w' ⟨rfl, rfl⟩
      go_wp2_with fail
      refine (get_any g4 A4 c4 ba (k : Nat) _ hr4r).mono ?_
      rw [rowBit_nat]
      rintro e w' ⟨rfl, rfl⟩
      go_wp2_with fail
      refine (bit_any (bitAt ba k) w5.heap.size w5.heap.size v (ba.take k) _ hlk hb hsz).mono ?_
      rintro e w7 ⟨rfl, v7, hb7, hat7, ho7⟩
      rw [← H.out] at hb7
      have hB7 := hB.trans (putDone_below hb (Nat.le_refl _) (Nat.le_refl _) hsz ho7)
      go_wp2
      go_roundw
      case rel => exact ⟨k + 1, 0, v7, w5, by omega, by go_num, hb7, hB7⟩
      case measure => simp [intOf]; omega
    · obtain rfl : k = ba.length := by omega
      rw [List.take_length] at hb
      go_wp2_with fail
      refine (rlen_any g4 _ _ hlc4).mono ?_
      rintro e w' ⟨rfl, rfl⟩
      go_wp2_with fail
      have hr5r : RowAt wr g5 A5 c5 bc := hr5.below hB
      obtain ⟨wo, hwo⟩ : ∃ wo, wo = wr := ⟨_, rfl⟩
      subst hwo
      go_loopw [12] (fun i wr => ∃ (j : Nat) (v : Value), j ≤ bc.length ∧ i = .int .i64 j ∧ BuilderAt wr w5.heap.size w5.heap.size v (ba ++ bc.take j) ∧ Below w5.heap.size w5 wr) (fun i _ => bc.length - (intOf i).toNat)
      case atStart => exact ⟨0, _, by omega, rfl, by simpa using hb, hB⟩
      case round =>
        obtain ⟨j, v2, hj, rfl, hb2, hB2⟩ := hrel
        have hsz2 := hB2.size
        have hr5s : RowAt wr g5 A5 c5 bc := hr5.below hB2
        have hlc5 := hr5s.cells.2
        rcases Nat.lt_or_ge j bc.length with hlt | hge
        · have hki : (j : Int) < (bc.length : Int) := by omega
          have H := hid (show ba ++ bc.take (j + 1) = (ba ++ bc.take j) ++ [bitAt bc j] by rw [take_bit bc j hlt, List.append_assoc])
          have hlk : (ba ++ bc.take j).length + 1 ≤ 4294967296 := by rw [List.length_append, List.length_take]; omega
          go_wp2_with fail
          refine (rlen_any g5 _ _ hlc5).mono ?_
          rintro e w' ⟨rfl, rfl⟩
          go_wp2_with fail
          refine (get_any g5 A5 c5 bc (j : Nat) _ hr5s).mono ?_
          rw [rowBit_nat]
          rintro e w' ⟨rfl, rfl⟩
          go_wp2_with fail
          refine (bit_any (bitAt bc j) w5.heap.size w5.heap.size v2 (ba ++ bc.take j) _ hlk hb2 hsz2).mono ?_
          rintro e w7 ⟨rfl, v7, hb7, hat7, ho7⟩
          rw [← H.out] at hb7
          have hB7 := hB2.trans (putDone_below hb2 (Nat.le_refl _) (Nat.le_refl _) hsz2 ho7)
          go_wp2
          go_roundw
          case rel => exact ⟨j + 1, v7, by omega, by go_num, hb7, hB7⟩
          case measure => simp [intOf]; omega
        · obtain rfl : j = bc.length := by omega
          rw [List.take_length, HT.out] at hb2
          go_wp2_with fail
          refine (rlen_any g5 _ _ hlc5).mono ?_
          rintro e w' ⟨rfl, rfl⟩
          go_wp2_with fail
          refine (row_any _ _ _ _ _ hb2 (by omega)).mono ?_
          rintro e w8 ⟨g8, A8, c8, rfl, hr8, _, _, hB8⟩
          have hz8 := hB8.size
          go_wp2_with fail
          refine (rbytes_any g8 A8 c8 bs _ hr8).mono ?_
          rintro e w9 ⟨rfl, hB9⟩
          have hz9 := hB9.size
          have hB59 : Below w5.heap.size w5 w9 := hB2.trans ((hB8.mono hsz2).trans (hB9.mono (by omega)))
          have hr39 : RowAt w9 g3 A3 c3 bs := hr3''.below hB59
          have hr49 : RowAt w9 g4 A4 c4 ba := hr4'.below hB59
          go_wp2_with fail
          refine (rbytes_any g3 A3 c3 bs _ hr39).mono ?_
          rintro e w10 ⟨rfl, hB10⟩
          have hr410 := hr49.below hB10
          have hr310 := hr39.below hB10
          have q4 := hr410.cells.2
          have q3 := hr310.cells.2
          go_wp2_with fail
          refine (rlen_any g4 _ _ q4).mono ?_
          rintro e w' ⟨rfl, rfl⟩
          go_wp2_with fail
          refine (rlen_any g3 _ _ q3).mono ?_
          rintro e w' ⟨rfl, rfl⟩
          have hM := HM.out
          go_wp2
          go_ret
          exact ⟨rfl, hBb.trans ((hB59.mono (by omega)).trans (hB10.mono (by omega)))⟩

theorem lawParts_any (A : Option Addr) (c : Nat) (l : List (Nat × Int)) (p : Int) (w : World) (hl : Lst w A (opCells l)) (hx : ∀ o ∈ l, o.1 < 18446744073709551616) (hp0 : 0 ≤ p) (hp1 : p ≤ 65535) :
    Calls Try.prog 8 #[.slice A l.length c, .int .u16 p] w fun e w' => e = .returned (.bool true) ∧ Below w.heap.size w w' := by
  rcases Nat.lt_or_ge 60 l.length with h | h
  · exact lawParts_long A l.length c p w h
  · exact lawParts_true A c l p w hl hx h hp0 hp1

end Go.Proofs.Ytdhokioiloggeaa
