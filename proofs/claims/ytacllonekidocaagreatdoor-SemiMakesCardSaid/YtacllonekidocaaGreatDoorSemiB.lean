/- Walks: a record's index is made (semi). -/
import Derived.Test.YtacllonekidocaaGreatDoorSemiA
set_option linter.unusedVariables false
set_option linter.unusedSimpArgs false
set_option maxRecDepth 100000
namespace Go.Proofs.YtacllonekidocaaGreatDoor
open Go.RowKit Go.Shelf L

/-- The bound of the marks' places. -/
def L.bndN (l : List Nat) : Nat := if (places l).length = 0 then 1 else l.length
theorem L.bnd_pos (l : List Nat) : 1 ≤ bndN l := by
  unfold bndN
  by_cases h : (places l).length = 0
  · rw [if_pos h]; omega
  · rw [if_neg h]
    have := mks_length l
    rw [places_length] at h
    omega
theorem L.bnd_le (l : List Nat) (h : l.length ≤ 1048576) : bndN l ≤ 1048576 := by unfold bndN; split <;> omega
theorem L.places_right {l : List Nat} (h : l.length ≤ 1048576) : RightN (places l) (bndN l) := by
  refine ⟨⟨bnd_pos l, by have := bnd_le l h; omega⟩, ?_, fun x hx => ?_⟩
  · exact (places_rise l).imp (fun h => Nat.le_of_lt h)
  · have h1 := places_lt l x hx
    unfold bndN
    rw [if_neg (fun e => by rw [List.length_eq_zero_iff] at e; rw [e] at hx; cases hx)]
    exact h1
theorem L.places_few {l : List Nat} (h : l.length ≤ 65536) (hm : (places l).length ≤ 10000) : Few (places l) (bndN l) := by
  refine ⟨hm, Nat.le_trans (Nat.div_le_self _ _) ?_⟩
  unfold bndN; split <;> omega

/-- A record's index in memory. -/
def IdxAt (w : World) (g : Nat) (s : ByteArray) : Prop :=
  ∃ q x t Ax cx, BlkIs w g 61 #[.pointer (some ⟨q, 0, none⟩), .pointer (some ⟨x, 0, none⟩), .pointer (some ⟨t, 0, none⟩), .string s] ∧ SeqAt w q (places (nb s)) (bndN (nb s)) ∧ RowAt w x Ax cx (parens (nb s)) ∧ NestAt w t (parens (nb s))
theorem IdxAt.below {w w' : World} {g : Nat} {s : ByteArray} (h : IdxAt w g s) (hb : Below w.heap.size w w') : IdxAt w' g s := by
  obtain ⟨q, x, t, Ax, cx, h1, h2, h3, h4⟩ := h
  exact ⟨q, x, t, Ax, cx, h1.below hb, h2.below hb, h3.below hb, h4.below hb⟩

theorem bound_any (A : Option Addr) (n c : Nat) (s : ByteArray) (w : World) : Calls Tryz.prog 26 #[.slice A n c, .string s] w fun e w' => e = .returned (.int .i64 (if n = 0 then 1 else s.size : Nat)) ∧ w = w' := by
  rcases Nat.eq_zero_or_pos n with rfl | h
  · go_enter Tryz.func26, Tryz.ntmps26
    go_wp2_with fail
    go_ret
    exact ⟨rfl, rfl⟩
  · rw [if_neg (show ¬ n = 0 by omega)]
    have hb : ((n : Int) == 0) = false := by rw [beq_eq_false_iff_ne]; omega
    have hz : ¬ (n = 0) := by omega
    go_enter Tryz.func26, Tryz.ntmps26
    go_wp2_with fail
    go_ret
    exact ⟨rfl, rfl⟩

set_option maxHeartbeats 1000000 in
theorem semiMake_not (s : ByteArray) (w : World) (h : lookN (nb s) ≠ 0) :
    Calls Tryz.prog 8 #[.string s] w fun e w' => e = .returned (.tuple #[.pointer none, .int .i64 (lookN (nb s) : Nat)]) ∧ Below w.heap.size w w' := by
  have HK := hid (fun W => look_any s W)
  have hb : ((lookN (nb s) : Nat) : Int) ≠ 0 := by omega
  generalize lookN (nb s) = k at *
  have hbb : ((k : Int) != 0) = true := by rw [bne_iff_ne]; exact hb
  have hbc : ((k : Int) == 0) = false := by rw [beq_eq_false_iff_ne]; exact hb
  clear hb
  go_enter Tryz.func8, Tryz.ntmps8
  go_wp2_with fail
  refine (HK.out _).mono ?_
  rintro e w1 ⟨rfl, hB1⟩
  go_wp2_with fail
  go_ret2
  exact ⟨rfl, hB1⟩

set_option maxHeartbeats 4000000 in
theorem semiMake_ok (s : ByteArray) (w : World) (h : lookN (nb s) = 0) (hm : (places (nb s)).length ≤ 10000) :
    Calls Tryz.prog 8 #[.string s] w fun e w' => ∃ g, e = .returned (.tuple #[.pointer (some ⟨g, 0, none⟩), .int .i64 0]) ∧ IdxAt w' g s ∧ Below w.heap.size w w' := by
  obtain ⟨ht, hl⟩ := look_text h
  have hsz : s.size ≤ 65536 := by rw [nb_length] at hl; exact hl
  have HK := hid (fun W => look_any s W)
  rw [h] at HK
  have HP := hid (fun W => mPlaces_any s W (by omega))
  have HQ := hid (fun W => mParens_any s W (by omega))
  have HBD := hid (fun A n c W => bound_any A n c s W)
  have hbe : (if (places (nb s)).length = 0 then 1 else s.size) = bndN (nb s) := by unfold bndN; rw [nb_length]
  have HM := hid (fun A c W hW => make_ok A c (places (nb s)) (bndN (nb s)) W hW (places_right (by omega)) (places_few hl hm))
  have hpl : (parens (nb s)).length ≤ 131072 := by rw [parens_length]; have := mks_length (nb s); omega
  have HR := hid (fun A c W hW => semiRow_any A c (parens (nb s)) W hW (by omega))
  have HN := hid (fun g A c W hW => nestNew_any g A c (parens (nb s)) W hW (text_bal ht.1 ht.2.1))
  have HBE := hid hbe
  have HMK := hid (show ∀ w' g q x t Ax cx, BlkIs w' g 61 #[.pointer (some ⟨q, 0, none⟩), .pointer (some ⟨x, 0, none⟩), .pointer (some ⟨t, 0, none⟩), .string s] → SeqAt w' q (places (nb s)) (bndN (nb s)) → RowAt w' x Ax cx (parens (nb s)) → NestAt w' t (parens (nb s)) → IdxAt w' g s from fun w' g q x t Ax cx a b c d => ⟨q, x, t, Ax, cx, a, b, c, d⟩)
  clear h ht hl hm hbe
  generalize places (nb s) = P at *
  generalize parens (nb s) = R at *
  go_enter Tryz.func8, Tryz.ntmps8
  go_wp2_with fail
  refine (HK.out _).mono ?_
  rintro e w1 ⟨rfl, hB1⟩
  have hz1 := hB1.size
  go_wp2_with fail
  refine (HP.out _).mono ?_
  rintro e w2 ⟨A2, c2, rfl, hl2, hB2⟩
  have hL2 := own_lst hl2
  have hB12 := hB1.trans (hB2.mono hz1)
  have hz2 := hB12.size
  clear hB1 hB2 hl2
  go_wp2_with fail
  refine (HBD.out _ _ _ _).mono ?_
  rintro e w' ⟨rfl, rfl⟩
  rw [HBE.out]
  go_wp2_with fail
  refine (HM.out _ _ _ hL2).mono ?_
  rintro e w3 ⟨q, rfl, hq3, hB3, _⟩
  have hB13 := hB12.trans (hB3.mono hz2)
  have hz3 := hB13.size
  clear hB12 hB3 hL2
  go_wp2_with fail
  refine (HQ.out _).mono ?_
  rintro e w4 ⟨A4, c4, rfl, hl4, hB4⟩
  have hL4 := own_lst hl4
  have hq4 := hq3.below hB4
  have hB14 := hB13.trans (hB4.mono hz3)
  have hz4 := hB14.size
  clear hB13 hB4 hq3 hl4
  go_wp2_with fail
  refine (HR.out _ _ _ hL4).mono ?_
  rintro e w5 ⟨x, Ax, cx, rfl, hr5, _, _, hB5⟩
  have hq5 := hq4.below hB5
  have hB15 := hB14.trans (hB5.mono hz4)
  have hz5 := hB15.size
  clear hB14 hB5 hq4 hL4
  go_wp2_with fail
  refine (HN.out _ _ _ _ hr5).mono ?_
  rintro e w6 ⟨t, rfl, hn6, hB6⟩
  have hq6 := hq5.below hB6
  have hr6 := hr5.below hB6
  have hB16 := hB15.trans (hB6.mono hz5)
  have hz6 := hB16.size
  clear hB15 hB6 hq5 hr5
  go_wp2_with fail
  go_ret2
  have hBn : Below w6.heap.size w6 (w6.alloc (.cells #[.pointer (some ⟨q, 0, none⟩), .pointer (some ⟨x, 0, none⟩), .pointer (some ⟨t, 0, none⟩), .string s] 61)) := (Below.refl _ _).alloc (Nat.le_refl _) _
  exact ⟨w6.heap.size, rfl, HMK.out _ _ q x t Ax cx (BlkIs.new w6 _ _) (hq6.below hBn) (hr6.below hBn) (hn6.below hBn), hB16.alloc hz6 _⟩
end Go.Proofs.YtacllonekidocaaGreatDoor
