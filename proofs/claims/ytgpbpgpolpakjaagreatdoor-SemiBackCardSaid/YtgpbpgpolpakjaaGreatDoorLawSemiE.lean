/- Walks: the law SemiBack returns true. -/
import Derived.Test.YtgpbpgpolpakjaaGreatDoorSemiX
import Derived.Test.YtgpbpgpolpakjaaGreatDoorLawSemiP


set_option linter.unusedVariables false
set_option linter.unusedSimpArgs false
set_option maxRecDepth 100000
namespace Go.Proofs.YtgpbpgpolpakjaaGreatDoor
open Go.RowKit Go.Shelf L

theorem bytes_same (s : ByteArray) : (s.toList == s.toList) = true := by rw [beq_iff_eq]
theorem bytes_ne2 {s t : ByteArray} (h : s ≠ t) : (s.toList == t.toList) = false := by
  rw [beq_eq_false_iff_ne]
  intro e
  rw [ByteArray.toList_eq, ByteArray.toList_eq] at e
  exact h (bytes_ext e)
set_option maxHeartbeats 4000000 in
theorem lawSemiBack_long (s t : ByteArray) (w : World) (h : 400 < s.size ∨ 400 < t.size) :
    Calls Tryz.prog 3 #[.string s, .string t] w fun e w' => e = .returned (.bool true) ∧ Below w.heap.size w w' := by
  by_cases h1 : 400 < s.size
  · have g1 : (400 : Int) < (s.size : Int) := by omega
    go_enter Tryz.func3, Tryz.ntmps3
    go_wp2_with fail
    refine (awake14 _).mono ?_
    rintro e w1 ⟨rfl, hB1⟩
    go_wp2_with fail
    refine (awake14 _).mono ?_
    rintro e w2 ⟨rfl, hB2⟩
    go_wp2_with fail
    go_ret
    exact ⟨rfl, hB1.trans (hB2.mono hB1.size)⟩
  · have g1 : ¬ ((400 : Int) < (s.size : Int)) := by omega
    have g2 : (400 : Int) < (t.size : Int) := by omega
    go_enter Tryz.func3, Tryz.ntmps3
    go_wp2_with fail
    refine (awake14 _).mono ?_
    rintro e w1 ⟨rfl, hB1⟩
    go_wp2_with fail
    refine (awake14 _).mono ?_
    rintro e w2 ⟨rfl, hB2⟩
    go_wp2_with fail
    go_ret
    exact ⟨rfl, hB1.trans (hB2.mono hB1.size)⟩

set_option maxHeartbeats 4000000 in
theorem lawSemiBack_bad (s t : ByteArray) (w : World) (h1 : s.size ≤ 400) (h2 : t.size ≤ 400) (h : lookN (nb s) ≠ 0 ∨ lookN (nb t) ≠ 0) :
    Calls Tryz.prog 3 #[.string s, .string t] w fun e w' => e = .returned (.bool true) ∧ Below w.heap.size w w' := by
  have g1 : ¬ ((400 : Int) < (s.size : Int)) := by omega
  have g2 : ¬ ((400 : Int) < (t.size : Int)) := by omega
  have H1 := hid (fun W => semiMake_any s W (by omega))
  have H2 := hid (fun W => semiMake_any t W (by omega))
  generalize lookN (nb s) = a at *
  generalize lookN (nb t) = b at *
  have HH := hid h
  clear h h1 h2
  go_enter Tryz.func3, Tryz.ntmps3
  go_wp2_with fail
  refine (awake14 _).mono ?_
  rintro e w1 ⟨rfl, hB1⟩
  go_wp2_with fail
  refine (H1.out _).mono ?_
  rintro e w2 ⟨⟨v, rfl, hv0, hv1⟩, hB2⟩
  have hB12 := hB1.trans (hB2.mono hB1.size)
  have HV := hid (And.intro hv0 hv1)
  clear hv0 hv1
  go_wp2_with fail
  refine (H2.out _).mono ?_
  rintro e w3 ⟨⟨u, rfl, hu0, hu1⟩, hB3⟩
  have hB13 := hB12.trans (hB3.mono hB12.size)
  have HU := hid (And.intro hu0 hu1)
  clear hu0 hu1
  rcases Nat.eq_zero_or_pos a with h0 | h0
  · have hbne : b ≠ 0 := by have := HH.out; omega
    obtain ⟨g, rfl, _⟩ := HV.out.1 h0
    obtain rfl := HU.out.2 hbne
    have n1 : ((b : Int) == 0) = false := by rw [beq_eq_false_iff_ne]; omega
    have n2 : ((b : Int) != 0) = true := by rw [bne_iff_ne]; omega
    subst h0
    clear HH hbne HV HU
    go_wp2_with fail
    go_ret
    exact ⟨by first | rfl | simp, hB13⟩
  · have ha : a ≠ 0 := by omega
    obtain rfl := HV.out.2 ha
    have n1 : ((a : Int) == 0) = false := by rw [beq_eq_false_iff_ne]; omega
    have n2 : ((a : Int) != 0) = true := by rw [bne_iff_ne]; omega
    rcases Nat.eq_zero_or_pos b with k0 | k0
    · obtain ⟨g, rfl, _⟩ := HU.out.1 k0
      subst k0
      clear HH HV HU ha
      go_wp2_with fail
      go_ret
      exact ⟨by first | rfl | simp, hB13⟩
    · have hb : b ≠ 0 := by omega
      obtain rfl := HU.out.2 hb
      have m1 : ((b : Int) == 0) = false := by rw [beq_eq_false_iff_ne]; omega
      have m2 : ((b : Int) != 0) = true := by rw [bne_iff_ne]; omega
      clear HH HV HU ha hb
      go_wp2_with fail
      go_ret
      exact ⟨by first | rfl | simp, hB13⟩

set_option maxHeartbeats 8000000 in
theorem lawSemiBack_ok (s t : ByteArray) (w : World) (h1 : s.size ≤ 400) (h2 : t.size ≤ 400) (hs : lookN (nb s) = 0) (ht : lookN (nb t) = 0) (hT : Tab w) :
    Calls Tryz.prog 3 #[.string s, .string t] w fun e w' => e = .returned (.bool true) ∧ Below w.heap.size w w' := by
  have g1 : ¬ ((400 : Int) < (s.size : Int)) := by omega
  have g2 : ¬ ((400 : Int) < (t.size : Int)) := by omega
  have ls : (nb s).length ≤ 400 := by rw [nb_length]; exact h1
  have lt : (nb t).length ≤ 400 := by rw [nb_length]; exact h2
  have ps : (places (nb s)).length ≤ 10000 := by rw [places_length]; have := mks_length (nb s); omega
  have pt : (places (nb t)).length ≤ 10000 := by rw [places_length]; have := mks_length (nb t); omega
  have H1 := hid (fun W => semiMake_ok s W hs ps)
  have H2 := hid (fun W => semiMake_ok t W ht pt)
  have B1 := hid (fun g W hi hTW => semiBytes_any g s W hi hTW (by omega) ps)
  have B2 := hid (fun g W hi hTW => semiBytes_any g t W hi hTW (by omega) pt)
  have hgs := idxS_good (look_text hs).1 (look_text hs).2 ps
  have hsz : (idxS (nb s)).size ≤ 100000 := by
    have e1 := idxS_list (nb s)
    have e2 : (idxS (nb s)).data.toList.length = (idxS (nb s)).size := by rw [Array.length_toList]; rfl
    have e3 := seqS_few ls
    have e4 : (seqS (nb s)).size = (seqL (places (nb s)) (bndN (nb s))).length := rfl
    have e5 := parens_length (nb s)
    have e6 := mks_length (nb s)
    rw [← e2, e1]
    unfold idxL
    rw [List.length_append, List.length_append, leB_length, ← e4, row_length]
    unfold nwords
    omega
  have hvl : valL (idxS (nb s)).data.toList ≤ 1450 := by
    have e3 := seqS_few ls
    have e4 : (seqS (nb s)).size = (seqL (places (nb s)) (bndN (nb s))).length := rfl
    have e5 : valL (idxS (nb s)).data.toList = (seqS (nb s)).size := by
      rw [idxS_list]
      unfold valL idxL
      rw [List.take_append_of_le_length (by rw [leB_length]; omega), List.take_of_length_le (by rw [leB_length]; omega), nest_leB, Nat.mod_eq_of_lt (by omega), e4]
    omega
  have L1 := hid (fun W hW => semiLoad_any s (idxS (nb s)) W hs ps hW hsz (fun _ => hvl))
  have L2 := hid (fun W hW => semiLoad_any t (idxS (nb s)) W ht pt hW hsz (fun _ => hvl))
  unfold LoadPost at L1 L2
  have HG := hid (show ∃ m B R, GoodIdx (idxS (nb s)).data.toList m B R from ⟨_, _, _, hgs⟩)
  clear h1 h2 hs ht ls lt ps pt hgs hsz hvl
  generalize idxS (nb s) = I at *
  generalize idxS (nb t) = J at *
  go_enter Tryz.func3, Tryz.ntmps3
  go_wp2_with fail
  refine (awake14 _).mono ?_
  rintro e w1 ⟨rfl, hB1⟩
  go_wp2_with fail
  refine (H1.out _).mono ?_
  rintro e w2 ⟨x, rfl, hx, hB2⟩
  have hB02 := hB1.trans (hB2.mono hB1.size)
  go_wp2_with fail
  refine (H2.out _).mono ?_
  rintro e w3 ⟨y, rfl, hy, hB3⟩
  have hB03 := hB02.trans (hB3.mono hB02.size)
  have hx3 := hx.below hB3
  have hT3 := hT.below hB03
  clear hx hB1 hB2 hB3 hB02
  go_wp2_with fail
  refine (B1.out x _ hx3 hT3).mono ?_
  rintro e w4 ⟨rfl, hB4⟩
  have hB04 := hB03.trans (hB4.mono hB03.size)
  have hx4 := hx3.below hB4
  have hy4 := hy.below hB4
  have hT4 := hT3.below hB4
  clear hx3 hy hT3 hB4 hB03
  go_wp2_with fail
  refine (L1.out _ hT4).mono ?_
  rintro e w5 ⟨hB5, ⟨z, rfl, hz, _⟩ | ⟨rfl, hno⟩ | ⟨rfl, _, hne⟩⟩
  case inr.inl => exact absurd HG.out (fun ⟨m, B, R, h⟩ => hno m B R h)
  case inr.inr => exact absurd rfl hne
  have hB05 := hB04.trans (hB5.mono hB04.size)
  have hx5 := hx4.below hB5
  have hy5 := hy4.below hB5
  have hT5 := hT4.below hB5
  clear hx4 hy4 hT4 hB5 hB04
  go_wp2_with fail
  refine (B1.out x _ hx5 hT5).mono ?_
  rintro e w6 ⟨rfl, hB6⟩
  have hB06 := hB05.trans (hB6.mono hB05.size)
  have hx6 := hx5.below hB6
  have hy6 := hy5.below hB6
  have hz6 := hz.below hB6
  have hT6 := hT5.below hB6
  clear hx5 hy5 hz hT5 hB6 hB05
  go_wp2_with fail
  refine (L2.out _ hT6).mono ?_
  rintro e w7 ⟨hB7, hres⟩
  have hB07 := hB06.trans (hB7.mono hB06.size)
  have hx7 := hx6.below hB7
  have hy7 := hy6.below hB7
  have hz7 := hz6.below hB7
  have hT7 := hT6.below hB7
  have hsame := bytes_same I
  have HRES : ∃ v k, e = .returned (.tuple #[v, .int .i64 k]) ∧ (((k == 0) = true ∧ (J.toList == I.toList) = true) ∨ ((k == 0) = false ∧ (J.toList == I.toList) = false)) := by
    rcases hres with ⟨g, rfl, _, he⟩ | ⟨rfl, hno⟩ | ⟨rfl, _, hne⟩
    · exact ⟨_, _, rfl, .inl ⟨rfl, by rw [he]; exact bytes_same J⟩⟩
    · exact absurd HG.out (fun ⟨m, B, R, h⟩ => hno m B R h)
    · exact ⟨_, _, rfl, .inr ⟨rfl, bytes_ne2 (fun e => hne e.symm)⟩⟩
  obtain ⟨v, k, rfl, hk⟩ := HRES
  clear hx6 hy6 hz6 hT6 hB7 hB06 hres HG L1 L2 H1 H2
  go_wp2_with fail
  refine (B1.out z _ hz7 hT7).mono ?_
  rintro e w8 ⟨rfl, hB8⟩
  have hB08 := hB07.trans (hB8.mono hB07.size)
  have hx8 := hx7.below hB8
  have hy8 := hy7.below hB8
  have hT8 := hT7.below hB8
  go_wp2_with fail
  refine (B1.out x _ hx8 hT8).mono ?_
  rintro e w9 ⟨rfl, hB9⟩
  have hB09 := hB08.trans (hB9.mono hB08.size)
  have hx9 := hx8.below hB9
  have hy9 := hy8.below hB9
  have hT9 := hT8.below hB9
  go_wp2_with fail
  refine (B2.out y _ hy9 hT9).mono ?_
  rintro e wA ⟨rfl, hBA⟩
  have hB0A := hB09.trans (hBA.mono hB09.size)
  have hxA := hx9.below hBA
  have hTA := hT9.below hBA
  rcases hk with ⟨hk1, hk2⟩ | ⟨hk1, hk2⟩
  · go_wp2_with fail
    refine (B1.out x _ hxA hTA).mono ?_
    rintro e wB ⟨rfl, hBB⟩
    have hB0B := hB0A.trans (hBB.mono hB0A.size)
    go_wp2_with fail
    go_ret
    exact ⟨by first | rfl | simp, hB0B⟩
  · go_wp2_with fail
    refine (B1.out x _ hxA hTA).mono ?_
    rintro e wB ⟨rfl, hBB⟩
    have hB0B := hB0A.trans (hBB.mono hB0A.size)
    go_wp2_with fail
    go_ret
    exact ⟨by first | rfl | simp, hB0B⟩
theorem lawSemiBack_any (s t : ByteArray) (w : World) (hT : Tab w) :
    Calls Tryz.prog 3 #[.string s, .string t] w fun e w' => e = .returned (.bool true) ∧ Below w.heap.size w w' := by
  rcases Nat.lt_or_ge 400 s.size with h | h
  · exact lawSemiBack_long s t w (.inl h)
  · rcases Nat.lt_or_ge 400 t.size with h2 | h2
    · exact lawSemiBack_long s t w (.inr h2)
    · by_cases hs : lookN (nb s) = 0
      · by_cases ht : lookN (nb t) = 0
        · exact lawSemiBack_ok s t w h h2 hs ht hT
        · exact lawSemiBack_bad s t w h h2 (.inr ht)
      · exact lawSemiBack_bad s t w h h2 (.inl hs)
end Go.Proofs.YtgpbpgpolpakjaaGreatDoor
