/- Walks: the law SemiTwo returns true. -/
import Derived.Test.YtacllonekidocaaDoorSemiC
set_option linter.unusedVariables false
set_option linter.unusedSimpArgs false
set_option maxRecDepth 100000
namespace Go.Proofs.YtacllonekidocaaDoor
open Go.RowKit Go.Shelf L

theorem L.nb_join (s t : ByteArray) : nb (s ++ t) = nb s ++ nb t := by
  unfold nb
  rw [ByteArray.data_append, Array.toList_append, List.map_append]
/-- A text that is always the same. -/
def txt14 : ByteArray := { data := #[91, 49, 44, 50, 93] }
theorem L.txt14_nb : nb txt14 = [91, 49, 44, 50, 93] := rfl
theorem L.txt14_look : lookN (nb txt14) = 0 := by rw [txt14_nb]; rfl
theorem L.txt14_places : places (nb txt14) = [0, 2, 4] := by rw [txt14_nb]; rfl

set_option maxHeartbeats 400000 in
theorem awake14 (w : World) : Calls Tryd.prog 4 #[] w fun e w' => e = .returned (.bool true) ∧ Below w.heap.size w w' := by
  have HM := hid (show Calls Tryd.prog 5 #[.string { data := #[91, 49, 44, 50, 93] }] w _ from semiMake_ok txt14 w txt14_look (by rw [txt14_places]; decide))
  have HK := hid (fun g W hW => (show Calls Tryd.prog 6 #[.pointer (some ⟨g, 0, none⟩)] W fun e w' => e = .returned (.int .i64 3) ∧ W = w' from by have := semiMarks_any g txt14 W hW; rw [txt14_places] at this; exact this))
  go_enter Tryd.func4, Tryd.ntmps4
  go_wp2_with fail
  refine (HM.out).mono ?_
  rintro e w1 ⟨g, rfl, hg, hB1⟩
  go_wp2_with fail
  refine (HK.out _ _ hg).mono ?_
  rintro e w' ⟨rfl, rfl⟩
  go_wp2_with fail
  go_ret
  exact ⟨rfl, hB1⟩

set_option maxHeartbeats 400000 in
theorem lawSemiTwo_long (s t : ByteArray) (w : World) (h : 150 < s.size ∨ 150 < t.size) :
    Calls Tryd.prog 3 #[.string s, .string t] w fun e w' => e = .returned (.bool true) ∧ Below w.heap.size w w' := by
  by_cases h1 : 150 < s.size
  · have g1 : (150 : Int) < (s.size : Int) := by omega
    go_enter Tryd.func3, Tryd.ntmps3
    go_wp2_with fail
    refine (awake14 _).mono ?_
    rintro e w1 ⟨rfl, hB1⟩
    go_wp2_with fail
    refine (awake14 _).mono ?_
    rintro e w2 ⟨rfl, hB2⟩
    go_wp2_with fail
    go_ret
    exact ⟨rfl, hB1.trans (hB2.mono hB1.size)⟩
  · have g1 : ¬ ((150 : Int) < (s.size : Int)) := by omega
    have g2 : (150 : Int) < (t.size : Int) := by omega
    go_enter Tryd.func3, Tryd.ntmps3
    go_wp2_with fail
    refine (awake14 _).mono ?_
    rintro e w1 ⟨rfl, hB1⟩
    go_wp2_with fail
    refine (awake14 _).mono ?_
    rintro e w2 ⟨rfl, hB2⟩
    go_wp2_with fail
    go_ret
    exact ⟨rfl, hB1.trans (hB2.mono hB1.size)⟩

/-- Whether a record has an index. -/
theorem semiMake_any (s : ByteArray) (w : World) (hm : s.size ≤ 10000) :
    Calls Tryd.prog 5 #[.string s] w fun e w' => (∃ v : Value, e = .returned (.tuple #[v, .int .i64 (lookN (nb s) : Nat)]) ∧ (lookN (nb s) = 0 → ∃ g, v = .pointer (some ⟨g, 0, none⟩) ∧ IdxAt w' g s) ∧ (lookN (nb s) ≠ 0 → v = .pointer none)) ∧ Below w.heap.size w w' := by
  by_cases h : lookN (nb s) = 0
  · refine (semiMake_ok s w h (by rw [places_length]; have := mks_length (nb s); rw [nb_length] at this; omega)).mono ?_
    rintro e w' ⟨g, rfl, hi, hB⟩
    exact ⟨⟨_, by rw [h]; rfl, fun _ => ⟨g, rfl, hi⟩, fun h2 => absurd h h2⟩, hB⟩
  · refine (semiMake_not s w h).mono ?_
    rintro e w' ⟨rfl, hB⟩
    exact ⟨⟨_, rfl, fun h2 => absurd h2 h, fun _ => rfl⟩, hB⟩

set_option maxHeartbeats 4000000 in
theorem lawSemiTwo_bad (s t : ByteArray) (w : World) (h1 : s.size ≤ 150) (h2 : t.size ≤ 150) (h : lookN (nb s) ≠ 0 ∨ lookN (nb t) ≠ 0) :
    Calls Tryd.prog 3 #[.string s, .string t] w fun e w' => e = .returned (.bool true) ∧ Below w.heap.size w w' := by
  have g1 : ¬ ((150 : Int) < (s.size : Int)) := by omega
  have g2 : ¬ ((150 : Int) < (t.size : Int)) := by omega
  have H1 := hid (fun W => semiMake_any s W (by omega))
  have H2 := hid (fun W => semiMake_any t W (by omega))
  generalize lookN (nb s) = a at *
  generalize lookN (nb t) = b at *
  have ha : True := trivial
  have hb : True := trivial
  have HH := hid h
  clear h
  go_enter Tryd.func3, Tryd.ntmps3
  go_wp2_with fail
  refine (awake14 _).mono ?_
  rintro e w1 ⟨rfl, hB1⟩
  go_wp2_with fail
  refine (H1.out _).mono ?_
  rintro e w2 ⟨⟨v, rfl, _, _⟩, hB2⟩
  have hB12 := hB1.trans (hB2.mono hB1.size)
  go_wp2_with fail
  refine (H2.out _).mono ?_
  rintro e w3 ⟨⟨u, rfl, _, _⟩, hB3⟩
  have hB13 := hB12.trans (hB3.mono hB12.size)
  rcases Nat.eq_zero_or_pos a with h0 | h0
  · have hbne : b ≠ 0 := by have := HH.out; omega
    have n1 : ((b : Int) == 0) = false := by rw [beq_eq_false_iff_ne]; omega
    have n2 : ((b : Int) != 0) = true := by rw [bne_iff_ne]; omega
    subst h0
    clear HH ha hb
    go_wp2_with fail
    go_ret
    exact ⟨rfl, hB13⟩
  · have n1 : ((a : Int) == 0) = false := by rw [beq_eq_false_iff_ne]; omega
    have n2 : ((a : Int) != 0) = true := by rw [bne_iff_ne]; omega
    clear HH ha hb
    go_wp2_with fail
    go_ret
    exact ⟨rfl, hB13⟩

/-- Two texts in an array. -/
def arrS (s t : ByteArray) : ByteArray := ByteArray.mk #[91] ++ s ++ ByteArray.mk #[44] ++ t ++ ByteArray.mk #[93]
theorem arrS_nb (s t : ByteArray) : nb (arrS s t) = arr2 (nb s) (nb t) := by
  unfold arrS arr2
  simp only [nb_join]; rfl

set_option maxHeartbeats 8000000 in
theorem lawSemiTwo_ok (s t : ByteArray) (w : World) (h1 : s.size ≤ 150) (h2 : t.size ≤ 150) (hs : lookN (nb s) = 0) (ht : lookN (nb t) = 0) (hT : Tab w) :
    Calls Tryd.prog 3 #[.string s, .string t] w fun e w' => e = .returned (.bool true) ∧ Below w.heap.size w w' := by
  have g1 : ¬ ((150 : Int) < (s.size : Int)) := by omega
  have g2 : ¬ ((150 : Int) < (t.size : Int)) := by omega
  have hns : (nb s).length ≤ 150 := by rw [nb_length]; exact h1
  have hnt : (nb t).length ≤ 150 := by rw [nb_length]; exact h2
  have xs := (look_text hs).1
  have xt := (look_text ht).1
  have rs := text_run xs
  have rt := text_run xt
  have xa : Text (arr2 (nb s) (nb t)) 4096 := ((arr2_text xs xt).deep (b := 303) (by rw [arr2_length]; omega)).deep (by rw [arr2_length]; omega)
  have hna : (nb (arrS s t)).length ≤ 303 := by rw [arrS_nb, arr2_length]; omega
  have ha : lookN (nb (arrS s t)) = 0 := by rw [arrS_nb]; exact text_look xa (by rw [arr2_length]; omega)
  have ps : (places (nb s)).length ≤ 150 := by rw [places_length]; have := mks_length (nb s); omega
  have pt : (places (nb t)).length ≤ 150 := by rw [places_length]; have := mks_length (nb t); omega
  have pa : (places (nb (arrS s t))).length = (places (nb s)).length + (places (nb t)).length + 3 := by rw [arrS_nb]; exact arr2_len rs rt
  have HMs := hid (fun W => semiMake_ok s W hs (by omega))
  have HMt := hid (fun W => semiMake_ok t W ht (by omega))
  have HMa := hid (fun W => (show Calls Tryd.prog 5 #[.string (ByteArray.mk #[91] ++ s ++ ByteArray.mk #[44] ++ t ++ ByteArray.mk #[93])] W fun e w' => ∃ g, e = .returned (.tuple #[.pointer (some ⟨g, 0, none⟩), .int .i64 0]) ∧ IdxAt w' g (arrS s t) ∧ Below W.heap.size W w' from semiMake_ok (arrS s t) W ha (by omega)))
  have HKs := hid (fun g W hW => semiMarks_any g s W hW)
  have HKt := hid (fun g W hW => semiMarks_any g t W hW)
  have HKa := hid (fun g W hW => semiMarks_any g (arrS s t) W hW)
  have HIs := hid (fun g i W hW hT hi => semiMark_in g s i W hW hT (by omega) (by omega) hi)
  have HIt := hid (fun g i W hW hT hi => semiMark_in g t i W hW hT (by omega) (by omega) hi)
  have HIl := hid (fun g i W hW hT (hi : i < (places (nb s)).length) => (show Calls Tryd.prog 7 #[.pointer (some ⟨g, 0, none⟩), .int .i64 ((i + 1 : Nat) : Int)] W fun e w' => e = .returned (.tuple #[.int .i64 ((places (nb s))[i] + 1 : Nat), .int .i64 0]) ∧ Below W.heap.size W w' from by
    have h3 := arr2_left rs rt hi
    rw [← arrS_nb] at h3
    obtain ⟨h4, h5⟩ := List.getElem?_eq_some_iff.1 h3
    have := semiMark_in g (arrS s t) (i + 1) W hW hT (by omega) (by omega) h4
    rwa [h5] at this))
  have HIr := hid (fun g i W hW hT (hi : i < (places (nb t)).length) => (show Calls Tryd.prog 7 #[.pointer (some ⟨g, 0, none⟩), .int .i64 ((i + (places (nb s)).length + 2 : Nat) : Int)] W fun e w' => e = .returned (.tuple #[.int .i64 ((places (nb t))[i] + s.size + 2 : Nat), .int .i64 0]) ∧ Below W.heap.size W w' from by
    have h3 := arr2_right rs rt hi
    rw [← arrS_nb, nb_length] at h3
    obtain ⟨h4, h5⟩ := List.getElem?_eq_some_iff.1 h3
    have := semiMark_in g (arrS s t) (i + (places (nb s)).length + 2) W hW hT (by omega) (by omega) h4
    rwa [h5] at this))
  have HNs := hid (fun g W hW => semiNest_any g s W hW)
  have HNt := hid (fun g W hW => semiNest_any g t W hW)
  have HNa := hid (fun g W hW => semiNest_any g (arrS s t) W hW)
  have HOs := hid (fun q W hW => (show Calls Tryd.prog 9 #[.pointer (some ⟨q, 0, none⟩)] W fun e w' => e = .returned (.int .i64 ((places (nb s)).length : Nat)) ∧ W = w' from by have := nNodes_any q (parens (nb s)) W hW; rwa [text_nodes xs] at this))
  have HOt := hid (fun q W hW => (show Calls Tryd.prog 9 #[.pointer (some ⟨q, 0, none⟩)] W fun e w' => e = .returned (.int .i64 ((places (nb t)).length : Nat)) ∧ W = w' from by have := nNodes_any q (parens (nb t)) W hW; rwa [text_nodes xt] at this))
  have HOa := hid (fun q W hW => (show Calls Tryd.prog 9 #[.pointer (some ⟨q, 0, none⟩)] W fun e w' => e = .returned (.int .i64 ((places (nb s)).length + (places (nb t)).length + 3 : Nat)) ∧ W = w' from by have := nNodes_any q (parens (nb (arrS s t))) W hW; rwa [text_nodes (by rw [arrS_nb]; exact xa), pa] at this))
  have PLs := hid (fun i (h : i < (places (nb s)).length) => (show (places (nb s))[i] < 150 from by have := places_lt (nb s) _ (List.getElem_mem h); omega))
  have PLt := hid (fun i (h : i < (places (nb t)).length) => (show (places (nb t))[i] < 150 from by have := places_lt (nb t) _ (List.getElem_mem h); omega))
  rw [pa] at HKa
  clear hs ht hns hnt xs xt rs rt xa hna ha pa
  generalize places (nb s) = Ps at *
  generalize places (nb t) = Pt at *
  go_enter Tryd.func3, Tryd.ntmps3
  go_wp2_with fail
  refine (awake14 _).mono ?_
  rintro e w1 ⟨rfl, hB1⟩
  go_wp2_with fail
  refine (HMs.out _).mono ?_
  rintro e w2 ⟨gs, rfl, hgs, hB2⟩
  have hB12 := hB1.trans (hB2.mono hB1.size)
  clear hB1 hB2
  go_wp2_with fail
  refine (HMt.out _).mono ?_
  rintro e w3 ⟨gt, rfl, hgt, hB3⟩
  have hgs3 := hgs.below hB3
  have hB13 := hB12.trans (hB3.mono hB12.size)
  clear hB12 hB3 hgs
  go_wp2_with fail
  refine (HMa.out _).mono ?_
  rintro e w4 ⟨ga, rfl, hga, hB4⟩
  have hgs4 := hgs3.below hB4
  have hgt4 := hgt.below hB4
  have hB14 := hB13.trans (hB4.mono hB13.size)
  have hz4 := hB14.size
  have hT4 := hT.below hB14
  clear hB13 hB4 hgs3 hgt
  go_wp2_with fail
  refine (HKa.out _ _ hga).mono ?_
  rintro e w' ⟨rfl, rfl⟩
  go_wp2_with fail
  refine (HKs.out _ _ hgs4).mono ?_
  rintro e w' ⟨rfl, rfl⟩
  go_wp2_with fail
  refine (HKt.out _ _ hgt4).mono ?_
  rintro e w' ⟨rfl, rfl⟩
  go_wp2_with fail
  go_loopw [11] (fun iv wr => ∃ k : Nat, k ≤ Ps.length ∧ iv = .int .i64 (k : Nat) ∧ Below w4.heap.size w4 wr) (fun iv _ => Ps.length - (intOf iv).toNat)
  case atStart => exact ⟨0, Nat.zero_le _, rfl, Below.refl _ _⟩
  case round =>
    obtain ⟨k, hk, rfl, hB⟩ := hrel
    have is1 := hgs4.below hB
    have aa := hga.below hB
    have hz := hB.size
    rcases Nat.lt_or_ge k Ps.length with hlt | hge
    · have hkI : (k : Int) < (Ps.length : Int) := by omega
      have J1 := hid (fun W hW hT => HIs.out gs k W hW hT hlt)
      have J2 := hid (fun W hW hT => HIl.out ga k W hW hT hlt)
      have hv := PLs.out k hlt
      generalize Ps[k] = v at *
      go_wp2_with fail
      refine (HKs.out _ _ is1).mono ?_
      rintro e w' ⟨rfl, rfl⟩
      go_wp2_with fail
      refine (J1.out _ is1 (hT4.below hB)).mono ?_
      rintro e w5 ⟨rfl, hB5⟩
      have hB5' := hB.trans (hB5.mono hz)
      have hsm : ((k + 1 : Nat) : Int) = (k : Int) + 1 := by omega
      have J3 := J2.out _ (hga.below hB5') (hT4.below hB5')
      rw [hsm] at J3
      go_wp2_with fail
      refine J3.mono ?_
      rintro e w6 ⟨rfl, hB6⟩
      have hB6' := hB5'.trans (hB6.mono hB5'.size)
      have hne : (((v + 1 : Nat) : Int) != (v : Int) + 1) = false := by simp
      go_wp2_with fail
      exact ⟨⟨k + 1, by omega, by go_num, hB6'⟩, by simp [intOf]; omega⟩
    · obtain rfl : k = Ps.length := by omega
      have hkI : ¬ ((Ps.length : Int) < (Ps.length : Int)) := by omega
      go_wp2_with fail
      refine (HKs.out _ _ is1).mono ?_
      rintro e w' ⟨rfl, rfl⟩
      go_wp2_with fail
      go_loopw [16] (fun iv wq => ∃ k : Nat, k ≤ Pt.length ∧ iv = .int .i64 (k : Nat) ∧ Below w4.heap.size w4 wq) (fun iv _ => Pt.length - (intOf iv).toNat)
      case atStart => exact ⟨0, Nat.zero_le _, rfl, hB⟩
      case round =>
        obtain ⟨k, hk, rfl, hB2⟩ := hrel
        have is2 := hgs4.below hB2
        have it2 := hgt4.below hB2
        have hz2 := hB2.size
        rcases Nat.lt_or_ge k Pt.length with hlt | hge
        · have hkI : (k : Int) < (Pt.length : Int) := by omega
          have J1 := hid (fun W hW hT => HIt.out gt k W hW hT hlt)
          have J2 := hid (fun W hW hT => HIr.out ga k W hW hT hlt)
          have hv := PLt.out k hlt
          generalize Pt[k] = v at *
          go_wp2_with fail
          refine (HKt.out _ _ it2).mono ?_
          rintro e w' ⟨rfl, rfl⟩
          go_wp2_with fail
          refine (J1.out _ it2 (hT4.below hB2)).mono ?_
          rintro e w5 ⟨rfl, hB5⟩
          have hB5' := hB2.trans (hB5.mono hz2)
          have hsm : ((k + Ps.length + 2 : Nat) : Int) = (k : Int) + (Ps.length : Int) + 2 := by omega
          have J3 := hid (J2.out _ (hga.below hB5') (hT4.below hB5'))
          rw [hsm] at J3
          have is5 := hgs4.below hB5'
          have hvv : ((v + s.size + 2 : Nat) : Int) = (v : Int) + (s.size : Int) + 2 := by omega
          rw [hvv] at J3
          go_wp2_with fail
          refine (HKs.out _ _ is5).mono ?_
          rintro e w' ⟨rfl, rfl⟩
          go_wp2_with fail
          refine J3.out.mono ?_
          rintro e w6 ⟨rfl, hB6⟩
          have hB6' := hB5'.trans (hB6.mono hB5'.size)
          have hne : (((v : Int) + (s.size : Int) + 2) != (v : Int) + (s.size : Int) + 2) = false := by simp
          go_wp2_with fail
          exact ⟨⟨k + 1, by omega, by go_num, hB6'⟩, by simp [intOf]; omega⟩
        · obtain rfl : k = Pt.length := by omega
          have hkI : ¬ ((Pt.length : Int) < (Pt.length : Int)) := by omega
          have ia2 := hga.below hB2
          go_wp2_with fail
          refine (HKt.out _ _ it2).mono ?_
          rintro e w' ⟨rfl, rfl⟩
          go_wp2_with fail
          refine (HNa.out _ _ ia2).mono ?_
          rintro e w' ⟨qa, rfl, hqa, rfl⟩
          go_wp2_with fail
          refine (HOa.out _ _ hqa).mono ?_
          rintro e w' ⟨rfl, rfl⟩
          go_wp2_with fail
          refine (HNs.out _ _ is2).mono ?_
          rintro e w' ⟨qs, rfl, hqs, rfl⟩
          go_wp2_with fail
          refine (HOs.out _ _ hqs).mono ?_
          rintro e w' ⟨rfl, rfl⟩
          go_wp2_with fail
          refine (HNt.out _ _ it2).mono ?_
          rintro e w' ⟨qt, rfl, hqt, rfl⟩
          go_wp2_with fail
          refine (HOt.out _ _ hqt).mono ?_
          rintro e w' ⟨rfl, rfl⟩
          go_wp2_with fail
          go_ret
          exact ⟨by simp, hB14.trans (hB2.mono hz4)⟩

theorem lawSemiTwo_any (s t : ByteArray) (w : World) (hT : Tab w) :
    Calls Tryd.prog 3 #[.string s, .string t] w fun e w' => e = .returned (.bool true) ∧ Below w.heap.size w w' := by
  by_cases h : 150 < s.size ∨ 150 < t.size
  · exact lawSemiTwo_long s t w h
  · by_cases h2 : lookN (nb s) ≠ 0 ∨ lookN (nb t) ≠ 0
    · exact lawSemiTwo_bad s t w (by omega) (by omega) h2
    · exact lawSemiTwo_ok s t w (by omega) (by omega) (by omega) (by omega) hT
end Go.Proofs.YtacllonekidocaaDoor
