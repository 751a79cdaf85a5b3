/- Walks: the laws of chapter 12 that ask no reference: texts within brackets. -/
import Derived.Test.YtegoephanphnkaaLScanB
set_option linter.unusedVariables false
set_option linter.unusedSimpArgs false
set_option linter.unusedSectionVars false
set_option maxRecDepth 100000
namespace Go.Proofs.Ytegoephanphnkaa
open Go.RowKit Go.Shelf L

/-- Two texts in brackets. -/
def L.nestX (o : Bool) (l r : List Nat) : List Nat := if o then [123, 34, 97, 34, 58] ++ l ++ [44, 34, 34, 58] ++ r ++ [125] else [91] ++ l ++ [44] ++ r ++ [93]
theorem L.nest_ok (o : Bool) {l r : List Nat} (hl : okv l) (hr : okv r) : okv (nestX o l r) ∧ (goA L.start (nestX o l r) 0).1.most = max (goA L.start l 0).1.most (goA L.start r 0).1.most + 1 := by
  have hd : drive L.start (nestX o l r) = some (Q 5 [] (max (goA L.start l 0).1.most (goA L.start r 0).1.most + 1)) := by
    cases o
    · exact nest_arr hl.1 hl.2 hr.1 hr.2
    · exact nest_obj hl.1 hl.2 hr.1 hr.2
  have h := drive_to_goA hd 0
  unfold okv
  rw [h]
  exact ⟨⟨by show 0 + _ = _; omega, rfl⟩, rfl⟩
theorem L.nest_len (o : Bool) (l r : List Nat) : (nestX o l r).length ≤ l.length + r.length + 10 := by
  cases o
  · show ([91] ++ l ++ [44] ++ r ++ [93]).length ≤ _
    simp only [List.length_append, List.length_cons, List.length_nil]; omega
  · show ([123, 34, 97, 34, 58] ++ l ++ [44, 34, 34, 58] ++ r ++ [125]).length ≤ _
    simp only [List.length_append, List.length_cons, List.length_nil]; omega

def nestS (o : Bool) (s t : ByteArray) : ByteArray := if o then ByteArray.mk #[123, 34, 97, 34, 58] ++ s ++ ByteArray.mk #[44, 34, 34, 58] ++ t ++ ByteArray.mk #[125] else ByteArray.mk #[91] ++ s ++ ByteArray.mk #[44] ++ t ++ ByteArray.mk #[93]
theorem nestS_nb (o : Bool) (s t : ByteArray) : nb (nestS o s t) = nestX o (nb s) (nb t) := by
  cases o
  · show nb (ByteArray.mk #[91] ++ s ++ ByteArray.mk #[44] ++ t ++ ByteArray.mk #[93]) = _
    simp only [nb_append]; rfl
  · show nb (ByteArray.mk #[123, 34, 97, 34, 58] ++ s ++ ByteArray.mk #[44, 34, 34, 58] ++ t ++ ByteArray.mk #[125]) = _
    simp only [nb_append]; rfl
theorem about_nb (x : ByteArray) : nb (ByteArray.mk #[32] ++ x ++ ByteArray.mk #[10]) = [32] ++ nb x ++ [10] := by
  simp only [nb_append]; rfl

set_option maxHeartbeats 4000000 in
theorem nests_any (s t : ByteArray) (o : Bool) (w : World) :
    Calls Try.prog 5 #[.string s, .string t, .bool o] w fun e w' => e = .returned (.bool true) ∧ Below w.heap.size w w' := by
  have hls := nb_length s
  have hlt := nb_length t
  rcases Nat.lt_or_ge 140 s.size with h3 | h3
  · have d1 : decide ((s.size : Int) > 140) = true := decide_eq_true (by omega)
    go_enter Try.func5, Try.ntmps5
    go_wp2_with fail
    refine (awake12 _).mono ?_
    rintro e w1 ⟨rfl, hB1⟩
    go_wp2_with fail
    refine (awake12 _).mono ?_
    rintro e w2 ⟨rfl, hB2⟩
    go_wp2_with fail
    go_ret
    exact ⟨rfl, hB1.trans (hB2.mono hB1.size)⟩
  · have d1 : decide ((s.size : Int) > 140) = false := decide_eq_false (by omega)
    have d1N : ¬ (140 < s.size) := by omega
    rcases Nat.lt_or_ge 140 t.size with h4 | h4
    · have d2 : decide ((t.size : Int) > 140) = true := decide_eq_true (by omega)
      go_enter Try.func5, Try.ntmps5
      go_wp2_with fail
      refine (awake12 _).mono ?_
      rintro e w1 ⟨rfl, hB1⟩
      go_wp2_with fail
      refine (awake12 _).mono ?_
      rintro e w2 ⟨rfl, hB2⟩
      go_wp2_with fail
      go_ret
      exact ⟨rfl, hB1.trans (hB2.mono hB1.size)⟩
    · have d2 : decide ((t.size : Int) > 140) = false := decide_eq_false (by omega)
      have d2N : ¬ (140 < t.size) := by omega
      by_cases hok : okv (nb s)
      · have hv := verd_ok4 (by omega) hok
        have hm := most_le (nb s)
        by_cases hok2 : okv (nb t)
        · have hv2 := verd_ok4 (by omega) hok2
          have hm2 := most_le (nb t)
          obtain ⟨hxk, hxm⟩ := nest_ok o hok hok2
          have hxl := nest_len o (nb s) (nb t)
          generalize (goA L.start (nb s) 0).1.most = d at *
          generalize (goA L.start (nb t) 0).1.most = c at *
          obtain ⟨k, hk⟩ : ∃ k, k = max d c + 1 := ⟨_, rfl⟩
          obtain ⟨j, hj⟩ : ∃ j, j = max (k - 1) 1 := ⟨_, rfl⟩
          rw [← hk] at hxm
          have hX := verd_ok (deep := k) (by omega) hxk
          rw [hxm, if_neg (by omega)] at hX
          have hY := about_ok (A := [32]) (B := [10]) (l := nestX o (nb s) (nb t)) (by decide) (by decide) (by rw [List.length_append, List.length_append]; simp only [List.length_cons, List.length_nil]; omega) j hxk
          rw [verd_ok (deep := j) (by omega) hxk, hxm] at hY
          have hmx : max (d : Int) (c : Int) + 1 = (k : Int) := by omega
          have hmx0 : max (d : Int) (c : Int) = ((k - 1 : Nat) : Int) := by omega
          have hkk : ((k - 1 : Nat) : Int) + 1 = (k : Int) := by omega
          have hkW : IntKind.i64.wrap (k : Int) = (k : Int) := by rw [IntKind.wrap_i64]; omega
          have hkW2 : IntKind.i64.wrap ((k : Int) - 1) = (k : Int) - 1 := by rw [IntKind.wrap_i64]; omega
          have hmj : max ((k : Int) - 1) 1 = (j : Int) := by omega
          have HV := hid (fun w => valid_at s 4096 4096 rfl _ rfl 1 d hv (by omega) (by omega) w)
          have HT := hid (fun w => valid_at t 4096 4096 rfl _ rfl 1 c hv2 (by omega) (by omega) w)
          have HX := hid (fun w => valid_at (nestS o s t) k k rfl _ (nestS_nb o s t) 1 k hX (by omega) (by omega) w)
          have hxs : nb (ByteArray.mk #[32] ++ nestS o s t ++ ByteArray.mk #[10]) = [32] ++ nestX o (nb s) (nb t) ++ [10] := by rw [about_nb, nestS_nb]
          by_cases hk1 : k = 1
          · rw [if_neg (by omega)] at hY
            have HY := hid (fun w => valid_at (ByteArray.mk #[32] ++ nestS o s t ++ ByteArray.mk #[10]) j j rfl _ hxs 1 k hY (by omega) (by omega) w)
            have hk1b : ((k : Int) == 1) = true := by rw [beq_iff_eq]; omega
            have HK1 := hid hk1
            clear hk1 hv hv2 hok hok2 hxk hxm hxl hX hY hxs hk hj hls hlt hm hm2
            cases o
            all_goals
              unfold nestS at HX HY
              simp only [Bool.false_eq_true, if_false, if_true] at HX HY
              go_enter Try.func5, Try.ntmps5
              go_wp2_with fail
              refine (awake12 _).mono ?_
              rintro e w1 ⟨rfl, hB1⟩
              go_wp2_with fail
              refine (HV.out _).mono ?_
              rintro e w2 ⟨rfl, hB2⟩
              go_wp2_with fail
              refine (HT.out _).mono ?_
              rintro e w3 ⟨rfl, hB3⟩
              go_wp2_with fail
              refine (HX.out _).mono ?_
              rintro e w4 ⟨rfl, hB4⟩
              go_wp2_with fail
              refine (HY.out _).mono ?_
              rintro e w5 ⟨rfl, hB5⟩
              go_wp2_with fail
              go_ret
              have hk1 := HK1.out
              exact ⟨by first | rfl | (simp; omega), hB1.trans ((hB2.mono hB1.size).trans ((hB3.mono (Nat.le_trans hB1.size hB2.size)).trans ((hB4.mono (Nat.le_trans hB1.size (Nat.le_trans hB2.size hB3.size))).trans (hB5.mono (Nat.le_trans hB1.size (Nat.le_trans hB2.size (Nat.le_trans hB3.size hB4.size)))))))⟩
          · rw [if_pos (by omega)] at hY
            have HY := hid (fun w => valid_at (ByteArray.mk #[32] ++ nestS o s t ++ ByteArray.mk #[10]) j j rfl _ hxs 2 k hY (by omega) (by omega) w)
            have HK1 := hid hk1
            clear hk1 hv hv2 hok hok2 hxk hxm hxl hX hY hxs hk hj hls hlt hm hm2
            cases o
            all_goals
              unfold nestS at HX HY
              simp only [Bool.false_eq_true, if_false, if_true] at HX HY
              go_enter Try.func5, Try.ntmps5
              go_wp2_with fail
              refine (awake12 _).mono ?_
              rintro e w1 ⟨rfl, hB1⟩
              go_wp2_with fail
              refine (HV.out _).mono ?_
              rintro e w2 ⟨rfl, hB2⟩
              go_wp2_with fail
              refine (HT.out _).mono ?_
              rintro e w3 ⟨rfl, hB3⟩
              go_wp2_with fail
              refine (HX.out _).mono ?_
              rintro e w4 ⟨rfl, hB4⟩
              go_wp2_with fail
              refine (HY.out _).mono ?_
              rintro e w5 ⟨rfl, hB5⟩
              go_wp2_with fail
              go_ret
              have hk1 := HK1.out
              exact ⟨by first | rfl | (simp; omega), hB1.trans ((hB2.mono hB1.size).trans ((hB3.mono (Nat.le_trans hB1.size hB2.size)).trans ((hB4.mono (Nat.le_trans hB1.size (Nat.le_trans hB2.size hB3.size))).trans (hB5.mono (Nat.le_trans hB1.size (Nat.le_trans hB2.size (Nat.le_trans hB3.size hB4.size)))))))⟩
        · have hv2 := verd_no (deep := 4096) (by omega) hok2
          have HV := hid (fun w => valid_at s 4096 4096 rfl _ rfl 1 _ hv (by omega) (by omega) w)
          have HT := hid (fun w => valid_at t 4096 4096 rfl _ rfl 3 _ hv2 (by omega) (by omega) w)
          generalize (goA L.start (nb s) 0).1.most = d at *
          generalize (goA L.start (nb t) 0).2 = c at *
          clear hv hv2 hok hok2 hls hlt hm
          go_enter Try.func5, Try.ntmps5
          go_wp2_with fail
          refine (awake12 _).mono ?_
          rintro e w1 ⟨rfl, hB1⟩
          go_wp2_with fail
          refine (HV.out _).mono ?_
          rintro e w2 ⟨rfl, hB2⟩
          go_wp2_with fail
          refine (HT.out _).mono ?_
          rintro e w3 ⟨rfl, hB3⟩
          go_wp2_with fail
          go_ret
          exact ⟨rfl, hB1.trans ((hB2.mono hB1.size).trans (hB3.mono (Nat.le_trans hB1.size hB2.size)))⟩
      · have hv := verd_no (deep := 4096) (by omega) hok
        obtain ⟨y, z, hv2⟩ : ∃ y z, verd (nb t) 4096 = (y, z) := ⟨_, _, rfl⟩
        have HV := hid (fun w => valid_at s 4096 4096 rfl _ rfl 3 _ hv (by omega) (by omega) w)
        have HT := hid (fun w => valid_at t 4096 4096 rfl _ rfl y z hv2 (by omega) (by omega) w)
        generalize (goA L.start (nb s) 0).2 = d at *
        clear hv hv2 hok hls hlt
        go_enter Try.func5, Try.ntmps5
        go_wp2_with fail
        refine (awake12 _).mono ?_
        rintro e w1 ⟨rfl, hB1⟩
        go_wp2_with fail
        refine (HV.out _).mono ?_
        rintro e w2 ⟨rfl, hB2⟩
        go_wp2_with fail
        refine (HT.out _).mono ?_
        rintro e w3 ⟨rfl, hB3⟩
        go_wp2_with fail
        go_ret
        exact ⟨rfl, hB1.trans ((hB2.mono hB1.size).trans (hB3.mono (Nat.le_trans hB1.size hB2.size)))⟩

end Go.Proofs.Ytegoephanphnkaa
