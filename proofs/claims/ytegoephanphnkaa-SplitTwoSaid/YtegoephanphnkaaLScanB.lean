/- Walks: the laws of chapter 12 that ask no reference: blanks about a text; texts within brackets. -/
import Derived.Test.YtegoephanphnkaaLScanA
import Derived.Test.YtegoephanphnkaaLawScanB
set_option linter.unusedVariables false
set_option linter.unusedSimpArgs false
set_option linter.unusedSectionVars false
set_option maxRecDepth 100000
namespace Go.Proofs.Ytegoephanphnkaa
open Go.RowKit Go.Shelf L

section
variable {A B l : List Nat} (hA : ∀ c ∈ A, L.blank c = true) (hB : ∀ c ∈ B, L.blank c = true)
include hA hB
theorem L.about_go : goA L.start (A ++ l ++ B) 0 = ((goA L.start (l ++ B) 0).1, (goA L.start (l ++ B) 0).2 + A.length) := by
  rw [List.append_assoc, start_blanks A (l ++ B) 0 hA, goA_shift]
theorem L.about_ok (hl : (A ++ l ++ B).length ≤ 65536) (deep : Nat) (h : okv l) : verd (A ++ l ++ B) deep = verd l deep := by
  have hg := about_go (l := l) hA hB
  obtain ⟨h1, h2⟩ := h
  have h3 := goA_on l B L.start 0 (by omega)
  obtain ⟨f1, f2, f3⟩ := fin_blanks B (goA L.start l 0).1 (0 + l.length) hB h2
  rw [← h3] at f1 f2 f3
  rw [List.length_append, List.length_append] at hl
  have hok : okv (A ++ l ++ B) := by
    refine ⟨?_, by rw [hg]; exact f2⟩
    rw [hg, List.length_append, List.length_append]
    show (goA L.start (l ++ B) 0).2 + _ = _
    omega
  rw [verd_ok (by rw [List.length_append, List.length_append]; omega) hok, verd_ok (by omega) ⟨h1, h2⟩, hg]
  show (if deep < (goA L.start (l ++ B) 0).1.most then _ else _) = _
  rw [f3]
theorem L.about_no (hl : (A ++ l ++ B).length ≤ 65536) (deep : Nat) (h : ¬ okv l) (h2 : (goA L.start l 0).2 < l.length) : verd (A ++ l ++ B) deep = (3, (goA L.start l 0).2 + A.length) := by
  have hg := about_go (l := l) hA hB
  have h3 := goA_append l B L.start 0 (by omega)
  rw [h3] at hg
  have hno : ¬ okv (A ++ l ++ B) := by
    rintro ⟨e, _⟩
    rw [hg, List.length_append, List.length_append] at e
    simp only [] at e
    omega
  rw [verd_no hl hno, hg]
theorem L.about_end (hl : (A ++ l ++ B).length ≤ 65536) (deep : Nat) (h : ¬ okv l) (h2 : ¬ (goA L.start l 0).2 < l.length) : ∃ x, (goA L.start l 0).2 + A.length ≤ x ∧ x ≤ 65536 ∧ verd (A ++ l ++ B) deep = (3, x) := by
  have hg := about_go (l := l) hA hB
  have hge := goA_ge l L.start 0
  have he : (goA L.start l 0).2 = 0 + l.length := by omega
  have h3 := goA_on l B L.start 0 he
  have hf : fin (goA L.start l 0).1 = false := by
    cases hf : fin (goA L.start l 0).1 with
    | false => rfl
    | true => exact absurd ⟨by omega, hf⟩ h
  have hs := small_go l L.start 0 small_start
  rw [he] at hs
  have hnf := nofin_blanks B _ _ hs hB hf
  rw [← h3] at hnf
  have hno : ¬ okv (A ++ l ++ B) := by
    rintro ⟨_, e⟩
    rw [hg] at e
    simp only [] at e
    rw [hnf] at e; cases e
  have hge2 := goA_ge B (goA L.start l 0).1 (0 + l.length)
  rw [← h3] at hge2
  rw [List.length_append, List.length_append] at hl
  refine ⟨_, ?_, ?_, verd_no (by rw [List.length_append, List.length_append]; exact hl) hno⟩
  · rw [hg]; simp only []; omega
  · rw [hg]; simp only []; omega
end

def bl19 : ByteArray := { data := #[32, 9, 10, 13, 32, 32, 13, 10, 9, 32, 9, 10, 13, 32, 32, 13, 10, 9, 32] }
theorem bl19_blank (k : Nat) : ∀ c ∈ nb (bl19.extract 0 k), L.blank c = true := by
  intro c hc
  rw [nb_take] at hc
  have h1 : ∀ c ∈ nb bl19, L.blank c = true := by decide
  exact h1 c (List.mem_of_mem_take hc)
theorem bl19_len (k : Nat) (h : k ≤ 10) : (nb (bl19.extract 0 k)).length = k := by
  rw [nb_take, List.length_take]
  have : (nb bl19).length = 19 := by decide
  omega

set_option maxHeartbeats 2000000 in
theorem blanks_any (s : ByteArray) (n m : Nat) (w : World) (hs : s.size ≤ 9223372036854775807) (hn : n < 256) (hm : m < 256) :
    Calls Try.prog 8 #[.string s, .int .u8 (n : Nat), .int .u8 (m : Nat)] w fun e w' => e = .returned (.bool true) ∧ Below w.heap.size w w' := by
  have hll := nb_length s
  rcases Nat.lt_or_ge 250 s.size with h3 | h3
  · have d1 : decide ((s.size : Int) > 250) = true := decide_eq_true (by omega)
    go_enter Try.func8, Try.ntmps8
    go_wp2_with fail
    refine (awake12 _).mono ?_
    rintro e w1 ⟨rfl, hB1⟩
    go_wp2_with fail
    refine (awake12 _).mono ?_
    rintro e w2 ⟨rfl, hB2⟩
    go_wp2_with fail
    go_ret
    exact ⟨rfl, hB1.trans (hB2.mono hB1.size)⟩
  · have d1 : decide ((s.size : Int) > 250) = false := decide_eq_false (by omega)
    have d1N : ¬ (250 < s.size) := by omega
    obtain ⟨k, hk⟩ : ∃ k, k = n % 11 := ⟨_, rfl⟩
    obtain ⟨j, hj⟩ : ∃ j, j = m % 11 := ⟨_, rfl⟩
    have hkI : (n : Int) % 11 = (k : Int) := by omega
    have hjI : (m : Int) % 11 = (j : Int) := by omega
    have hkT : (n : Int).tmod 11 = (k : Int) := by rw [Int.tmod_eq_emod_of_nonneg (by omega)]; exact hkI
    have hjT : (m : Int).tmod 11 = (j : Int) := by rw [Int.tmod_eq_emod_of_nonneg (by omega)]; exact hjI
    have hkW : IntKind.u8.wrap (k : Int) = (k : Int) := by rw [IntKind.wrap_u8]; omega
    have hjW : IntKind.u8.wrap (j : Int) = (j : Int) := by rw [IntKind.wrap_u8]; omega
    have hkV : IntKind.i64.wrap (k : Int) = (k : Int) := by rw [IntKind.wrap_i64]; omega
    have hjV : IntKind.i64.wrap (j : Int) = (j : Int) := by rw [IntKind.wrap_i64]; omega
    have hk0 : (0 : Int) ≤ (k : Int) := by omega
    have hj0 : (0 : Int) ≤ (j : Int) := by omega
    have hk10 : k ≤ 10 := by omega
    have hj10 : j ≤ 10 := by omega
    have hk19 : (k : Int) ≤ 19 := by omega
    have hj19 : (j : Int) ≤ 19 := by omega
    have hA := bl19_blank k
    have hB := bl19_blank j
    have hAl := bl19_len k hk10
    have hBl := bl19_len j hj10
    have hAs : (bl19.extract 0 k).size = k := by rw [← nb_length]; exact hAl
    have hcat : nb (bl19.extract 0 k ++ s ++ bl19.extract 0 j) = nb (bl19.extract 0 k) ++ nb s ++ nb (bl19.extract 0 j) := by rw [nb_append, nb_append]
    have hlen : (nb (bl19.extract 0 k) ++ nb s ++ nb (bl19.extract 0 j)).length ≤ 65536 := by
      rw [List.length_append, List.length_append, hAl, hBl, hll]; omega
    have hV0 : ∃ v p, verd (nb s) 5 = (v, p) := ⟨_, _, rfl⟩
    clear hk hj
    by_cases hok : okv (nb s)
    · have hv2 := about_ok hA hB hlen 5 hok
      obtain ⟨v, p, hv⟩ := hV0
      rw [hv] at hv2
      have hv3 : ((v : Int) != 3) = true := by
        rw [bne_iff_ne]
        rw [verd_ok (by rw [hll]; omega) hok] at hv
        split at hv <;> (injection hv with hv _; omega)
      have HV := hid (fun w => valid_at s 5 5 rfl _ rfl v p hv (by omega) (by omega) w)
      have HX := hid (fun w => valid_at _ 5 5 rfl _ hcat v p hv2 (by omega) (by omega) w)
      clear hv hv2 hok hcat hlen hA hB hAl hBl hll
      unfold bl19 at *
      go_enter Try.func8, Try.ntmps8
      go_wp2_with fail
      refine (awake12 _).mono ?_
      rintro e w1 ⟨rfl, hB1⟩
      go_wp2_with fail
      go_quiet (fail)
      go_wp2_with fail
      refine (HV.out _).mono ?_
      rintro e w2 ⟨rfl, hB2⟩
      go_wp2_with fail
      refine (HX.out _).mono ?_
      rintro e w3 ⟨rfl, hB3⟩
      go_wp2_with fail
      go_ret
      have hB1' := below_drewN hB1 nq
      exact ⟨rfl, hB1'.trans ((hB2.mono hB1'.size).trans (hB3.mono (Nat.le_trans hB1'.size hB2.size)))⟩
    · have hv := verd_no (deep := 5) (by omega) hok
      by_cases hlt : (goA L.start (nb s) 0).2 < (nb s).length
      · have hv2 := about_no hA hB hlen 5 hok hlt
        rw [hAl] at hv2
        rw [hll] at hlt
        generalize (goA L.start (nb s) 0).2 = p at *
        have hltI : (p : Int) < (s.size : Int) := by omega
        have hpk : IntKind.i64.wrap ((p : Int) + (k : Int)) = (p : Int) + (k : Int) := by rw [IntKind.wrap_i64]; omega
        have hpk2 : ((p + k : Nat) : Int) = (p : Int) + (k : Int) := by omega
        have HV := hid (fun w => valid_at s 5 5 rfl _ rfl 3 p hv (by omega) (by omega) w)
        have HX := hid (fun w => valid_at _ 5 5 rfl _ hcat 3 (p + k) hv2 (by omega) (by omega) w)
        clear hv hv2 hok hcat hlen hA hB hAl hBl hll hV0
        unfold bl19 at *
        go_enter Try.func8, Try.ntmps8
        go_wp2_with fail
        refine (awake12 _).mono ?_
        rintro e w1 ⟨rfl, hB1⟩
        go_wp2_with fail
        go_quiet (fail)
        go_wp2_with fail
        refine (HV.out _).mono ?_
        rintro e w2 ⟨rfl, hB2⟩
        go_wp2_with fail
        refine (HX.out _).mono ?_
        rintro e w3 ⟨rfl, hB3⟩
        go_wp2_with fail
        go_ret
        have hB1' := below_drewN hB1 nq
        exact ⟨rfl, hB1'.trans ((hB2.mono hB1'.size).trans (hB3.mono (Nat.le_trans hB1'.size hB2.size)))⟩
      · obtain ⟨x, hx1, hx2, hv2⟩ := about_end hA hB hlen 5 hok hlt
        rw [hAl] at hx1
        rw [hll] at hlt
        have hge := (goA_ge (nb s) L.start 0).2
        rw [hll] at hge
        generalize (goA L.start (nb s) 0).2 = p at *
        have hltI : ¬ ((p : Int) < (s.size : Int)) := by omega
        have hpk : IntKind.i64.wrap ((p : Int) + (k : Int)) = (p : Int) + (k : Int) := by rw [IntKind.wrap_i64]; omega
        have hxx : decide ((x : Int) ≥ (p : Int) + (k : Int)) = true := decide_eq_true (by omega)
        have hxx2 : (p : Int) + (k : Int) ≤ (x : Int) := by omega
        have HV := hid (fun w => valid_at s 5 5 rfl _ rfl 3 p hv (by omega) (by omega) w)
        have HX := hid (fun w => valid_at _ 5 5 rfl _ hcat 3 x hv2 (by omega) (by omega) w)
        clear hv hv2 hok hcat hlen hA hB hAl hBl hll hV0
        unfold bl19 at *
        go_enter Try.func8, Try.ntmps8
        go_wp2_with fail
        refine (awake12 _).mono ?_
        rintro e w1 ⟨rfl, hB1⟩
        go_wp2_with fail
        go_quiet (fail)
        go_wp2_with fail
        refine (HV.out _).mono ?_
        rintro e w2 ⟨rfl, hB2⟩
        go_wp2_with fail
        refine (HX.out _).mono ?_
        rintro e w3 ⟨rfl, hB3⟩
        go_wp2_with fail
        go_ret
        have hB1' := below_drewN hB1 nq
        exact ⟨rfl, hB1'.trans ((hB2.mono hB1'.size).trans (hB3.mono (Nat.le_trans hB1'.size hB2.size)))⟩

end Go.Proofs.Ytegoephanphnkaa
