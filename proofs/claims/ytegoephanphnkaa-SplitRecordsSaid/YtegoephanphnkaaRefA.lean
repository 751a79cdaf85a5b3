/- Walks: reference 12: a bad place, blanks, a word, digits of units, an escape, digits. -/
import Derived.Test.YtegoephanphnkaaScanI
import Derived.Test.YtegoephanphnkaaLawScan
set_option linter.unusedVariables false
set_option linter.unusedSimpArgs false
set_option maxRecDepth 100000
namespace Go.Proofs.Ytegoephanphnkaa
open Go.RowKit Go.Shelf L

/-- What the reference tells of a place. -/
def RC (a : Nat) (ok : Bool) (deep : Nat) : Array Value := #[.int .i64 (a : Nat), .bool ok, .int .i64 (deep : Nat)]
def RR (a : Nat) (ok : Bool) (deep : Nat) : Value := .agg (RC a ok deep)
theorem Try.sizeR : (Try.prog.info? 56).map (·.size) = some 3 := by kernel_rfl

theorem ret_cell {F : Func} {p : Tmp} {Q : Ending → World → Prop} {a : Act} {w : World} {g : Nat} {x : Nat} {ok : Bool} {d : Nat} (hf : F.results = #[.cell p 56]) (hb : a.defers = []) (hp : a.tmps.getD p undef = .pointer (some ⟨g, 0, none⟩)) (hg : BlkIs w g 56 (RC x ok d)) (h : Q (.returned (RR x ok d)) w) :
    bodyPost Try.prog F Q Exit.ret a w :=
  bodyPost_ret (results_cell_row hf _ _ g 56 (RC x ok d) (0, 0) _ hp hg Try.underlying56 rfl Try.sizeR) hb h

set_option maxHeartbeats 1000000 in
theorem rbad_any (a : Nat) (w : World) :
    Calls Try.prog 42 #[.int .i64 (a : Nat)] w fun e w' => e = .returned (RR a false 0) ∧ Below w.heap.size w w' := by
  go_enter Try.func42, Try.ntmps42
  go_wp2_with fail
  exact ret_cell rfl rfl rfl (BlkIs.new w _ _) ⟨rfl, (Below.refl _ _).alloc (Nat.le_refl _) _⟩

set_option maxHeartbeats 2000000 in
theorem rblanks_any (s : ByteArray) (k : Nat) (w : World) (hk : k ≤ s.size) (hs : s.size ≤ 65536) :
    Calls Try.prog 36 #[.string s, .int .i64 (k : Nat)] w fun e w' => ∃ k' : Nat, e = .returned (.int .i64 (k' : Nat)) ∧ w = w' ∧ Blk (nb s) k k' := by
  have hll := nb_length s
  go_enter Try.func36, Try.ntmps36
  go_wp2_with fail
  go_loop [1] (fun i => ∃ k' : Nat, i = .int .i64 (k' : Nat) ∧ k ≤ k' ∧ k' ≤ s.size ∧ (∀ i, k ≤ i → i < k' → L.blank (at_ (nb s) i) = true)) (fun i => s.size - (intOf i).toNat)
  case atStart => exact ⟨k, rfl, Nat.le_refl _, hk, fun i h1 h2 => by omega⟩
  case round =>
    obtain ⟨k', rfl, hk1, hk2, hbl⟩ := hrel
    have HL := hid hbl
    clear hbl
    rcases Nat.lt_or_ge k' s.size with h | h
    · have HA := hid (at_nb s k' h)
      have hi : (k' : Int) < (s.size : Int) := by omega
      have hi2 : decide ((k' : Int) < (s.size : Int)) = true := decide_eq_true hi
      have x1 := wrap_one k' (by omega)
      cases hbk : L.blank (s[k']).toNat
      · have hn := (blank_not _).1 hbk
        have n1 : (((s[k']).toNat : Int) == 32) = false := by rw [beq_eq_false_iff_ne]; omega
        have n2 : (((s[k']).toNat : Int) == 9) = false := by rw [beq_eq_false_iff_ne]; omega
        have n3 : (((s[k']).toNat : Int) == 10) = false := by rw [beq_eq_false_iff_ne]; omega
        have n4 : (((s[k']).toNat : Int) == 13) = false := by rw [beq_eq_false_iff_ne]; omega
        have HK := hid hbk
        clear hbk hn
        go_wp2_with fail
        go_ret
        exact ⟨k', rfl, rfl, hk1, by rw [hll]; exact hk2, HL.out, fun _ => by rw [HA.out]; exact HK.out⟩
      · have hn := (blank_iff _).1 hbk
        have HK := hid hbk
        have hrel' : ∀ i, k ≤ i → i < k' + 1 → L.blank (at_ (nb s) i) = true := fun i h1 h2 => by
          rcases Nat.lt_or_ge i k' with h3 | h3
          · exact HL.out i h1 h3
          · obtain rfl : i = k' := by omega
            rw [HA.out]; exact HK.out
        have HR := hid hrel'
        clear hbk hrel'
        rcases hn with e | e | e | e
        · have eI : ((s[k']).toNat : Int) = 32 := by omega
          go_wp2_with fail
          go_round
          case rel => exact ⟨k' + 1, by go_num, by omega, by omega, HR.out⟩
          case measure => simp [intOf]; omega
        · have eI : ((s[k']).toNat : Int) = 9 := by omega
          go_wp2_with fail
          go_round
          case rel => exact ⟨k' + 1, by go_num, by omega, by omega, HR.out⟩
          case measure => simp [intOf]; omega
        · have eI : ((s[k']).toNat : Int) = 10 := by omega
          go_wp2_with fail
          go_round
          case rel => exact ⟨k' + 1, by go_num, by omega, by omega, HR.out⟩
          case measure => simp [intOf]; omega
        · have eI : ((s[k']).toNat : Int) = 13 := by omega
          go_wp2_with fail
          go_round
          case rel => exact ⟨k' + 1, by go_num, by omega, by omega, HR.out⟩
          case measure => simp [intOf]; omega
    · have hi : decide ((k' : Int) < (s.size : Int)) = false := decide_eq_false (by omega)
      have hiN : ¬ (k' < s.size) := by omega
      go_wp2_with fail
      go_ret
      exact ⟨k', rfl, rfl, hk1, by rw [hll]; exact hk2, HL.out, fun h3 => by rw [hll] at h3; omega⟩

set_option maxHeartbeats 2000000 in
theorem rhex_any (b : Nat) (w : World) (hb : b < 256) :
    Calls Try.prog 57 #[.int .u8 (b : Nat)] w fun e w' => e = .returned (.bool (hexd b)) ∧ w = w' := by
  have h6 : ∃ b1 b2 b3 b4 b5 b6 : Bool, (decide ((b : Int) ≥ 48) = b1 ∧ decide ((b : Int) ≤ 57) = b2 ∧ decide ((b : Int) ≥ 97) = b3 ∧ decide ((b : Int) ≤ 102) = b4 ∧ decide ((b : Int) ≥ 65) = b5 ∧ decide ((b : Int) ≤ 70) = b6) ∧
      [(false, true, false, true, false, true), (true, true, false, true, false, true), (true, false, false, true, false, true), (true, false, false, true, true, true), (true, false, false, true, true, false), (true, false, true, true, true, false), (true, false, true, false, true, false)].contains (b1, b2, b3, b4, b5, b6) = true ∧
      hexd b = ((b1 && b2) || (b3 && b4) || (b5 && b6)) := by
    refine ⟨_, _, _, _, _, _, ⟨rfl, rfl, rfl, rfl, rfl, rfl⟩, ?_, ?_⟩
    · simp only [List.contains_eq_mem, List.mem_cons, Prod.mk.injEq, decide_eq_true_eq, decide_eq_false_iff_not, List.not_mem_nil, or_false]
      omega
    · unfold hexd
      congr 1
      · congr 1
        · congr 1 <;> (apply Bool.eq_iff_iff.2; simp only [decide_eq_true_eq]; omega)
        · congr 1 <;> (apply Bool.eq_iff_iff.2; simp only [decide_eq_true_eq]; omega)
      · congr 1 <;> (apply Bool.eq_iff_iff.2; simp only [decide_eq_true_eq]; omega)
  obtain ⟨b1, b2, b3, b4, b5, b6, ⟨h1, h2, h3, h4, h5, h6⟩, hm, hR⟩ := h6
  rw [hR]
  clear hR
  simp only [List.contains_eq_mem, List.mem_cons, Prod.mk.injEq, decide_eq_true_eq, List.not_mem_nil, or_false] at hm
  rcases hm with ⟨rfl, rfl, rfl, rfl, rfl, rfl⟩ | ⟨rfl, rfl, rfl, rfl, rfl, rfl⟩ | ⟨rfl, rfl, rfl, rfl, rfl, rfl⟩ | ⟨rfl, rfl, rfl, rfl, rfl, rfl⟩ | ⟨rfl, rfl, rfl, rfl, rfl, rfl⟩ | ⟨rfl, rfl, rfl, rfl, rfl, rfl⟩ | ⟨rfl, rfl, rfl, rfl, rfl, rfl⟩
  all_goals
    go_enter Try.func57, Try.ntmps57
    go_wp2
    go_ret
    exact ⟨rfl, rfl⟩

set_option maxHeartbeats 2000000 in
theorem rdigits_any (s : ByteArray) (k : Nat) (w : World) (hk : k ≤ s.size) (hs : s.size ≤ 65536) :
    Calls Try.prog 55 #[.string s, .int .i64 (k : Nat)] w fun e w' => ∃ n : Nat, e = .returned (.int .i64 (n : Nat)) ∧ w = w' ∧ Dg (nb s) k (k + n) := by
  have hll := nb_length s
  go_enter Try.func55, Try.ntmps55
  go_wp2_with fail
  go_loop [5] (fun i => ∃ n : Nat, i = .int .i64 (n : Nat) ∧ k + n ≤ s.size ∧ (∀ i, k ≤ i → i < k + n → L.digit (at_ (nb s) i) = true)) (fun i => s.size - (intOf i).toNat)
  case atStart => exact ⟨0, rfl, hk, fun i h1 h2 => by omega⟩
  case round =>
    obtain ⟨n, rfl, hk2, hbl⟩ := hrel
    have HL := hid hbl
    clear hbl
    obtain ⟨p, hp⟩ : ∃ p, p = k + n := ⟨_, rfl⟩
    have hpI : (k : Int) + (n : Int) = (p : Int) := by omega
    have hpW : IntKind.i64.wrap (p : Int) = (p : Int) := by rw [IntKind.wrap_i64]; omega
    have hnW := wrap_one n (by omega)
    have HP := hid hp
    have hps : p ≤ s.size := by omega
    clear hp
    rcases Nat.lt_or_ge p s.size with h | h
    · have HA := hid (at_nb s p h)
      have hi : (p : Int) < (s.size : Int) := by omega
      have hi2 : decide ((p : Int) < (s.size : Int)) = true := decide_eq_true hi
      rcases Nat.lt_or_ge (s[p]).toNat 48 with g1 | g1
      · have d1 : decide (((s[p]).toNat : Int) ≥ 48) = false := decide_eq_false (by omega)
        have d1N : ¬ (48 ≤ (s[p]).toNat) := by omega
        have HD := hid ((digit_not _).2 (Or.inl g1))
        clear g1
        go_wp2_with fail
        go_ret
        exact ⟨n, rfl, rfl, by omega, by rw [hll]; exact hk2, HL.out, by rw [← HP.out, HA.out]; exact HD.out⟩
      · have d1 : decide (((s[p]).toNat : Int) ≥ 48) = true := decide_eq_true (by omega)
        rcases Nat.lt_or_ge 57 (s[p]).toNat with g2 | g2
        · have d2 : decide (((s[p]).toNat : Int) ≤ 57) = false := decide_eq_false (by omega)
          have d2N : ¬ ((s[p]).toNat ≤ 57) := by omega
          have HD := hid ((digit_not _).2 (Or.inr g2))
          clear g2
          go_wp2_with fail
          go_ret
          exact ⟨n, rfl, rfl, by omega, by rw [hll]; exact hk2, HL.out, by rw [← HP.out, HA.out]; exact HD.out⟩
        · have d2 : decide (((s[p]).toNat : Int) ≤ 57) = true := decide_eq_true (by omega)
          have HD := hid ((digit_iff _).2 ⟨g1, g2⟩)
          have HN := hid (show k + (n + 1) ≤ s.size by have := HP.out; omega)
          go_wp2_with fail
          go_round
          case rel => exact ⟨n + 1, by go_num, HN.out, fun i h1 h2 => by
            rcases Nat.lt_or_ge i (k + n) with h3 | h3
            · exact HL.out i h1 h3
            · obtain rfl : i = p := by have := HP.out; omega
              rw [HA.out]; exact HD.out⟩
          case measure => simp [intOf]; have := HN.out; omega
    · have hi : decide ((p : Int) < (s.size : Int)) = false := decide_eq_false (by omega)
      have hiN : ¬ (p < s.size) := by omega
      go_wp2_with fail
      go_ret
      exact ⟨n, rfl, rfl, by omega, by rw [hll]; exact hk2, HL.out, by rw [← HP.out, at_out (by rw [hll]; omega)]; rfl⟩

end Go.Proofs.Ytegoephanphnkaa
