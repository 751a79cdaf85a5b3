/- Walks: reference 09: how far bytes are alive that begin with no scalar. -/
import Derived.Test.YtegoephanphnkaaRefH
import Derived.Test.YtegoephanphnkaaNbExt
set_option linter.unusedVariables false
set_option linter.unusedSimpArgs false
set_option maxRecDepth 100000
namespace Go.Proofs.Ytegoephanphnkaa
open Go.RowKit Go.Shelf L

set_option maxHeartbeats 1000000 in
theorem live_any (s : ByteArray) (m : Nat) (w : World) (hs : s.size ≤ 65536) (hd : DiesAt (nb s) m) :
    Calls Try.prog 53 #[.string s] w fun e w' => e = .returned (.int .i64 (m : Nat)) ∧ Below w.heap.size w w' := by
  have hll := nb_length s
  have HL := hid hll
  have hm3 := hd.1
  have hms := hd.2.1
  rw [hll] at hms
  have HD := hid hd
  clear hd hll
  have hB0 := Below.refl w.heap.size w
  go_enter Try.func53, Try.ntmps53
  go_wp2_with fail
  have key : ∀ (w1 : World), Below w.heap.size w w1 → True := fun _ _ => trivial
  go_loopw [3] (fun av wr => av = .int .i64 0 ∧ Below w.heap.size w wr) (fun _ _ => 0)
  case atStart => exact ⟨rfl, hB0⟩
  case round =>
    obtain ⟨rfl, hB1⟩ := hrel
    clear hB0 key
    have h00 : (0 : Int) ≤ (s.size : Int) := by omega
    rcases Nat.eq_zero_or_pos s.size with h0 | h0
    · have h0I : decide ((0 : Int) < (s.size : Int)) = false := decide_eq_false (by omega)
      have h0N : ¬ (0 < s.size) := by omega
      have hm0 := hid (show m = 0 by omega)
      clear h0
      go_wp2_with fail
      go_loopw [6] (fun kv wr => ∃ k : Nat, kv = .int .i64 (k : Nat) ∧ k ≤ m ∧ Below w.heap.size w wr) (fun kv _ => 3 - (intOf kv).toNat)
      case atStart => exact ⟨0, rfl, by omega, hB1⟩
      case round =>
        clear hB1
        obtain ⟨k, rfl, hk, hB1⟩ := hrel
        have hkm := hid (show k = m by have := hm0.out; omega)
        have hg1 : decide ((k : Int) < 3) = true := decide_eq_true (by have := hm0.out; omega)
        have hg2 : decide ((k : Int) < (s.size : Int)) = false := decide_eq_false (by omega)
        have hg2N : ¬ (k < s.size) := by omega
        have hkW : IntKind.i64.wrap (k : Int) = (k : Int) := by rw [IntKind.wrap_i64]; omega
        go_wp2_with fail
        go_ret
        exact ⟨by have e := hkm.out; subst e; rfl, hB1⟩
    · have h0I : decide ((0 : Int) < (s.size : Int)) = true := decide_eq_true (by omega)
      have HSC := hid (fun W => scalar_any s W hs)
      have hn0 := hid (scN_dies HD.out)
      go_wp2_with fail
      (with_reducible refine (HSC.out _).mono ?_)
      rintro e w2 ⟨c2, rfl, hb2⟩
      rw [hn0.out]
      have hB2 : Below w.heap.size w w2 := hB1.trans (hb2.mono hB1.size)
      clear hB1 hb2
      go_wp2_with fail
      go_loopw [6] (fun kv wr => ∃ k : Nat, kv = .int .i64 (k : Nat) ∧ k ≤ m ∧ Below w.heap.size w wr) (fun kv _ => 4 - (intOf kv).toNat)
      case atStart => exact ⟨0, rfl, by omega, hB2⟩
      case round =>
        clear hB2
        obtain ⟨k, rfl, hk, hB1⟩ := hrel
        have hkW : IntKind.i64.wrap (k : Int) = (k : Int) := by rw [IntKind.wrap_i64]; omega
        have hkW1 : IntKind.i64.wrap ((k : Int) + 1) = (k : Int) + 1 := by rw [IntKind.wrap_i64]; omega
        rcases Nat.lt_or_ge k 3 with hk3 | hk3
        · have hg1 : decide ((k : Int) < 3) = true := decide_eq_true (by omega)
          rcases Nat.lt_or_ge k s.size with hks | hks
          · have hg2 : decide ((k : Int) < (s.size : Int)) = true := decide_eq_true (by omega)
            have hks1 : (k : Int) + 1 ≤ (s.size : Int) := by omega
            have hk10 : (0 : Int) ≤ (k : Int) + 1 := by omega
            have hkT : ((k : Int) + 1).toNat = k + 1 := by omega
            have HX2 := hid (nb_take s (k + 1))
            have HPA := hid (fun W => part_any (s.extract 0 (k + 1)) W (by have := nb_length (s.extract 0 (k + 1)); rw [HX2.out, List.length_take, HL.out] at this; omega) (by have := nb_length (s.extract 0 (k + 1)); rw [HX2.out, List.length_take, HL.out] at this; omega))
            have HAL := hid (dies_part HD.out (by rw [HL.out]; exact hks) hk)
            by_cases hkm : k < m
            · have HOK := hid (fun ok (h : ok = true ↔ AllAlive (nb (s.extract 0 (k + 1)))) => (show ok = true from h.2 (by rw [HX2.out]; exact HAL.out.2 hkm)))
              go_wp2_with (go_at_call 59; refine (HPA.out _).mono ?_; rintro e w3 ⟨ok, rfl, hok, hb3⟩; obtain rfl := HOK.out _ hok)
              have hB3 : Below w.heap.size w w3 := hB1.trans (hb3.mono hB1.size)
              go_roundw
              case rel => exact ⟨k + 1, by go_num, by omega, hB3⟩
              case measure => simp [intOf]; omega
            · have HOK := hid (fun ok (h : ok = true ↔ AllAlive (nb (s.extract 0 (k + 1)))) => (show ok = false from by
                cases ok
                · rfl
                · exact absurd (HAL.out.1 (by rw [← HX2.out]; exact h.1 rfl)) hkm))
              have hkm2 := hid (show k = m by omega)
              go_wp2_with (go_at_call 59; refine (HPA.out _).mono ?_; rintro e w3 ⟨ok, rfl, hok, hb3⟩; obtain rfl := HOK.out _ hok)
              have hB3 : Below w.heap.size w w3 := hB1.trans (hb3.mono hB1.size)
              go_ret
              exact ⟨by have e := hkm2.out; subst e; rfl, hB3⟩
          · have hg2 : decide ((k : Int) < (s.size : Int)) = false := decide_eq_false (by omega)
            have hg2N : ¬ (k < s.size) := by omega
            have hkm2 := hid (show k = m by omega)
            go_wp2_with fail
            go_ret
            exact ⟨by have e := hkm2.out; subst e; rfl, hB1⟩
        · have hg1 : decide ((k : Int) < 3) = false := decide_eq_false (by omega)
          have hg1N : ¬ (k < 3) := by omega
          have hkm2 := hid (show k = m by omega)
          go_wp2_with fail
          go_ret
          exact ⟨by have e := hkm2.out; subst e; rfl, hB1⟩

end Go.Proofs.Ytegoephanphnkaa
