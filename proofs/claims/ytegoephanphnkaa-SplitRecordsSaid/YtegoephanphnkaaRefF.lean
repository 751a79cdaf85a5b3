/- Walks: reference 09: a scalar's bytes. -/
import Derived.Test.YtegoephanphnkaaRefC
import Derived.Test.YtegoephanphnkaaLawUtf
import Derived.Laws.BytesArg
set_option linter.unusedVariables false
set_option linter.unusedSimpArgs false
set_option maxRecDepth 100000
namespace Go.Proofs.Ytegoephanphnkaa
open Go.RowKit Go.Shelf L

/-- string(b) of cells in a block of their own. -/
theorem str_blk {w : World} {g n : Nat} {l : List Nat} (hn : l.length = n) (hg : BlkIs w g 5 (l.map fun x => Value.int .u8 (x : Nat)).toArray) :
    (convert 32 9 (.slice (some ⟨g, 0, none⟩) n n)).run Try.prog w = .ok (.string ⟨(l.map Nat.toUInt8).toArray⟩) w := by
  subst hn
  have := run_convert_bytes_arg w 32 5 Try.underlying32 Try.underlying5 g 0 l.length l.length (l.map (fun b : Nat => (b : Int))) (by simp) (fun i hi => by
    rw [Nat.zero_add, hg.cell i]
    simp [hi]) 9 Try.underlying9
  rw [this]
  congr 2
  apply ByteArray.ext
  apply Array.toList_inj.1
  rw [strOfNums_data, List.map_map]
  simp
theorem nb_str (l : List Nat) (h : ∀ x ∈ l, x < 256) : nb ⟨(l.map Nat.toUInt8).toArray⟩ = l := by
  show (l.map Nat.toUInt8).map UInt8.toNat = l
  rw [List.map_map]
  have : ∀ x ∈ l, (UInt8.toNat ∘ Nat.toUInt8) x = x := fun x hx => by
    show (Nat.toUInt8 x).toNat = x
    have := h x hx
    show x % 256 = x
    omega
  rw [List.map_congr_left this, List.map_id']

set_option maxHeartbeats 4000000 in
theorem put09_any (c : Nat) (w : World) (hc : c < 4194304) :
    Calls Try.prog 58 #[.int .i64 (c : Nat)] w fun e w' => ∃ S, e = .returned (.string S) ∧ nb S = putB c ∧ Below w.heap.size w w' := by
  have n0 : decide ((c : Int) < 0) = false := decide_eq_false (by omega)
  by_cases h1 : 1114111 < c
  · have hP : putB c = [] := by unfold putB; rw [if_pos (Or.inl h1)]
    have d1 : decide ((c : Int) > 1114111) = true := decide_eq_true (by omega)
    go_enter Try.func58, Try.ntmps58
    go_wp2_with fail
    go_ret
    exact ⟨_, rfl, by rw [hP]; rfl, Below.refl _ _⟩
  · have d1 : decide ((c : Int) > 1114111) = false := decide_eq_false (by omega)
    have d1N : ¬ (1114111 < c) := h1
    by_cases h2 : 55296 ≤ c ∧ c ≤ 57343
    · have hP : putB c = [] := by unfold putB; rw [if_pos (Or.inr h2)]
      have d2 : decide ((c : Int) ≥ 55296) = true := decide_eq_true (by omega)
      have d3 : decide ((c : Int) ≤ 57343) = true := decide_eq_true (by omega)
      go_enter Try.func58, Try.ntmps58
      go_wp2_with fail
      go_ret
      exact ⟨_, rfl, by rw [hP]; rfl, Below.refl _ _⟩
    · have hg : (decide ((c : Int) ≥ 55296) = false) ∨ (decide ((c : Int) ≥ 55296) = true ∧ decide ((c : Int) ≤ 57343) = false) := by
        by_cases h3 : 55296 ≤ c
        · exact Or.inr ⟨decide_eq_true (by omega), decide_eq_false (by omega)⟩
        · exact Or.inl (decide_eq_false (by omega))
      have hnot : ¬ (1114111 < c ∨ (55296 ≤ c ∧ c ≤ 57343)) := by omega
      have HNOT := hid hnot
      have HG := hid hg
      clear hnot hg h2
      by_cases h3 : c < 128
      · have HP := hid (show putB c = [c] by unfold putB; rw [if_neg HNOT.out, if_pos h3])
        have d4 : decide ((c : Int) < 128) = true := decide_eq_true (by omega)
        have d2 : decide ((c : Int) ≥ 55296) = false := decide_eq_false (by omega)
        have d2N : ¬ (55296 ≤ c) := by omega
        have wc : IntKind.u8.wrap (c : Int) = (c : Int) := by rw [IntKind.wrap_u8]; omega
        have hb := BlkIs.new w 5 #[.int .u8 (c : Nat)]
        have hcv := str_blk (n := 1) (l := [c]) rfl hb
        have hB := (Below.refl w.heap.size w).alloc (Nat.le_refl _) (.cells #[.int .u8 (c : Nat)] 5)
        go_enter Try.func58, Try.ntmps58
        go_wp2_with fail
        go_ret
        exact ⟨_, rfl, by rw [HP.out]; exact nb_str [c] (by simp; omega), hB⟩
      · have d4 : decide ((c : Int) < 128) = false := decide_eq_false (by omega)
        have d4N : ¬ (c < 128) := h3
        by_cases h4 : c < 2048
        · have HP := hid (show putB c = [192 + c / 64, 128 + c % 64] by unfold putB; rw [if_neg HNOT.out, if_neg h3, if_pos h4])
          have d5 : decide ((c : Int) < 2048) = true := decide_eq_true (by omega)
          have d2 : decide ((c : Int) ≥ 55296) = false := decide_eq_false (by omega)
          have d2N : ¬ (55296 ≤ c) := by omega
          obtain ⟨a, ha⟩ : ∃ a, a = 192 + c / 64 := ⟨_, rfl⟩
          obtain ⟨b, hb'⟩ : ∃ b, b = 128 + c % 64 := ⟨_, rfl⟩
          have a1 : 192 + (c : Int) / 64 = (a : Int) := by omega
          have a2 : 128 + (c : Int) % 64 = (b : Int) := by omega
          have wa : IntKind.u8.wrap (a : Int) = (a : Int) := by rw [IntKind.wrap_u8]; omega
          have wb : IntKind.u8.wrap (b : Int) = (b : Int) := by rw [IntKind.wrap_u8]; omega
          have wa2 : IntKind.i64.wrap (a : Int) = (a : Int) := by rw [IntKind.wrap_i64]; omega
          have wb2 : IntKind.i64.wrap (b : Int) = (b : Int) := by rw [IntKind.wrap_i64]; omega
          have wc2 : IntKind.i64.wrap ((c : Int) / 64) = (c : Int) / 64 := by rw [IntKind.wrap_i64]; omega
          have hb := BlkIs.new w 5 #[.int .u8 (a : Nat), .int .u8 (b : Nat)]
          have hcv := str_blk (n := 2) (l := [a, b]) rfl hb
          have hB := (Below.refl w.heap.size w).alloc (Nat.le_refl _) (.cells #[.int .u8 (a : Nat), .int .u8 (b : Nat)] 5)
          have HN := hid (show nb ⟨([a, b].map Nat.toUInt8).toArray⟩ = putB c by rw [nb_str [a, b] (by simp; omega), HP.out, ha, hb'])
          clear ha hb'
          go_enter Try.func58, Try.ntmps58
          go_wp2_with fail
          go_ret
          exact ⟨_, rfl, HN.out, hB⟩
        · have d5 : decide ((c : Int) < 2048) = false := decide_eq_false (by omega)
          have d5N : ¬ (c < 2048) := h4
          by_cases h5 : c < 65536
          · have HP := hid (show putB c = [224 + c / 4096, 128 + c / 64 % 64, 128 + c % 64] by unfold putB; rw [if_neg HNOT.out, if_neg h3, if_neg h4, if_pos h5])
            have d6 : decide ((c : Int) < 65536) = true := decide_eq_true (by omega)
            obtain ⟨a, ha⟩ : ∃ a, a = 224 + c / 4096 := ⟨_, rfl⟩
            obtain ⟨m, hm⟩ : ∃ m, m = 128 + c / 64 % 64 := ⟨_, rfl⟩
            obtain ⟨b, hb'⟩ : ∃ b, b = 128 + c % 64 := ⟨_, rfl⟩
            have a1 : 224 + (c : Int) / 4096 = (a : Int) := by omega
            have a3 : 128 + (c : Int) / 64 % 64 = (m : Int) := by omega
            have a2 : 128 + (c : Int) % 64 = (b : Int) := by omega
            have wa : IntKind.u8.wrap (a : Int) = (a : Int) := by rw [IntKind.wrap_u8]; omega
            have wm : IntKind.u8.wrap (m : Int) = (m : Int) := by rw [IntKind.wrap_u8]; omega
            have wb : IntKind.u8.wrap (b : Int) = (b : Int) := by rw [IntKind.wrap_u8]; omega
            have wa2 : IntKind.i64.wrap (a : Int) = (a : Int) := by rw [IntKind.wrap_i64]; omega
            have wm2 : IntKind.i64.wrap (m : Int) = (m : Int) := by rw [IntKind.wrap_i64]; omega
            have wb2 : IntKind.i64.wrap (b : Int) = (b : Int) := by rw [IntKind.wrap_i64]; omega
            have wc2 : IntKind.i64.wrap ((c : Int) / 64) = (c : Int) / 64 := by rw [IntKind.wrap_i64]; omega
            have wc3 : IntKind.i64.wrap ((c : Int) / 4096) = (c : Int) / 4096 := by rw [IntKind.wrap_i64]; omega
            have hb := BlkIs.new w 5 #[.int .u8 (a : Nat), .int .u8 (m : Nat), .int .u8 (b : Nat)]
            have hcv := str_blk (n := 3) (l := [a, m, b]) rfl hb
            have hB := (Below.refl w.heap.size w).alloc (Nat.le_refl _) (.cells #[.int .u8 (a : Nat), .int .u8 (m : Nat), .int .u8 (b : Nat)] 5)
            have HN := hid (show nb ⟨([a, m, b].map Nat.toUInt8).toArray⟩ = putB c by rw [nb_str [a, m, b] (by simp; omega), HP.out, ha, hb', hm])
            clear ha hb' hm
            rcases HG.out with d2 | ⟨d2, d3⟩
            · go_enter Try.func58, Try.ntmps58
              go_wp2_with fail
              go_ret
              exact ⟨_, rfl, HN.out, hB⟩
            · go_enter Try.func58, Try.ntmps58
              go_wp2_with fail
              go_ret
              exact ⟨_, rfl, HN.out, hB⟩
          · have HP := hid (show putB c = [240 + c / 262144, 128 + c / 4096 % 64, 128 + c / 64 % 64, 128 + c % 64] by unfold putB; rw [if_neg HNOT.out, if_neg h3, if_neg h4, if_neg h5])
            have d6 : decide ((c : Int) < 65536) = false := decide_eq_false (by omega)
            have d6N : ¬ (c < 65536) := h5
            have d2 : decide ((c : Int) ≥ 55296) = true := decide_eq_true (by omega)
            have d3 : decide ((c : Int) ≤ 57343) = false := decide_eq_false (by omega)
            have d3N : ¬ (c ≤ 57343) := by omega
            obtain ⟨a, ha⟩ : ∃ a, a = 240 + c / 262144 := ⟨_, rfl⟩
            obtain ⟨k, hk⟩ : ∃ k, k = 128 + c / 4096 % 64 := ⟨_, rfl⟩
            obtain ⟨m, hm⟩ : ∃ m, m = 128 + c / 64 % 64 := ⟨_, rfl⟩
            obtain ⟨b, hb'⟩ : ∃ b, b = 128 + c % 64 := ⟨_, rfl⟩
            have a1 : 240 + (c : Int) / 262144 = (a : Int) := by omega
            have a4 : 128 + (c : Int) / 4096 % 64 = (k : Int) := by omega
            have a3 : 128 + (c : Int) / 64 % 64 = (m : Int) := by omega
            have a2 : 128 + (c : Int) % 64 = (b : Int) := by omega
            have wa : IntKind.u8.wrap (a : Int) = (a : Int) := by rw [IntKind.wrap_u8]; omega
            have wk : IntKind.u8.wrap (k : Int) = (k : Int) := by rw [IntKind.wrap_u8]; omega
            have wm : IntKind.u8.wrap (m : Int) = (m : Int) := by rw [IntKind.wrap_u8]; omega
            have wb : IntKind.u8.wrap (b : Int) = (b : Int) := by rw [IntKind.wrap_u8]; omega
            have wa2 : IntKind.i64.wrap (a : Int) = (a : Int) := by rw [IntKind.wrap_i64]; omega
            have wk2 : IntKind.i64.wrap (k : Int) = (k : Int) := by rw [IntKind.wrap_i64]; omega
            have wm2 : IntKind.i64.wrap (m : Int) = (m : Int) := by rw [IntKind.wrap_i64]; omega
            have wb2 : IntKind.i64.wrap (b : Int) = (b : Int) := by rw [IntKind.wrap_i64]; omega
            have wc2 : IntKind.i64.wrap ((c : Int) / 64) = (c : Int) / 64 := by rw [IntKind.wrap_i64]; omega
            have wc3 : IntKind.i64.wrap ((c : Int) / 4096) = (c : Int) / 4096 := by rw [IntKind.wrap_i64]; omega
            have wc4 : IntKind.i64.wrap ((c : Int) / 262144) = (c : Int) / 262144 := by rw [IntKind.wrap_i64]; omega
            have hb := BlkIs.new w 5 #[.int .u8 (a : Nat), .int .u8 (k : Nat), .int .u8 (m : Nat), .int .u8 (b : Nat)]
            have hcv := str_blk (n := 4) (l := [a, k, m, b]) rfl hb
            have hB := (Below.refl w.heap.size w).alloc (Nat.le_refl _) (.cells #[.int .u8 (a : Nat), .int .u8 (k : Nat), .int .u8 (m : Nat), .int .u8 (b : Nat)] 5)
            have HN := hid (show nb ⟨([a, k, m, b].map Nat.toUInt8).toArray⟩ = putB c by rw [nb_str [a, k, m, b] (by simp; omega), HP.out, ha, hb', hm, hk])
            clear ha hb' hm hk
            go_enter Try.func58, Try.ntmps58
            go_wp2_with fail
            go_ret
            exact ⟨_, rfl, HN.out, hB⟩

end Go.Proofs.Ytegoephanphnkaa
