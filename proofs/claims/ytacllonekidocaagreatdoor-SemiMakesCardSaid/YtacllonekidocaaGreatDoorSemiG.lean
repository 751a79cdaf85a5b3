/- Walks: the bytes of an index: a number's eight bytes, all of them; the reference's. -/
import Derived.Test.YtacllonekidocaaGreatDoorSemiF
import Derived.Test.YtacllonekidocaaGreatDoorFanoQ
import Derived.Test.YtacllonekidocaaGreatDoorBitsP
import Derived.Test.YtacllonekidocaaGreatDoorRefFano
set_option linter.unusedVariables false
set_option linter.unusedSimpArgs false
set_option maxRecDepth 100000
namespace Go.Proofs.YtacllonekidocaaGreatDoor
open Go.RowKit Go.Shelf L

theorem made_bytes14 (n : Nat) : (madeCells (Value.int .u8 0).cells (n * 1)).toList = Lib.byteCells (List.replicate n 0) := by
  have e : (Value.int .u8 0).cells = #[.int .u8 0] := rfl
  rw [e, Nat.mul_one]
  unfold madeCells Lib.byteCells
  apply List.ext_getElem
  · simp
  · intro i h1 h2
    simp [Nat.mod_one]
set_option maxHeartbeats 1000000 in
theorem semiLength_any (n : Nat) (w : World) (hn : n < 9223372036854775808) :
    Calls Tryz.prog 43 #[.int .i64 (n : Nat)] w fun e w' => e = .returned (.string ⟨(leB n 8).toArray⟩) ∧ Below w.heap.size w w' := by
  obtain ⟨i0, hi0, iz0, iz1, iz2⟩ := info_parts Tryz.infoU8
  have hB00 : Below w.heap.size w w := Below.refl _ _
  go_enter Tryz.func43, Tryz.ntmps43
  go_wp2_with (first
    | (at_make
       go_must (refine wpList_make_full _ rfl (.const (.int .i64 8)) (.const (.int .i64 8)) _ rfl w.heap.size 5 i0 (.int .u8 0) 1 Tryz.underlying24 hi0 iz0 iz1 .i64 .i64 _ _ 8 rfl rfl rfl rfl (by rw [iz2]; omega) (by unfold maxLen; omega) (Nat.le_refl _) ?_)
       intro w3 hown3 hgr3))
  have hB3 : Below w.heap.size w w3 := hB00.grown hgr3 (Nat.le_refl _) (fun k hk => by cases hk)
  have hrep : (madeCells (Value.int .u8 0).cells (8 * 1)).toList = Lib.byteCells (leB n 0 ++ List.replicate 8 0) := made_bytes14 8
  rw [hrep] at hown3
  clear hgr3 hrep
  go_wp2_with fail
  go_loopw [8] (fun iv wr => ∃ k : Nat, k ≤ 8 ∧ iv = .int .i64 (k : Nat) ∧ wr.ownsRow w.heap.size 5 1 (.slice (some ⟨w.heap.size, 0, none⟩) 8 8) 8 (Lib.byteCells (leB n k ++ List.replicate (8 - k) 0)) ∧ Below w.heap.size w wr) (fun iv _ => 8 - (intOf iv).toNat)
  case atStart => exact ⟨0, by omega, rfl, hown3, hB3⟩
  case round =>
    obtain ⟨k, hk, rfl, hown, hB⟩ := hrel
    clear hown3 hB3
    rcases Nat.lt_or_ge k 8 with hlt | hge
    · have hkI : (k : Int) < 8 := by omega
      have hk0 : (0 : Int) ≤ (k : Int) := by omega
      have hst := hown.stored k (.int .u8 ((n : Int) / 2 ^ (8 * k) % 256))
      have hlist : (Lib.byteCells (leB n k ++ List.replicate (8 - k) 0)).set k (.int .u8 ((n : Int) / 2 ^ (8 * k) % 256)) = Lib.byteCells (leB n (k + 1) ++ List.replicate (8 - (k + 1)) 0) := by
        rw [leB_succ, byteCells_append, byteCells_append, byteCells_append, List.set_append_right _ _ (by rw [Lib.byteCells_length, leB_length]; exact Nat.le_refl _), Lib.byteCells_length, leB_length, Nat.sub_self, show 8 - k = (8 - (k + 1)) + 1 from by omega, List.replicate_succ, byteCells_one, show (256 : Nat) ^ k = 2 ^ (8 * k) from by rw [Nat.pow_mul]]
        show Lib.byteCells (leB n k) ++ (Value.int .u8 ((n : Int) / 2 ^ (8 * k) % 256) :: Lib.byteCells (List.replicate (8 - (k + 1)) 0)) = Lib.byteCells (leB n k) ++ [Value.int .u8 ((n / 2 ^ (8 * k) % 256 : Nat) : Int)] ++ Lib.byteCells (List.replicate (8 - (k + 1)) 0)
        have ev : ((n / 2 ^ (8 * k) % 256 : Nat) : Int) = (n : Int) / 2 ^ (8 * k) % 256 := by simp
        rw [List.append_assoc, ev]; rfl
      rw [hlist] at hst
      obtain ⟨u, cw⟩ : ∃ u, wr.cell? ⟨w.heap.size, k, none⟩ = some u := ⟨_, (hown.cellAt k (by omega)).trans (List.getElem?_eq_getElem (by have := hown.1; omega))⟩
      have fw := hown.frozenAt k
      have hBs : Below w.heap.size w (wr.setCell ⟨w.heap.size, k, none⟩ (.int .u8 ((n : Int) / 2 ^ (8 * k) % 256))) := hB.setCell (Nat.le_refl _) _
      have ho := hid hst.1
      clear hst hlist hown
      go_wp2_with fail
      go_roundw
      case rel => exact ⟨k + 1, by omega, by go_num, ho.out, hBs⟩
      case measure => simp [intOf]; omega
    · obtain rfl : k = 8 := by omega
      have hown8 : wr.ownsRow w.heap.size 5 1 (.slice (some ⟨w.heap.size, 0, none⟩) 8 8) 8 (Lib.byteCells (leB n 8)) := by simpa using hown
      have hcv : (convert 24 9 (.slice (some ⟨w.heap.size, 0, none⟩) 8 8)).run Tryz.prog wr = .ok (.string ⟨(leB n 8).toArray⟩) wr := by
        have := run_string_own (l := leB n 8) (by rw [leB_length]; exact hown8)
        rwa [leB_length] at this
      go_wp2_with (simp only [hcv])
      go_ret
      exact ⟨rfl, hB⟩
set_option maxHeartbeats 1000000 in
theorem refEight14_any (v : Nat) (w : World) (hv : v < 9223372036854775808) :
    Calls Tryz.prog 52 #[.int .i64 (v : Nat)] w fun e w' => e = .returned (.string ⟨(leB v 8).toArray⟩) ∧ Below w.heap.size w w' := by
  obtain ⟨i0, hi, hz0, hz1, hz2⟩ := info_parts Tryz.infoU8
  go_enter Tryz.func52, Tryz.ntmps52
  go_wp2_with fail
  go_loopw [3, 4] (fun out i wr => ∃ (k : Nat) (A : Option Addr) (c : Nat), k ≤ 8 ∧ i = .int .i64 k ∧ out = .slice A k c ∧ wr.ownsRow w.heap.size 5 1 (.slice A k c) k (Lib.byteCells (leB v k)) ∧ Below w.heap.size w wr) (fun _ i _ => 8 - (intOf i).toNat)
  case atStart => exact ⟨0, none, 0, by omega, rfl, rfl, World.ownsRow_nil _ _ _ _, Below.refl _ _⟩
  case round =>
    obtain ⟨k, A, c, hk, rfl, rfl, hown, hB⟩ := hrel
    have hsz := hB.size
    rcases Nat.lt_or_ge k 8 with hlt | hge
    · have hlti : (k : Int) < 8 := by omega
      have H1 := hid (show Lib.byteCells (leB v k) ++ [.int .u8 ((v : Int) / 2 ^ (8 * k) % 256)] = Lib.byteCells (leB v (k + 1)) by
        rw [leB_succ, byteCells_append, byteCells_one, show (256 : Nat) ^ k = 2 ^ (8 * k) from by rw [Nat.pow_mul]]; simp)
      go_wp2_with (at_builtin
                   go_must (refine wpList_append_more _ rfl (.tmp 9) (.tmp 15) _ rfl w.heap.size 5 i0 _ 1 Tryz.underlying24 hi hz0 hz1 hz2 rfl (.slice A k c) k (Lib.byteCells (leB v k)) rfl ?hown (some ⟨wr.heap.size, 0, none⟩) 1 1 [.int .u8 ((v : Int) / 2 ^ (8 * k) % 256)] rfl ?hls rfl ?h1 ?h63 ?hby ?hbs _ rfl ?_)
                   go_must (case hown => exact hown.alloc _)
                   go_must (case hls => exact lst_one _ _ _ _ rfl)
                   go_must (case h1 => simp [Value.oneCell'])
                   go_must (case h63 => simp only [maxLen]; omega)
                   go_must (case hby => omega)
                   go_must (case hbs => simp; omega)
                   intro A2 c2 w2 hown2 hgr2 hat2)
      have hB2 : Below w.heap.size w w2 := (hB.alloc hsz _).grown hgr2 (by simp; omega) (fun j hj => (hown.lt j hj).1)
      rw [H1.out] at hown2
      clear hgr2 hat2
      go_roundw
      case rel => exact ⟨k + 1, A2, c2, by omega, by go_num, rfl, hown2, hB2⟩
      case measure => simp [intOf]; omega
    · obtain rfl : k = 8 := by omega
      have hcv : (convert 24 9 (.slice A 8 c)).run Tryz.prog wr = .ok (.string ⟨(leB v 8).toArray⟩) wr := by
        have := run_string_own (l := leB v 8) (by rw [leB_length]; exact hown)
        rwa [leB_length] at this
      go_wp2
      go_ret
      exact ⟨rfl, hB⟩
end Go.Proofs.YtacllonekidocaaGreatDoor
