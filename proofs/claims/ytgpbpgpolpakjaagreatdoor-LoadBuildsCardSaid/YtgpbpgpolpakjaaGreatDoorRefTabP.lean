/- The texts RefTabA, RefTabD, in one. -/
import Derived.Test.YtgpbpgpolpakjaaGreatDoorTabE
import Derived.Test.YtgpbpgpolpakjaaGreatDoorBitsP
import Derived.Deep.RegionHeld3
/- Walks: reference 25: eight bytes, a number, a table's head and bytes. -/



set_option linter.unusedVariables false
set_option linter.unusedSimpArgs false
set_option maxRecDepth 100000
namespace Go.Proofs.YtgpbpgpolpakjaaGreatDoor
open Go.RowKit Go.Shelf L

set_option maxHeartbeats 1000000 in
theorem refEight25_any (v : Nat) (w : World) (hv : v < 18446744073709551616) :
    Calls Tryz.prog 23 #[.int .u64 (v : Nat)] w fun e w' => e = .returned (.string ⟨(leB v 8).toArray⟩) ∧ Below w.heap.size w w' := by
  obtain ⟨i0, hi, hz0, hz1, hz2⟩ := info_parts Tryz.infoU8
  go_enter Tryz.func23, Tryz.ntmps23
  go_wp2_with fail
  go_loopw [3, 4] (fun out i wr => ∃ (k : Nat) (A : Option Addr) (c : Nat), k ≤ 8 ∧ i = .int .i64 k ∧ out = .slice A k c ∧ wr.ownsRow w.heap.size 5 1 (.slice A k c) k (Lib.byteCells (leB v k)) ∧ Below w.heap.size w wr) (fun _ i _ => 8 - (intOf i).toNat)
  case atStart => exact ⟨0, none, 0, by omega, rfl, rfl, World.ownsRow_nil _ _ _ _, Below.refl _ _⟩
  case round =>
    obtain ⟨k, A, c, hk, rfl, rfl, hown, hB⟩ := hrel
    have hsz := hB.size
    rcases Nat.lt_or_ge k 8 with hlt | hge
    · have hlti : (k : Int) < 8 := by omega
      have H1 := hid (show Lib.byteCells (leB v k) ++ [.int .u8 ((v : Int) / 2 ^ (8 * k) % 256)] = Lib.byteCells (leB v (k + 1)) by
        rw [leB_succ, byteCells_append, byteCells_one, show (256 : Nat) ^ k = 2 ^ (8 * k) from by rw [Nat.pow_mul]]; simp)
      go_wp2_with (at_builtin
                   go_must (refine wpList_append_more _ rfl (.tmp 9) (.tmp 15) _ rfl w.heap.size 5 i0 _ 1 Tryz.underlying117 hi hz0 hz1 hz2 rfl (.slice A k c) k (Lib.byteCells (leB v k)) rfl ?hown (some ⟨wr.heap.size, 0, none⟩) 1 1 [.int .u8 ((v : Int) / 2 ^ (8 * k) % 256)] rfl ?hls rfl ?h1 ?h63 ?hby ?hbs _ rfl ?_)
                   go_must (case hown => exact hown.alloc _)
                   go_must (case hls => exact lst_one _ _ _ _ rfl)
                   go_must (case h1 => simp [Value.oneCell'])
                   go_must (case h63 => simp only [maxLen]; omega)
                   go_must (case hby => omega)
                   go_must (case hbs => simp; omega)
                   intro A2 c2 w2 hown2 hgr2 hat2)
      have hB2 : Below w.heap.size w w2 := (hB.alloc hsz _).grown hgr2 (by simp; omega) (fun j hj => (hown.lt j hj).1)
      rw [H1.out] at hown2
      clear hgr2 hat2
      go_roundw
      case rel => exact ⟨k + 1, A2, c2, by omega, by go_num, rfl, hown2, hB2⟩
      case measure => simp [intOf]; omega
    · obtain rfl : k = 8 := by omega
      have hcv : (convert 117 9 (.slice A 8 c)).run Tryz.prog wr = .ok (.string ⟨(leB v 8).toArray⟩) wr := by
        have := run_string_own (l := leB v 8) (by rw [leB_length]; exact hown)
        rwa [leB_length] at this
      go_wp2
      go_ret
      exact ⟨rfl, hB⟩

end Go.Proofs.YtgpbpgpolpakjaaGreatDoor

/- Plain: what places of a table's head hold, and what is read there, entry by entry. -/

set_option linter.unusedVariables false
set_option linter.unusedSimpArgs false
namespace Go.Proofs.YtgpbpgpolpakjaaGreatDoor
open Go.RowKit Go.Shelf L

end Go.Proofs.YtgpbpgpolpakjaaGreatDoor
