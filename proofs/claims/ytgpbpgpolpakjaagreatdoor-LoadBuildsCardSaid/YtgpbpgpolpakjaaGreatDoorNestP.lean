/- The texts NestA, NestB, in one. -/
import Derived.Test.YtgpbpgpolpakjaaGreatDoorMinmaxP
import Derived.Test.YtgpbpgpolpakjaaGreatDoorChooseP
import Derived.Test.YtgpbpgpolpakjaaGreatDoorMathsB
import Derived.Test.YtgpbpgpolpakjaaGreatDoorMaths
/- Walks: trees of parentheses (nest): the nest, its nodes. -/



set_option linter.unusedVariables false
set_option linter.unusedSimpArgs false
set_option maxRecDepth 100000
namespace Go.Proofs.YtgpbpgpolpakjaaGreatDoor
open Go.RowKit L

/-- A nest in memory. -/
def NestAt (w : World) (s : Nat) (bs : List Bool) : Prop :=
  ∃ gx gt gl gc gd A c h Ad cd A1 c1 l1 A0 c0 l0, BlkIs w s 139 #[.pointer (some ⟨gx, 0, none⟩), .pointer (some ⟨gt, 0, none⟩), .pointer (some ⟨gc, 0, none⟩)] ∧ TreeAt w gt gl gx A c bs h ∧ ChooserAt w gc gd gx A c bs Ad cd A1 c1 l1 A0 c0 l0
theorem NestAt.below {w w' : World} {s : Nat} {bs : List Bool} (h : NestAt w s bs) (hb : Below w.heap.size w w') : NestAt w' s bs := by
  obtain ⟨gx, gt, gl, gc, gd, A, c, hh, Ad, cd, A1, c1, l1, A0, c0, l0, h1, h2, h3⟩ := h
  exact ⟨gx, gt, gl, gc, gd, A, c, hh, Ad, cd, A1, c1, l1, A0, c0, l0, h1.below hb, h2.below hb, h3.below hb⟩
theorem NestAt.small {w : World} {s : Nat} {bs : List Bool} (h : NestAt w s bs) : bs.length ≤ 4294967296 := by
  obtain ⟨gx, gt, gl, gc, gd, A, c, hh, Ad, cd, A1, c1, l1, A0, c0, l0, h1, h2, h3⟩ := h
  exact h2.row.small
set_option maxHeartbeats 400000 in
theorem nestNew_any (gx : Nat) (A : Option Addr) (c : Nat) (bs : List Bool) (w : World) (hr : RowAt w gx A c bs) (hb : bal (bitAt bs) bs.length = true) :
    Calls Tryz.prog 33 #[.pointer (some ⟨gx, 0, none⟩)] w fun e w' => ∃ s, e = .returned (.tuple #[.pointer (some ⟨s, 0, none⟩), .int .i64 0]) ∧ NestAt w' s bs ∧ Below w.heap.size w w' := by
  have HBA := hid (fun g gl h W t => by have := mmBalanced_any g gl gx A c bs h W t; rwa [hb] at this)
  clear hb
  go_enter Tryz.func33, Tryz.ntmps33
  go_wp2_with fail
  refine (mmNew_any gx A c bs w hr).mono ?_
  rintro e w1 ⟨gl, h, rfl, ht, hB1⟩
  have hz1 := hB1.size
  have hr1 := hr.below hB1
  go_wp2_with fail
  refine (HBA.out _ _ _ _ ht).mono ?_
  rintro e w' ⟨rfl, rfl⟩
  go_wp2_with fail
  refine (chooseNew_any gx A c bs w1 hr1).mono ?_
  rintro e w2 ⟨gc, gd, Ad, cd, A1, c1, l1, A0, c0, l0, rfl, hc, hB2, _⟩
  have hB := hB1.trans (hB2.mono hz1)
  have hz := hB.size
  have ht2 := ht.below hB2
  go_wp2_with fail
  go_ret2
  have hbx := (Below.refl w2.heap.size w2).alloc (Nat.le_refl _) (.cells #[.pointer (some ⟨gx, 0, none⟩), .pointer (some ⟨w.heap.size, 0, none⟩), .pointer (some ⟨gc, 0, none⟩)] 139)
  exact ⟨w2.heap.size, rfl, ⟨gx, w.heap.size, gl, gc, gd, A, c, h, Ad, cd, A1, c1, l1, A0, c0, l0, BlkIs.new _ _ _, ht2.below hbx, hc.below hbx⟩, hB.alloc hz _⟩
end Go.Proofs.YtgpbpgpolpakjaaGreatDoor

/- Walks: nodes by their rank (nest). -/



set_option linter.unusedVariables false
set_option linter.unusedSimpArgs false
set_option maxRecDepth 100000
namespace Go.Proofs.YtgpbpgpolpakjaaGreatDoor
open Go.RowKit L

theorem nNodes_any (s : Nat) (bs : List Bool) (w : World) (hs : NestAt w s bs) :
    Calls Tryz.prog 53 #[.pointer (some ⟨s, 0, none⟩)] w fun e w' => e = .returned (.int .i64 (kc true bs bs.length : Nat)) ∧ w = w' := by
  obtain ⟨gx, gt, gl, gc, gd, A, c, hh, Ad, cd, A1, c1, l1, A0, c0, l0, h1, h2, h3⟩ := hs
  have k2 : w.cell? ⟨s, 2, none⟩ = some (.pointer (some ⟨gc, 0, none⟩)) := h1.cell 2
  have HG := hid (chOnes_any gc gd gx A c bs Ad cd A1 c1 l1 A0 c0 l0 w h3)
  clear h1 h2 h3
  generalize kc true bs bs.length = r at *
  go_enter Tryz.func53, Tryz.ntmps53
  go_wp2_with fail
  refine (HG.out).mono ?_
  rintro e w' ⟨rfl, rfl⟩
  go_wp2_with fail
  go_ret
  exact ⟨rfl, rfl⟩
end Go.Proofs.YtgpbpgpolpakjaaGreatDoor
