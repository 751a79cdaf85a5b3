/- Proof text. -/
import Derived.Test.YtgpbpgpolpakjaaGreatDoorMinmaxP
import Derived.Test.YtgpbpgpolpakjaaGreatDoorChooseP
import Derived.Test.YtgpbpgpolpakjaaGreatDoorMathsB
import Derived.Test.YtgpbpgpolpakjaaGreatDoorMaths
set_option maxHeartbeats 400000
set_option linter.unusedVariables false
set_option linter.unusedSimpArgs false
set_option maxRecDepth 100000
namespace Go.Proofs.YtgpbpgpolpakjaaGreatDoor
open Go.RowKit L
def zcc (w : World) (s : Nat) (bs : List Bool) : Prop :=
 ∃ gx gt gl gc gd A c h Ad cd A1 c1 l1 A0 c0 l0, za w s 139 #[.pointer (some ⟨gx, 0, none⟩), .pointer (some ⟨gt, 0, none⟩), .pointer (some ⟨gc, 0, none⟩)] ∧ zbs w gt gl gx A c bs h ∧ zab w gc gd gx A c bs Ad cd A1 c1 l1 A0 c0 l0
theorem zcc.below {w w' : World} {s : Nat} {bs : List Bool} (h : zcc w s bs) (hb : Below w.heap.size w w') : zcc w' s bs := by
 obtain ⟨gx, gt, gl, gc, gd, A, c, hh, Ad, cd, A1, c1, l1, A0, c0, l0, h1, h2, h3⟩ := h
 exact ⟨gx, gt, gl, gc, gd, A, c, hh, Ad, cd, A1, c1, l1, A0, c0, l0, h1.below hb, h2.below hb, h3.below hb⟩
theorem zx0 (bs : List Bool) (i : Nat) : zfi bs (i : Nat) = zb bs i := by unfold zfi; simp
theorem zl8 (gx : Nat) (A : Option Addr) (c : Nat) (bs : List Bool) (w : World) (hr : zo w gx A c bs) (hb : bal (zb bs) bs.length = true) :
  Calls Tryz.prog 33 #[.pointer (some ⟨gx, 0, none⟩)] w fun e w' => ∃ s, e = .returned (.tuple #[.pointer (some ⟨s, 0, none⟩), .int .i64 0]) ∧ zcc w' s bs ∧ Below w.heap.size w w' := by
 have HBA := hid (fun g gl h W t => by have := zii g gl gx A c bs h W t; rwa [hb] at this)
 clear hb
 go_enter Tryz.func33, Tryz.ntmps33
 go_wp2_with fail
 refine (zqf gx A c bs w hr).mono ?_
 rintro e w1 ⟨gl, h, rfl, ht, hB1⟩
 have hz1 := hB1.size
 have hr1 := hr.below hB1
 go_wp2_with fail
 refine (HBA.out _ _ _ _ ht).mono ?_
 rintro e w' ⟨rfl, rfl⟩
 go_wp2_with fail
 refine (zjj gx A c bs w1 hr1).mono ?_
 rintro e w2 ⟨gc, gd, Ad, cd, A1, c1, l1, A0, c0, l0, rfl, hc, hB2, _⟩
 have hB := hB1.trans (hB2.mono hz1)
 have hz := hB.size
 have ht2 := ht.below hB2
 go_wp2_with fail
 go_ret2
 have hbx := (Below.refl w2.heap.size w2).alloc (Nat.le_refl _) (.cells #[.pointer (some ⟨gx, 0, none⟩), .pointer (some ⟨w.heap.size, 0, none⟩), .pointer (some ⟨gc, 0, none⟩)] 139)
 exact ⟨w2.heap.size, rfl, ⟨gx, w.heap.size, gl, gc, gd, A, c, h, Ad, cd, A1, c1, l1, A0, c0, l0, za.new _ _ _, ht2.below hbx, hc.below hbx⟩, hB.alloc hz _⟩
theorem zu8 (gx : Nat) (A : Option Addr) (c : Nat) (bs : List Bool) (w : World) (hr : zo w gx A c bs) (hb : bal (zb bs) bs.length = false) :
  Calls Tryz.prog 33 #[.pointer (some ⟨gx, 0, none⟩)] w fun e w' => e = .returned (.tuple #[.pointer none, .int .i64 3]) ∧ Below w.heap.size w w' := by
 have HBA := hid (fun g gl h W t => by have := zii g gl gx A c bs h W t; rwa [hb] at this)
 clear hb
 go_enter Tryz.func33, Tryz.ntmps33
 go_wp2_with fail
 refine (zqf gx A c bs w hr).mono ?_
 rintro e w1 ⟨gl, h, rfl, ht, hB1⟩
 go_wp2_with fail
 refine (HBA.out _ _ _ _ ht).mono ?_
 rintro e w' ⟨rfl, rfl⟩
 go_wp2_with fail
 go_ret2
 exact ⟨rfl, hB1⟩
theorem zx1 (s : Nat) (bs : List Bool) (w : World) (hs : zcc w s bs) :
  Calls Tryz.prog 53 #[.pointer (some ⟨s, 0, none⟩)] w fun e w' => e = .returned (.int .i64 (kc true bs bs.length : Nat)) ∧ w = w' := by
 obtain ⟨gx, gt, gl, gc, gd, A, c, hh, Ad, cd, A1, c1, l1, A0, c0, l0, h1, h2, h3⟩ := hs
 have k2 : w.cell? ⟨s, 2, none⟩ = some (.pointer (some ⟨gc, 0, none⟩)) := h1.cell 2
 have HG := hid (zi2 gc gd gx A c bs Ad cd A1 c1 l1 A0 c0 l0 w h3)
 clear h1 h2 h3
 generalize kc true bs bs.length = r at *
 go_enter Tryz.func53, Tryz.ntmps53
 go_wp2_with fail
 refine (HG.out).mono ?_
 rintro e w' ⟨rfl, rfl⟩
 go_wp2_with fail
 go_ret
 exact ⟨rfl, rfl⟩
end Go.Proofs.YtgpbpgpolpakjaaGreatDoor
