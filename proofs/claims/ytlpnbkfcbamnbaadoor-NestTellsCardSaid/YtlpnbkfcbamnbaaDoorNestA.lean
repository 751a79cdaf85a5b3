/- Walks: trees of parentheses (nest): the nest, its nodes. -/
import Derived.Test.YtlpnbkfcbamnbaaDoorMinmaxH
import Derived.Test.YtlpnbkfcbamnbaaDoorChooseP
import Derived.Test.YtlpnbkfcbamnbaaDoorMathU
set_option linter.unusedVariables false
set_option linter.unusedSimpArgs false
set_option maxRecDepth 100000
namespace Go.Proofs.YtlpnbkfcbamnbaaDoor
open Go.RowKit L

/-- A nest in memory. -/
def NestAt (w : World) (s : Nat) (bs : List Bool) : Prop :=
  ∃ gx gt gl gc gd A c h Ad cd A1 c1 l1 A0 c0 l0, BlkIs w s 87 #[.pointer (some ⟨gx, 0, none⟩), .pointer (some ⟨gt, 0, none⟩), .pointer (some ⟨gc, 0, none⟩)] ∧ TreeAt w gt gl gx A c bs h ∧ ChooserAt w gc gd gx A c bs Ad cd A1 c1 l1 A0 c0 l0
theorem NestAt.below {w w' : World} {s : Nat} {bs : List Bool} (h : NestAt w s bs) (hb : Below w.heap.size w w') : NestAt w' s bs := by
  obtain ⟨gx, gt, gl, gc, gd, A, c, hh, Ad, cd, A1, c1, l1, A0, c0, l0, h1, h2, h3⟩ := h
  exact ⟨gx, gt, gl, gc, gd, A, c, hh, Ad, cd, A1, c1, l1, A0, c0, l0, h1.below hb, h2.below hb, h3.below hb⟩
theorem NestAt.small {w : World} {s : Nat} {bs : List Bool} (h : NestAt w s bs) : bs.length ≤ 4294967296 := by
  obtain ⟨gx, gt, gl, gc, gd, A, c, hh, Ad, cd, A1, c1, l1, A0, c0, l0, h1, h2, h3⟩ := h
  exact h2.row.small
theorem rowBit_nat (bs : List Bool) (i : Nat) : rowBit bs (i : Nat) = bitAt bs i := by unfold rowBit; simp
theorem bitAt_lt {bs : List Bool} {i : Nat} (h : bitAt bs i = true) : i < bs.length := by
  unfold bitAt at h
  rcases Nat.lt_or_ge i bs.length with h1 | h1
  · exact h1
  · rw [List.getElem?_eq_none h1] at h; cases h

set_option maxHeartbeats 400000 in
theorem nestNew_any (gx : Nat) (A : Option Addr) (c : Nat) (bs : List Bool) (w : World) (hr : RowAt w gx A c bs) (hb : bal (bitAt bs) bs.length = true) :
    Calls Tryd.prog 30 #[.pointer (some ⟨gx, 0, none⟩)] w fun e w' => ∃ s, e = .returned (.tuple #[.pointer (some ⟨s, 0, none⟩), .int .i64 0]) ∧ NestAt w' s bs ∧ Below w.heap.size w w' := by
  have HBA := hid (fun g gl h W t => by have := mmBalanced_any g gl gx A c bs h W t; rwa [hb] at this)
  clear hb
  go_enter Tryd.func30, Tryd.ntmps30
  go_wp2_with fail
  refine (mmNew_any gx A c bs w hr).mono ?_
  rintro e w1 ⟨gl, h, rfl, ht, hB1⟩
  have hz1 := hB1.size
  have hr1 := hr.below hB1
  go_wp2_with fail
  refine (HBA.out _ _ _ _ ht).mono ?_
  rintro e w' ⟨rfl, rfl⟩
  go_wp2_with fail
  refine (chooseNew_any gx A c bs w1 hr1).mono ?_
  rintro e w2 ⟨gc, gd, Ad, cd, A1, c1, l1, A0, c0, l0, rfl, hc, hB2, _⟩
  have hB := hB1.trans (hB2.mono hz1)
  have hz := hB.size
  have ht2 := ht.below hB2
  go_wp2_with fail
  go_ret2
  have hbx := (Below.refl w2.heap.size w2).alloc (Nat.le_refl _) (.cells #[.pointer (some ⟨gx, 0, none⟩), .pointer (some ⟨w.heap.size, 0, none⟩), .pointer (some ⟨gc, 0, none⟩)] 87)
  exact ⟨w2.heap.size, rfl, ⟨gx, w.heap.size, gl, gc, gd, A, c, h, Ad, cd, A1, c1, l1, A0, c0, l0, BlkIs.new _ _ _, ht2.below hbx, hc.below hbx⟩, hB.alloc hz _⟩
set_option maxHeartbeats 400000 in
theorem nestNew_not (gx : Nat) (A : Option Addr) (c : Nat) (bs : List Bool) (w : World) (hr : RowAt w gx A c bs) (hb : bal (bitAt bs) bs.length = false) :
    Calls Tryd.prog 30 #[.pointer (some ⟨gx, 0, none⟩)] w fun e w' => e = .returned (.tuple #[.pointer none, .int .i64 3]) ∧ Below w.heap.size w w' := by
  have HBA := hid (fun g gl h W t => by have := mmBalanced_any g gl gx A c bs h W t; rwa [hb] at this)
  clear hb
  go_enter Tryd.func30, Tryd.ntmps30
  go_wp2_with fail
  refine (mmNew_any gx A c bs w hr).mono ?_
  rintro e w1 ⟨gl, h, rfl, ht, hB1⟩
  go_wp2_with fail
  refine (HBA.out _ _ _ _ ht).mono ?_
  rintro e w' ⟨rfl, rfl⟩
  go_wp2_with fail
  go_ret2
  exact ⟨rfl, hB1⟩

theorem nnode_any (s : Nat) (bs : List Bool) (i : Int) (w : World) (hs : NestAt w s bs) :
    Calls Tryd.prog 73 #[.pointer (some ⟨s, 0, none⟩), .int .i64 i] w fun e w' => e = .returned (.bool (rowBit bs i)) ∧ w = w' := by
  obtain ⟨gx, gt, gl, gc, gd, A, c, hh, Ad, cd, A1, c1, l1, A0, c0, l0, h1, h2, h3⟩ := hs
  have k0 : w.cell? ⟨s, 0, none⟩ = some (.pointer (some ⟨gx, 0, none⟩)) := h1.cell 0
  have HG := hid (get_any gx A c bs i w h2.row)
  clear h1 h2 h3
  go_enter Tryd.func73, Tryd.ntmps73
  go_wp2_with fail
  refine (HG.out).mono ?_
  rintro e w' ⟨rfl, rfl⟩
  go_wp2_with fail
  go_ret
  exact ⟨rfl, rfl⟩
theorem nclose_any (s : Nat) (bs : List Bool) (i : Nat) (w : World) (hs : NestAt w s bs) (hi : i < bs.length) :
    Calls Tryd.prog 90 #[.pointer (some ⟨s, 0, none⟩), .int .i64 (i : Nat)] w fun e w' => e = .returned (.int .i64 (forthN (bitAt bs) i bs.length 0)) ∧ ∃ m, w' = w.drewN m := by
  obtain ⟨gx, gt, gl, gc, gd, A, c, hh, Ad, cd, A1, c1, l1, A0, c0, l0, h1, h2, h3⟩ := hs
  have k1 : w.cell? ⟨s, 1, none⟩ = some (.pointer (some ⟨gt, 0, none⟩)) := h1.cell 1
  have HG := hid (by have := mmForth_any gt gl gx A c bs hh (i : Nat) 0 w h2 (by omega) (by omega); rwa [show held bs.length (i : Nat) = i by unfold held; omega] at this)
  clear h1 h2 h3
  generalize forthN (bitAt bs) i bs.length 0 = r at *
  go_enter Tryd.func90, Tryd.ntmps90
  go_wp2_with fail
  refine (HG.out).mono ?_
  rintro e w' ⟨rfl, m, rfl⟩
  go_wp2_with fail
  go_ret
  exact ⟨rfl, m, rfl⟩
theorem nopen_any (s : Nat) (bs : List Bool) (i : Nat) (w : World) (hs : NestAt w s bs) (hi : i < bs.length) :
    Calls Tryd.prog 93 #[.pointer (some ⟨s, 0, none⟩), .int .i64 (i : Nat)] w fun e w' => e = .returned (.int .i64 (backN (bitAt bs) 0 (i + 1) 0)) ∧ ∃ m, w' = w.drewN m := by
  have hsm := hs.small
  obtain ⟨gx, gt, gl, gc, gd, A, c, hh, Ad, cd, A1, c1, l1, A0, c0, l0, h1, h2, h3⟩ := hs
  have k1 : w.cell? ⟨s, 1, none⟩ = some (.pointer (some ⟨gt, 0, none⟩)) := h1.cell 1
  have HG := hid (by have := mmBack_any gt gl gx A c bs hh ((i : Int) + 1) 0 w h2 (by omega) (by omega); rwa [show held bs.length ((i : Int) + 1) = i + 1 by unfold held; omega] at this)
  have hw : IntKind.i64.wrap ((i : Int) + 1) = (i : Int) + 1 := by rw [IntKind.wrap_i64]; omega
  clear h1 h2 h3
  generalize backN (bitAt bs) 0 (i + 1) 0 = r at *
  go_enter Tryd.func93, Tryd.ntmps93
  go_wp2_with fail
  refine (HG.out).mono ?_
  rintro e w' ⟨rfl, m, rfl⟩
  go_wp2_with fail
  go_ret
  exact ⟨rfl, m, rfl⟩
theorem nfound_any (i : Int) (ok : Bool) (w : World) : Calls Tryd.prog 72 #[.int .i64 i, .bool ok] w fun e w' => e = .returned (.tuple #[.int .i64 (if ok then i else 0), .int .i64 (if ok then 0 else 7)]) ∧ w = w' := by
  cases ok
  · go_enter Tryd.func72, Tryd.ntmps72
    go_wp2_with fail
    go_ret2
    exact ⟨rfl, rfl⟩
  · go_enter Tryd.func72, Tryd.ntmps72
    go_wp2_with fail
    go_ret2
    exact ⟨rfl, rfl⟩

theorem nClose_no (s : Nat) (bs : List Bool) (i : Int) (w : World) (hs : NestAt w s bs) (hb : rowBit bs i = false) :
    Calls Tryd.prog 43 #[.pointer (some ⟨s, 0, none⟩), .int .i64 i] w fun e w' => e = .returned (.tuple #[.int .i64 0, .int .i64 1]) ∧ w = w' := by
  have HG := hid (nnode_any s bs i w hs)
  rw [hb] at HG
  clear hs hb
  go_enter Tryd.func43, Tryd.ntmps43
  go_wp2_with fail
  refine (HG.out).mono ?_
  rintro e w' ⟨rfl, rfl⟩
  go_wp2_with fail
  go_ret2
  exact ⟨rfl, rfl⟩

theorem nParent_no (s : Nat) (bs : List Bool) (i : Int) (w : World) (hs : NestAt w s bs) (hb : rowBit bs i = false) :
    Calls Tryd.prog 44 #[.pointer (some ⟨s, 0, none⟩), .int .i64 i] w fun e w' => e = .returned (.tuple #[.int .i64 0, .int .i64 1]) ∧ w = w' := by
  have HG := hid (nnode_any s bs i w hs)
  rw [hb] at HG
  clear hs hb
  go_enter Tryd.func44, Tryd.ntmps44
  go_wp2_with fail
  refine (HG.out).mono ?_
  rintro e w' ⟨rfl, rfl⟩
  go_wp2_with fail
  go_ret2
  exact ⟨rfl, rfl⟩

theorem nFirst_no (s : Nat) (bs : List Bool) (i : Int) (w : World) (hs : NestAt w s bs) (hb : rowBit bs i = false) :
    Calls Tryd.prog 45 #[.pointer (some ⟨s, 0, none⟩), .int .i64 i] w fun e w' => e = .returned (.tuple #[.int .i64 0, .int .i64 1]) ∧ w = w' := by
  have HG := hid (nnode_any s bs i w hs)
  rw [hb] at HG
  clear hs hb
  go_enter Tryd.func45, Tryd.ntmps45
  go_wp2_with fail
  refine (HG.out).mono ?_
  rintro e w' ⟨rfl, rfl⟩
  go_wp2_with fail
  go_ret2
  exact ⟨rfl, rfl⟩

theorem nNext_no (s : Nat) (bs : List Bool) (i : Int) (w : World) (hs : NestAt w s bs) (hb : rowBit bs i = false) :
    Calls Tryd.prog 47 #[.pointer (some ⟨s, 0, none⟩), .int .i64 i] w fun e w' => e = .returned (.tuple #[.int .i64 0, .int .i64 1]) ∧ w = w' := by
  have HG := hid (nnode_any s bs i w hs)
  rw [hb] at HG
  clear hs hb
  go_enter Tryd.func47, Tryd.ntmps47
  go_wp2_with fail
  refine (HG.out).mono ?_
  rintro e w' ⟨rfl, rfl⟩
  go_wp2_with fail
  go_ret2
  exact ⟨rfl, rfl⟩

theorem nDepth_no (s : Nat) (bs : List Bool) (i : Int) (w : World) (hs : NestAt w s bs) (hb : rowBit bs i = false) :
    Calls Tryd.prog 35 #[.pointer (some ⟨s, 0, none⟩), .int .i64 i] w fun e w' => e = .returned (.tuple #[.int .i64 0, .int .i64 1]) ∧ w = w' := by
  have HG := hid (nnode_any s bs i w hs)
  rw [hb] at HG
  clear hs hb
  go_enter Tryd.func35, Tryd.ntmps35
  go_wp2_with fail
  refine (HG.out).mono ?_
  rintro e w' ⟨rfl, rfl⟩
  go_wp2_with fail
  go_ret2
  exact ⟨rfl, rfl⟩

theorem nRank_no (s : Nat) (bs : List Bool) (i : Int) (w : World) (hs : NestAt w s bs) (hb : rowBit bs i = false) :
    Calls Tryd.prog 95 #[.pointer (some ⟨s, 0, none⟩), .int .i64 i] w fun e w' => e = .returned (.tuple #[.int .i64 0, .int .i64 1]) ∧ w = w' := by
  have HG := hid (nnode_any s bs i w hs)
  rw [hb] at HG
  clear hs hb
  go_enter Tryd.func95, Tryd.ntmps95
  go_wp2_with fail
  refine (HG.out).mono ?_
  rintro e w' ⟨rfl, rfl⟩
  go_wp2_with fail
  go_ret2
  exact ⟨rfl, rfl⟩

theorem nCount_no (s : Nat) (bs : List Bool) (i : Int) (w : World) (hs : NestAt w s bs) (hb : rowBit bs i = false) :
    Calls Tryd.prog 34 #[.pointer (some ⟨s, 0, none⟩), .int .i64 i] w fun e w' => e = .returned (.tuple #[.int .i64 0, .int .i64 1]) ∧ w = w' := by
  have HG := hid (nnode_any s bs i w hs)
  rw [hb] at HG
  clear hs hb
  go_enter Tryd.func34, Tryd.ntmps34
  go_wp2_with fail
  refine (HG.out).mono ?_
  rintro e w' ⟨rfl, rfl⟩
  go_wp2_with fail
  go_ret2
  exact ⟨rfl, rfl⟩

theorem nPrev_no (s : Nat) (bs : List Bool) (i : Int) (w : World) (hs : NestAt w s bs) (hb : rowBit bs i = false) :
    Calls Tryd.prog 48 #[.pointer (some ⟨s, 0, none⟩), .int .i64 i] w fun e w' => e = .returned (.tuple #[.int .i64 0, .int .i64 1]) ∧ w = w' := by
  have HG := hid (nnode_any s bs i w hs)
  rw [hb] at HG
  clear hs hb
  go_enter Tryd.func48, Tryd.ntmps48
  go_wp2_with fail
  refine (HG.out).mono ?_
  rintro e w' ⟨rfl, rfl⟩
  go_wp2_with fail
  go_ret2
  exact ⟨rfl, rfl⟩

/-- A node's ). -/
theorem nClose_at (s : Nat) (bs : List Bool) (i : Nat) (w : World) (hs : NestAt w s bs) (hb : bitAt bs i = true) :
    Calls Tryd.prog 43 #[.pointer (some ⟨s, 0, none⟩), .int .i64 (i : Nat)] w fun e w' => e = .returned (.tuple #[.int .i64 (forthN (bitAt bs) i bs.length 0), .int .i64 0]) ∧ ∃ m, w' = w.drewN m := by
  have HG := hid (nnode_any s bs (i : Nat) w hs)
  rw [rowBit_nat, hb] at HG
  have HC := hid (nclose_any s bs i w hs (bitAt_lt hb))
  clear hs hb
  generalize forthN (bitAt bs) i bs.length 0 = r at *
  go_enter Tryd.func43, Tryd.ntmps43
  go_wp2_with fail
  refine (HG.out).mono ?_
  rintro e w' ⟨rfl, rfl⟩
  go_wp2_with fail
  refine (HC.out).mono ?_
  rintro e w' ⟨rfl, m, rfl⟩
  go_wp2_with fail
  go_ret2
  exact ⟨rfl, m, rfl⟩
theorem nDepth_at (s : Nat) (bs : List Bool) (i : Nat) (w : World) (hs : NestAt w s bs) (hb : bitAt bs i = true) :
    Calls Tryd.prog 35 #[.pointer (some ⟨s, 0, none⟩), .int .i64 (i : Nat)] w fun e w' => e = .returned (.tuple #[.int .i64 (eb (bitAt bs) 0 i), .int .i64 0]) ∧ ∃ m, w' = w.drewN m := by
  have HG := hid (nnode_any s bs (i : Nat) w hs)
  rw [rowBit_nat, hb] at HG
  have hl := bitAt_lt hb
  obtain ⟨gx, gt, gl, gc, gd, A, c, hh, Ad, cd, A1, c1, l1, A0, c0, l0, h1, h2, h3⟩ := hs
  have k1 : w.cell? ⟨s, 1, none⟩ = some (.pointer (some ⟨gt, 0, none⟩)) := h1.cell 1
  have HC := hid (by have := mmExcess_any gt gl gx A c bs hh (i : Nat) w h2; rwa [show held bs.length (i : Nat) = i by unfold held; omega] at this)
  clear h1 h2 h3 hb
  generalize eb (bitAt bs) 0 i = r at *
  go_enter Tryd.func35, Tryd.ntmps35
  go_wp2_with fail
  refine (HG.out).mono ?_
  rintro e w' ⟨rfl, rfl⟩
  go_wp2_with fail
  refine (HC.out).mono ?_
  rintro e w' ⟨rfl, m, rfl⟩
  go_wp2_with fail
  go_ret2
  exact ⟨rfl, m, rfl⟩
theorem nfound_yes (i : Int) (w : World) : Calls Tryd.prog 72 #[.int .i64 i, .bool true] w fun e w' => e = .returned (.tuple #[.int .i64 i, .int .i64 0]) ∧ w = w' := nfound_any i true w
theorem nfound_no (i : Int) (w : World) : Calls Tryd.prog 72 #[.int .i64 i, .bool false] w fun e w' => e = .returned (.tuple #[.int .i64 0, .int .i64 7]) ∧ w = w' := nfound_any i false w
theorem nParent_at (s : Nat) (bs : List Bool) (i j : Nat) (w : World) (hs : NestAt w s bs) (hb : bitAt bs i = true) (hj : backN (bitAt bs) 0 i 1 = (j : Int)) :
    Calls Tryd.prog 44 #[.pointer (some ⟨s, 0, none⟩), .int .i64 (i : Nat)] w fun e w' => e = .returned (.tuple #[.int .i64 (j : Nat), .int .i64 0]) ∧ ∃ m, w' = w.drewN m := by
  have HG := hid (nnode_any s bs (i : Nat) w hs)
  rw [rowBit_nat, hb] at HG
  have hl := bitAt_lt hb
  obtain ⟨gx, gt, gl, gc, gd, A, c, hh, Ad, cd, A1, c1, l1, A0, c0, l0, h1, h2, h3⟩ := hs
  have k1 : w.cell? ⟨s, 1, none⟩ = some (.pointer (some ⟨gt, 0, none⟩)) := h1.cell 1
  have HC := hid (by have := mmBack_any gt gl gx A c bs hh (i : Nat) 1 w h2 (by omega) (by omega); rwa [show held bs.length (i : Nat) = i by unfold held; omega, hj] at this)
  clear h1 h2 h3 hb hj
  have hge : (0 : Int) ≤ (j : Int) := by omega
  have HF := hid (fun W => nfound_yes (j : Nat) W)
  go_enter Tryd.func44, Tryd.ntmps44
  go_wp2_with fail
  refine (HG.out).mono ?_
  rintro e w' ⟨rfl, rfl⟩
  go_wp2_with fail
  refine (HC.out).mono ?_
  rintro e w' ⟨rfl, m, rfl⟩
  go_wp2_with fail
  refine (HF.out _).mono ?_
  rintro e w' ⟨rfl, rfl⟩
  go_wp2_with fail
  go_ret2
  exact ⟨rfl, m, rfl⟩
theorem nParent_none (s : Nat) (bs : List Bool) (i : Nat) (w : World) (hs : NestAt w s bs) (hb : bitAt bs i = true) (hj : backN (bitAt bs) 0 i 1 = -1) :
    Calls Tryd.prog 44 #[.pointer (some ⟨s, 0, none⟩), .int .i64 (i : Nat)] w fun e w' => e = .returned (.tuple #[.int .i64 0, .int .i64 7]) ∧ ∃ m, w' = w.drewN m := by
  have HG := hid (nnode_any s bs (i : Nat) w hs)
  rw [rowBit_nat, hb] at HG
  have hl := bitAt_lt hb
  obtain ⟨gx, gt, gl, gc, gd, A, c, hh, Ad, cd, A1, c1, l1, A0, c0, l0, h1, h2, h3⟩ := hs
  have k1 : w.cell? ⟨s, 1, none⟩ = some (.pointer (some ⟨gt, 0, none⟩)) := h1.cell 1
  have HC := hid (by have := mmBack_any gt gl gx A c bs hh (i : Nat) 1 w h2 (by omega) (by omega); rwa [show held bs.length (i : Nat) = i by unfold held; omega, hj] at this)
  clear h1 h2 h3 hb hj
  have hge : ¬ ((0 : Int) ≤ -1) := by omega
  have HF := hid (fun W => nfound_no (-1) W)
  go_enter Tryd.func44, Tryd.ntmps44
  go_wp2_with fail
  refine (HG.out).mono ?_
  rintro e w' ⟨rfl, rfl⟩
  go_wp2_with fail
  refine (HC.out).mono ?_
  rintro e w' ⟨rfl, m, rfl⟩
  go_wp2_with fail
  refine (HF.out _).mono ?_
  rintro e w' ⟨rfl, rfl⟩
  go_wp2_with fail
  go_ret2
  exact ⟨rfl, m, rfl⟩
theorem nNext_at (s : Nat) (bs : List Bool) (i k : Nat) (w : World) (hs : NestAt w s bs) (hb : bitAt bs i = true) (hk : forthN (bitAt bs) i bs.length 0 = (k : Int) - 1) (hkl : k ≤ bs.length) (hbk : bitAt bs k = true) :
    Calls Tryd.prog 47 #[.pointer (some ⟨s, 0, none⟩), .int .i64 (i : Nat)] w fun e w' => e = .returned (.tuple #[.int .i64 (k : Nat), .int .i64 0]) ∧ ∃ m, w' = w.drewN m := by
  have hsm := hs.small
  have HG := hid (nnode_any s bs (i : Nat) w hs)
  rw [rowBit_nat, hb] at HG
  have HC := hid (nclose_any s bs i w hs (bitAt_lt hb))
  rw [hk] at HC
  have HK := hid (fun m => nnode_any s bs (k : Nat) (w.drewN m) hs)
  rw [rowBit_nat, hbk] at HK
  have HF := hid (fun W => nfound_yes (k : Nat) W)
  have hw : IntKind.i64.wrap ((k : Int) - 1 + 1) = (k : Int) := by rw [IntKind.wrap_i64]; omega
  have hw2 : (k : Int) - 1 + 1 = (k : Int) := by omega
  have hw3 : IntKind.i64.wrap (k : Int) = (k : Int) := by rw [IntKind.wrap_i64]; omega
  clear hs hb hk hbk
  go_enter Tryd.func47, Tryd.ntmps47
  go_wp2_with fail
  refine (HG.out).mono ?_
  rintro e w' ⟨rfl, rfl⟩
  go_wp2_with fail
  refine (HC.out).mono ?_
  rintro e w' ⟨rfl, m, rfl⟩
  go_wp2_with fail
  refine (HK.out _).mono ?_
  rintro e w' ⟨rfl, rfl⟩
  go_wp2_with fail
  refine (HF.out _).mono ?_
  rintro e w' ⟨rfl, rfl⟩
  go_wp2_with fail
  go_ret2
  exact ⟨rfl, m, rfl⟩
theorem nNext_none (s : Nat) (bs : List Bool) (i k : Nat) (w : World) (hs : NestAt w s bs) (hb : bitAt bs i = true) (hk : forthN (bitAt bs) i bs.length 0 = (k : Int) - 1) (hkl : k ≤ bs.length) (hbk : bitAt bs k = false) :
    Calls Tryd.prog 47 #[.pointer (some ⟨s, 0, none⟩), .int .i64 (i : Nat)] w fun e w' => e = .returned (.tuple #[.int .i64 0, .int .i64 7]) ∧ ∃ m, w' = w.drewN m := by
  have hsm := hs.small
  have HG := hid (nnode_any s bs (i : Nat) w hs)
  rw [rowBit_nat, hb] at HG
  have HC := hid (nclose_any s bs i w hs (bitAt_lt hb))
  rw [hk] at HC
  have HK := hid (fun m => nnode_any s bs (k : Nat) (w.drewN m) hs)
  rw [rowBit_nat, hbk] at HK
  have HF := hid (fun W => nfound_no (k : Nat) W)
  have hw : IntKind.i64.wrap ((k : Int) - 1 + 1) = (k : Int) := by rw [IntKind.wrap_i64]; omega
  have hw2 : (k : Int) - 1 + 1 = (k : Int) := by omega
  have hw3 : IntKind.i64.wrap (k : Int) = (k : Int) := by rw [IntKind.wrap_i64]; omega
  clear hs hb hk hbk
  go_enter Tryd.func47, Tryd.ntmps47
  go_wp2_with fail
  refine (HG.out).mono ?_
  rintro e w' ⟨rfl, rfl⟩
  go_wp2_with fail
  refine (HC.out).mono ?_
  rintro e w' ⟨rfl, m, rfl⟩
  go_wp2_with fail
  refine (HK.out _).mono ?_
  rintro e w' ⟨rfl, rfl⟩
  go_wp2_with fail
  refine (HF.out _).mono ?_
  rintro e w' ⟨rfl, rfl⟩
  go_wp2_with fail
  go_ret2
  exact ⟨rfl, m, rfl⟩
end Go.Proofs.YtlpnbkfcbamnbaaDoor
