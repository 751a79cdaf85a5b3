/- Walks: rank, open, and where there is none (nest). -/
import Derived.Test.YtlpnbkfcbamnbaaDoorNestF
import Derived.Test.YtlpnbkfcbamnbaaDoorChooseF
set_option linter.unusedVariables false
set_option linter.unusedSimpArgs false
set_option maxRecDepth 100000
namespace Go.Proofs.YtlpnbkfcbamnbaaDoor
open Go.RowKit L

set_option maxHeartbeats 400000 in
theorem nRank_at (s : Nat) (bs : List Bool) (i : Nat) (w : World) (hs : NestAt w s bs) (hb : bitAt bs i = true) :
    Calls Tryd.prog 95 #[.pointer (some ⟨s, 0, none⟩), .int .i64 (i : Nat)] w fun e w' => e = .returned (.tuple #[.int .i64 (kc true bs i : Nat), .int .i64 0]) ∧ Below w.heap.size w w' := by
  have HN := hid (nnode_any s bs (i : Nat) w hs)
  rw [rowBit_nat, hb] at HN
  obtain ⟨gx, gt, gl, gc, gd, A, c, hh, Ad, cd, A1, c1, l1, A0, c0, l0, h1, h2, h3⟩ := hs
  have k2 : w.cell? ⟨s, 2, none⟩ = some (.pointer (some ⟨gc, 0, none⟩)) := h1.cell 2
  have HG := hid (chRank_any gc gd gx A c bs Ad cd A1 c1 l1 A0 c0 l0 i w h3)
  rw [kc_one] at HG
  clear h1 h2 h3 hb
  generalize kc true bs i = r at *
  go_enter Tryd.func95, Tryd.ntmps95
  go_wp2_with fail
  refine (HN.out).mono ?_
  rintro e w' ⟨rfl, rfl⟩
  go_wp2_with fail
  refine (HG.out).mono ?_
  rintro e w' ⟨rfl, hB⟩
  go_wp2_with fail
  go_ret2
  exact ⟨rfl, hB⟩
set_option maxHeartbeats 400000 in
theorem nOpen_at (s : Nat) (bs : List Bool) (j : Nat) (w : World) (hs : NestAt w s bs) (hj : j < bs.length) (hb : bitAt bs j = false) :
    Calls Tryd.prog 94 #[.pointer (some ⟨s, 0, none⟩), .int .i64 (j : Nat)] w fun e w' => e = .returned (.tuple #[.int .i64 (backN (bitAt bs) 0 (j + 1) 0), .int .i64 0]) ∧ ∃ m, w' = w.drewN m := by
  have HE := hid (nends_yes s bs j w hs hj hb)
  have HO := hid (nopen_any s bs j w hs hj)
  clear hs hb
  generalize backN (bitAt bs) 0 (j + 1) 0 = r at *
  go_enter Tryd.func94, Tryd.ntmps94
  go_wp2_with fail
  refine (HE.out).mono ?_
  rintro e w' ⟨rfl, rfl⟩
  go_wp2_with fail
  refine (HO.out).mono ?_
  rintro e w' ⟨rfl, m, rfl⟩
  go_wp2_with fail
  go_ret2
  exact ⟨rfl, m, rfl⟩
set_option maxHeartbeats 400000 in
theorem nNode_none (s : Nat) (bs : List Bool) (k : Int) (w : World) (hs : NestAt w s bs) (h : k < 0 ∨ (kc true bs bs.length : Int) ≤ k) :
    Calls Tryd.prog 33 #[.pointer (some ⟨s, 0, none⟩), .int .i64 k] w fun e w' => e = .returned (.tuple #[.int .i64 0, .int .i64 7]) ∧ w = w' := by
  obtain ⟨gx, gt, gl, gc, gd, A, c, hh, Ad, cd, A1, c1, l1, A0, c0, l0, h1, h2, h3⟩ := hs
  have k2 : w.cell? ⟨s, 2, none⟩ = some (.pointer (some ⟨gc, 0, none⟩)) := h1.cell 2
  have HG := hid (chOne_none gc gd gx A c bs Ad cd A1 c1 l1 A0 c0 l0 k w h3 h)
  clear h1 h2 h3 h
  have HF := hid (fun W => nfound_no 0 W)
  go_enter Tryd.func33, Tryd.ntmps33
  go_wp2_with fail
  refine (HG.out).mono ?_
  rintro e w1 ⟨rfl, rfl⟩
  go_wp2_with fail
  refine (HF.out _).mono ?_
  rintro e w' ⟨rfl, rfl⟩
  go_wp2_with fail
  go_ret2
  exact ⟨rfl, rfl⟩
set_option maxHeartbeats 400000 in
theorem nChild_no (s : Nat) (bs : List Bool) (i k : Int) (w : World) (hs : NestAt w s bs) (hb : rowBit bs i = false) :
    Calls Tryd.prog 46 #[.pointer (some ⟨s, 0, none⟩), .int .i64 i, .int .i64 k] w fun e w' => e = .returned (.tuple #[.int .i64 0, .int .i64 1]) ∧ Below w.heap.size w w' := by
  have hB0 : Below w.heap.size w (((w.alloc (.cells #[.int .i64 k] 3)).alloc (.cells #[.int .i64 0] 3)).alloc (.cells #[.int .i64 0] 26)) := (((Below.refl _ _).alloc (Nat.le_refl _) _).alloc (by simp) _).alloc (by simp; omega) _
  have HG := hid (nnode_any s bs i _ (hs.below hB0))
  rw [hb] at HG
  clear hs hb
  go_enter Tryd.func46, Tryd.ntmps46
  go_wp2_with fail
  refine (HG.out).mono ?_
  rintro e w' ⟨rfl, rfl⟩
  go_wp2_with fail
  refine bodyPost_ret (v := .tuple #[.int .i64 0, .int .i64 1]) (by simp [results, Tryd.results46, go_sem]) rfl ⟨rfl, ?_⟩
  exact (((Below.refl _ _).alloc (Nat.le_refl _) _).alloc (by simp) _).alloc (by simp; omega) _
set_option maxHeartbeats 400000 in
theorem nends_no (s : Nat) (bs : List Bool) (i : Int) (w : World) (hs : NestAt w s bs) (h : i < 0 ∨ rowBit bs i = true) :
    Calls Tryd.prog 92 #[.pointer (some ⟨s, 0, none⟩), .int .i64 i] w fun e w' => e = .returned (.bool false) ∧ w = w' := by
  obtain ⟨gx, gt, gl, gc, gd, A, c, hh, Ad, cd, A1, c1, l1, A0, c0, l0, h1, h2, h3⟩ := hs
  have k0 : w.cell? ⟨s, 0, none⟩ = some (.pointer (some ⟨gx, 0, none⟩)) := h1.cell 0
  have HG := hid (get_any gx A c bs i w h2.row)
  have HL := hid (rlen_any gx (bs.length : Nat) w (by have := h2.row; exact this.1.cell 1))
  clear h1 h2 h3
  by_cases h0 : i < 0
  · have hn : ¬ (0 ≤ i) := by omega
    clear h
    go_enter Tryd.func92, Tryd.ntmps92
    go_wp2_with fail
    go_ret
    exact ⟨by first | rfl | simp, rfl⟩
  · obtain ⟨j, rfl⟩ := Int.eq_ofNat_of_zero_le (show 0 ≤ i by omega)
    have hb : bitAt bs j = true := by rcases h with h | h; · omega
                                      · rwa [rowBit_nat] at h
    have hl := bitAt_lt hb
    have hiI : (j : Int) < (bs.length : Int) := by omega
    rw [rowBit_nat, hb] at HG
    clear h hb h0
    go_enter Tryd.func92, Tryd.ntmps92
    go_wp2_with fail
    refine (HL.out).mono ?_
    rintro e w' ⟨rfl, rfl⟩
    go_wp2_with fail
    refine (HG.out).mono ?_
    rintro e w' ⟨rfl, rfl⟩
    go_wp2_with fail
    go_ret
    exact ⟨by first | rfl | simp, rfl⟩
set_option maxHeartbeats 400000 in
theorem nPrev_none (s : Nat) (bs : List Bool) (i : Nat) (w : World) (hs : NestAt w s bs) (hb : bitAt bs i = true) (h1 : (i : Int) - 1 < 0 ∨ rowBit bs ((i : Int) - 1) = true) :
    Calls Tryd.prog 48 #[.pointer (some ⟨s, 0, none⟩), .int .i64 (i : Nat)] w fun e w' => e = .returned (.tuple #[.int .i64 0, .int .i64 7]) ∧ w = w' := by
  have hsm := hs.small
  have hl := bitAt_lt hb
  have HG := hid (nnode_any s bs (i : Nat) w hs)
  rw [rowBit_nat, hb] at HG
  have HE := hid (nends_no s bs _ w hs h1)
  have hw : IntKind.i64.wrap ((i : Int) - 1) = (i : Int) - 1 := by rw [IntKind.wrap_i64]; omega
  clear hs hb h1
  go_enter Tryd.func48, Tryd.ntmps48
  go_wp2_with fail
  refine (HG.out).mono ?_
  rintro e w' ⟨rfl, rfl⟩
  go_wp2_with fail
  refine (HE.out).mono ?_
  rintro e w' ⟨rfl, rfl⟩
  go_wp2_with fail
  go_ret2
  exact ⟨rfl, rfl⟩
end Go.Proofs.YtlpnbkfcbamnbaaDoor
