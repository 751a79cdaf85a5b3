/- Walks: first, previous (nest). -/
import Derived.Test.YtlpnbkfcbamnbaaDoorNestE
set_option linter.unusedVariables false
set_option linter.unusedSimpArgs false
set_option maxRecDepth 100000
namespace Go.Proofs.YtlpnbkfcbamnbaaDoor
open Go.RowKit L

theorem nFirst_at (s : Nat) (bs : List Bool) (i : Nat) (w : World) (hs : NestAt w s bs) (hb : bitAt bs i = true) (hb1 : bitAt bs (i + 1) = true) :
    Calls Tryd.prog 45 #[.pointer (some ⟨s, 0, none⟩), .int .i64 (i : Nat)] w fun e w' => e = .returned (.tuple #[.int .i64 (i + 1 : Nat), .int .i64 0]) ∧ w = w' := by
  have hsm := hs.small
  have hl := bitAt_lt hb
  have HG := hid (nnode_any s bs (i : Nat) w hs)
  rw [rowBit_nat, hb] at HG
  have HK := hid (nnode_any s bs ((i : Int) + 1) w hs)
  rw [show (i : Int) + 1 = ((i + 1 : Nat) : Int) by omega, rowBit_nat, hb1, show ((i + 1 : Nat) : Int) = (i : Int) + 1 by omega] at HK
  have HF := hid (fun W => nfound_yes ((i : Int) + 1) W)
  have hw : IntKind.i64.wrap ((i : Int) + 1) = (i : Int) + 1 := by rw [IntKind.wrap_i64]; omega
  clear hs hb hb1
  go_enter Tryd.func45, Tryd.ntmps45
  go_wp2_with fail
  refine (HG.out).mono ?_
  rintro e w' ⟨rfl, rfl⟩
  go_wp2_with fail
  refine (HK.out).mono ?_
  rintro e w' ⟨rfl, rfl⟩
  go_wp2_with fail
  refine (HF.out _).mono ?_
  rintro e w' ⟨rfl, rfl⟩
  go_wp2_with fail
  go_ret2
  exact ⟨by first | rfl | simp, rfl⟩
theorem nFirst_none (s : Nat) (bs : List Bool) (i : Nat) (w : World) (hs : NestAt w s bs) (hb : bitAt bs i = true) (hb1 : bitAt bs (i + 1) = false) :
    Calls Tryd.prog 45 #[.pointer (some ⟨s, 0, none⟩), .int .i64 (i : Nat)] w fun e w' => e = .returned (.tuple #[.int .i64 0, .int .i64 7]) ∧ w = w' := by
  have hsm := hs.small
  have hl := bitAt_lt hb
  have HG := hid (nnode_any s bs (i : Nat) w hs)
  rw [rowBit_nat, hb] at HG
  have HK := hid (nnode_any s bs ((i : Int) + 1) w hs)
  rw [show (i : Int) + 1 = ((i + 1 : Nat) : Int) by omega, rowBit_nat, hb1, show ((i + 1 : Nat) : Int) = (i : Int) + 1 by omega] at HK
  have HF := hid (fun W => nfound_no ((i : Int) + 1) W)
  have hw : IntKind.i64.wrap ((i : Int) + 1) = (i : Int) + 1 := by rw [IntKind.wrap_i64]; omega
  clear hs hb hb1
  go_enter Tryd.func45, Tryd.ntmps45
  go_wp2_with fail
  refine (HG.out).mono ?_
  rintro e w' ⟨rfl, rfl⟩
  go_wp2_with fail
  refine (HK.out).mono ?_
  rintro e w' ⟨rfl, rfl⟩
  go_wp2_with fail
  refine (HF.out _).mono ?_
  rintro e w' ⟨rfl, rfl⟩
  go_wp2_with fail
  go_ret2
  exact ⟨rfl, rfl⟩
theorem nends_yes (s : Nat) (bs : List Bool) (i : Nat) (w : World) (hs : NestAt w s bs) (hi : i < bs.length) (hb : bitAt bs i = false) :
    Calls Tryd.prog 92 #[.pointer (some ⟨s, 0, none⟩), .int .i64 (i : Nat)] w fun e w' => e = .returned (.bool true) ∧ w = w' := by
  obtain ⟨gx, gt, gl, gc, gd, A, c, hh, Ad, cd, A1, c1, l1, A0, c0, l0, h1, h2, h3⟩ := hs
  have k0 : w.cell? ⟨s, 0, none⟩ = some (.pointer (some ⟨gx, 0, none⟩)) := h1.cell 0
  have HG := hid (get_any gx A c bs i w h2.row)
  have HL := hid (rlen_any gx (bs.length : Nat) w (by have := h2.row; exact this.1.cell 1))
  have e1 : rowBit bs (i : Int) = false := by rw [rowBit_nat]; exact hb
  rw [e1] at HG
  have hiI : (i : Int) < (bs.length : Int) := by omega
  clear h1 h2 h3 hb e1
  go_enter Tryd.func92, Tryd.ntmps92
  go_wp2_with fail
  refine (HL.out).mono ?_
  rintro e w' ⟨rfl, rfl⟩
  go_wp2_with fail
  refine (HG.out).mono ?_
  rintro e w' ⟨rfl, rfl⟩
  go_wp2_with fail
  go_ret
  exact ⟨by first | rfl | simp, rfl⟩
set_option maxHeartbeats 400000 in
theorem nPrev_at (s : Nat) (bs : List Bool) (i j p : Nat) (w : World) (hs : NestAt w s bs) (hb : bitAt bs i = true) (hi : i = j + 1) (hb1 : bitAt bs j = false) (hp : backN (bitAt bs) 0 i 0 = (p : Int)) :
    Calls Tryd.prog 48 #[.pointer (some ⟨s, 0, none⟩), .int .i64 (i : Nat)] w fun e w' => e = .returned (.tuple #[.int .i64 (p : Nat), .int .i64 0]) ∧ ∃ m, w' = w.drewN m := by
  have hsm := hs.small
  have hl := bitAt_lt hb
  have HG := hid (nnode_any s bs (i : Nat) w hs)
  rw [rowBit_nat, hb] at HG
  have HE := hid (nends_yes s bs j w hs (by omega) hb1)
  have HO := hid (nopen_any s bs j w hs (by omega))
  rw [← hi, hp] at HO
  have hw : IntKind.i64.wrap ((i : Int) - 1) = (j : Int) := by rw [IntKind.wrap_i64]; omega
  have hw2 : (i : Int) - 1 = (j : Int) := by omega
  clear hs hb hb1 hp hi hw2
  go_enter Tryd.func48, Tryd.ntmps48
  go_wp2_with fail
  refine (HG.out).mono ?_
  rintro e w' ⟨rfl, rfl⟩
  go_wp2_with fail
  refine (HE.out).mono ?_
  rintro e w' ⟨rfl, rfl⟩
  go_wp2_with fail
  refine (HO.out).mono ?_
  rintro e w' ⟨rfl, m, rfl⟩
  go_wp2_with fail
  go_ret2
  exact ⟨rfl, m, rfl⟩
end Go.Proofs.YtlpnbkfcbamnbaaDoor
