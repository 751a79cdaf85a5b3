/- Walks: a directory's ranks; the reference's. -/
import Derived.Test.YtlpnbkfcbamnbaaDoorRankA
set_option linter.unusedVariables false
set_option linter.unusedSimpArgs false
set_option maxRecDepth 100000
namespace Go.Proofs.YtlpnbkfcbamnbaaDoor
open Go.RowKit L

theorem packed_field (bs : List Bool) (b q : Nat) (h : q < 7) : fieldN (packed bs b 7) (9 * (q : Int)) 9 = packed bs b 7 / 2 ^ (9 * q) % 512 := by
  unfold fieldN
  rw [if_neg (by omega), if_neg (by omega), show clampN 9 = 9 from by decide, show (9 * (q : Int)).toNat = 9 * q from by omega]

set_option maxHeartbeats 4000000 in
theorem rankOne_any (g gx : Nat) (A : Option Addr) (c : Nat) (bs : List Bool) (Ad : Option Addr) (cd : Nat) (i : Int) (w : World) (hd : DirAt w g gx A c bs Ad cd) :
    Calls Tryd.prog 112 #[.pointer (some ⟨g, 0, none⟩), .int .i64 i] w fun e w' => e = .returned (.int .i64 (cnt bs (held bs.length i) : Nat)) ∧ Below w.heap.size w w' := by
  have hr := hd.row
  have hsm := hr.small
  have hcl := hr.cells.2
  have hpl := held_le bs.length i
  have HPI := hid (show min (max i 0) ((bs.length : Nat) : Int) = ((held bs.length i : Nat) : Int) by unfold held; omega)
  generalize held bs.length i = p at *
  have c0 : w.cell? ⟨g, 0, none⟩ = some (.pointer (some ⟨gx, 0, none⟩)) := hd.blk.cell 0
  have c1 : w.cell? ⟨g, 1, none⟩ = some (.slice Ad (bs.length / 512 + 1) cd) := hd.blk.cell 1
  have hg := hd.blk.lt
  obtain ⟨ab, ao, rfl, hab, hcs⟩ := hd.lst.lit (by rw [u64s, List.length_map, entries_length]; omega)
  obtain ⟨b, hb⟩ : ∃ b, b = p / 512 := ⟨_, rfl⟩
  obtain ⟨wi, hwi⟩ : ∃ wi, wi = p / 64 := ⟨_, rfl⟩
  obtain ⟨k, hk⟩ : ∃ k, k = wi % 8 := ⟨_, rfl⟩
  obtain ⟨r, hr0⟩ : ∃ r, r = p % 64 := ⟨_, rfl⟩
  have E1 : (p : Int) / 512 = (b : Int) := by omega
  have E2 : (p : Int) / 64 = (wi : Int) := by omega
  have E3 : (wi : Int) % 8 = (k : Int) := by omega
  have E4 : (p : Int) % 64 = (r : Int) := by omega
  obtain ⟨nb, hnb⟩ : ∃ nb, nb = bs.length / 512 + 1 := ⟨_, rfl⟩
  have hbl : b < nb := by omega
  have hk8 : k < 8 := by omega
  have hr64 : r < 64 := by omega
  have hcp := cnt_parts bs p
  rw [← hb, ← hwi, ← hk, ← hr0] at hcp
  have HCP := hid hcp
  clear hcp
  obtain ⟨g0, g1⟩ := entries_get bs nb b hbl
  rw [← hnb] at c1 hcs
  have d0 : w.cell? ⟨ab, ao + b * 2, none⟩ = some (.int .u64 (cnt bs (512 * b) : Nat)) := by
    rw [Nat.mul_comm]; exact hcs (2 * b) _ (by rw [u64s, List.getElem?_map, g0]; rfl)
  have d1 : w.cell? ⟨ab, ao + b * 2 + 1, none⟩ = some (.int .u64 (packed bs b 7 : Nat)) := by
    rw [Nat.mul_comm]; exact hcs (2 * b + 1) _ (by rw [u64s, List.getElem?_map, g1]; rfl)
  have hbi : (b : Int) < (nb : Int) := by omega
  have hwl := wordAt_lt bs wi
  have HWI := hid (show wordI bs (wi : Int) = wordAt bs wi by unfold wordI; rw [if_neg (by omega)]; rfl)
  have HCR := hid (show clampN (r : Int) = r by unfold clampN; omega)
  have hpk := packed_lt64 bs b 7 (by omega)
  have hc512 := cnt_len bs (512 * b)
  have hcb := cnt_len bs p
  have hp4 : p ≤ 4294967296 := by omega
  clear hb hwi hk hr0 hnb g0 g1 hcs
  have HD := hid hd
  clear hd
  go_enter Tryd.func112, Tryd.ntmps112
  go_wp2_with fail
  refine (rlen_any gx _ _ hcl).mono ?_
  rintro e w' ⟨rfl, rfl⟩
  have hpi := HPI.out
  have hB1 : Below w.heap.size w (w.alloc (.cells #[.int .u64 (cnt bs (512 * b) : Nat), .int .u64 (packed bs b 7 : Nat)] 151)) := (Below.refl _ _).alloc (Nat.le_refl _) _
  rcases Nat.eq_zero_or_pos k with h0 | h0
  · subst h0
    rw [if_pos rfl, Nat.add_zero] at HCP
    go_wp2_with fail
    refine (rword_any gx A c bs _ _ (hr.below hB1)).mono ?_
    rw [HWI.out]
    rintro e w' ⟨rfl, rfl⟩
    go_wp2_with fail
    refine (ones_any _ _ _ hwl).mono ?_
    rw [HCR.out, ]
    rintro e w' ⟨rfl, rfl⟩
    have hsum := HCP.out
    go_wp2
    go_ret
    exact ⟨by rw [hsum]; go_num, hB1⟩
  · obtain ⟨q, rfl⟩ : ∃ q, k = q + 1 := ⟨k - 1, by omega⟩
    rw [if_neg (by omega), show q + 1 - 1 = q from by omega, ← packed_field bs b q (by omega)] at HCP
    have hf : fieldN (packed bs b 7) (9 * (q : Int)) 9 < 512 := by rw [packed_field bs b q (by omega)]; exact Nat.mod_lt _ (by omega)
    go_wp2_with fail
    refine (field_any _ _ _ _ (by omega)).mono ?_
    rintro e w' ⟨rfl, m, rfl⟩
    have hB2 := below_drewN hB1 m
    generalize fieldN (packed bs b 7) (9 * (q : Int)) 9 = f at *
    go_wp2_with fail
    refine (rword_any gx A c bs _ _ (hr.below hB2)).mono ?_
    rw [HWI.out]
    rintro e w' ⟨rfl, rfl⟩
    go_wp2_with fail
    refine (ones_any _ _ _ hwl).mono ?_
    rw [HCR.out]
    rintro e w' ⟨rfl, rfl⟩
    have hsum := HCP.out
    go_wp2
    go_ret
    exact ⟨by rw [hsum]; go_num, hB2⟩

theorem rankZero_any (g gx : Nat) (A : Option Addr) (c : Nat) (bs : List Bool) (Ad : Option Addr) (cd : Nat) (i : Int) (w : World) (hd : DirAt w g gx A c bs Ad cd) :
    Calls Tryd.prog 133 #[.pointer (some ⟨g, 0, none⟩), .int .i64 i] w fun e w' => e = .returned (.int .i64 (held bs.length i - cnt bs (held bs.length i) : Nat)) ∧ Below w.heap.size w w' := by
  have hr := hd.row
  have hsm := hr.small
  have hcl := hr.cells.2
  have hpl := held_le bs.length i
  have HPI := hid (show min (max i 0) ((bs.length : Nat) : Int) = ((held bs.length i : Nat) : Int) by unfold held; omega)
  generalize held bs.length i = p at *
  have c0 : w.cell? ⟨g, 0, none⟩ = some (.pointer (some ⟨gx, 0, none⟩)) := hd.blk.cell 0
  have hcp := cnt_le bs p
  have HH := hid (held_nat bs.length p hpl)
  go_enter Tryd.func133, Tryd.ntmps133
  go_wp2_with fail
  refine (rlen_any gx _ _ hcl).mono ?_
  rintro e w' ⟨rfl, rfl⟩
  have hpi := HPI.out
  go_wp2_with fail
  refine (rankOne_any g gx A c bs Ad cd _ _ hd).mono ?_
  rw [HH.out]
  rintro e w' ⟨rfl, hB⟩
  go_wp2
  go_ret
  exact ⟨by go_num, hB⟩

theorem rankSize_any (g gx : Nat) (A : Option Addr) (c : Nat) (bs : List Bool) (Ad : Option Addr) (cd : Nat) (w : World) (hd : DirAt w g gx A c bs Ad cd) :
    Calls Tryd.prog 125 #[.pointer (some ⟨g, 0, none⟩)] w fun e w' => e = .returned (.int .i64 (128 * (bs.length / 512 + 1) : Nat)) ∧ w = w' := by
  have hsm := hd.row.small
  have c1 : w.cell? ⟨g, 1, none⟩ = some (.slice Ad (bs.length / 512 + 1) cd) := hd.blk.cell 1
  have hnb : bs.length / 512 + 1 ≤ 8388609 := by omega
  generalize bs.length / 512 + 1 = nb at *
  go_enter Tryd.func125, Tryd.ntmps125
  go_wp2
  go_ret
  go_num

theorem rankRow_any (g gx : Nat) (A : Option Addr) (c : Nat) (bs : List Bool) (Ad : Option Addr) (cd : Nat) (w : World) (hd : DirAt w g gx A c bs Ad cd) :
    Calls Tryd.prog 114 #[.pointer (some ⟨g, 0, none⟩)] w fun e w' => e = .returned (.pointer (some ⟨gx, 0, none⟩)) ∧ w = w' := by
  have c0 : w.cell? ⟨g, 0, none⟩ = some (.pointer (some ⟨gx, 0, none⟩)) := hd.blk.cell 0
  go_enter Tryd.func114, Tryd.ntmps114
  go_wp2
  go_ret
  trivial

theorem held_step (n : Nat) (i : Int) (k : Nat) (h1 : k < n) (h2 : (k : Int) < i) : k + 1 ≤ held n i := by unfold held; omega

end Go.Proofs.YtlpnbkfcbamnbaaDoor
