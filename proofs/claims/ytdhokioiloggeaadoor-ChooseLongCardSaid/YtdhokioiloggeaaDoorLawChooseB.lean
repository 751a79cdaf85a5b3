/- Walks: the law ChooseTurned returns true. -/
import Derived.Test.YtdhokioiloggeaaDoorLawChoose
set_option linter.unusedVariables false
set_option linter.unusedSimpArgs false
set_option maxRecDepth 100000
namespace Go.Proofs.YtdhokioiloggeaaDoor
open Go.RowKit Go.Shelf L

theorem made_bools4 (n : Nat) : (madeCells (Value.bool false).cells (n * 1)).toList = bools (List.replicate n false) := by
  have e : (Value.bool false).cells = #[.bool false] := rfl
  rw [e, Nat.mul_one]
  unfold madeCells bools
  apply List.ext_getElem
  · simp
  · intro i h1 h2
    simp [Nat.mod_one]
theorem bools_set4 (L : List Bool) (k : Nat) (b : Bool) : (bools L).set k (.bool b) = bools (L.set k b) := by simp [bools, List.map_set]
theorem bitAt_set4 (L : List Bool) (k : Nat) (b : Bool) (i : Nat) (h : k < L.length) : bitAt (L.set k b) i = if i = k then b else bitAt L i := by
  unfold bitAt
  rw [List.getElem?_set]
  by_cases e : k = i
  · subst e; simp [h]
  · rw [if_neg e, if_neg (fun h => e h.symm)]

set_option maxHeartbeats 1000000 in
theorem lawChooseTurned_long (A : Option Addr) (n c : Nat) (k : Int) (w : World) (hn : 60 < n) (hT : Tab w) :
    Calls Tryd.prog 11 #[.slice A n c, .int .i64 k] w fun e w' => e = .returned (.bool true) ∧ Below w.heap.size w w' := by
  have h1 : (60 : Int) < (n : Int) := by omega
  go_enter Tryd.func11, Tryd.ntmps11
  go_wp2_with fail
  refine (awake4 _ hT).mono ?_
  rintro e w1 ⟨rfl, hB1⟩
  go_wp2_with fail
  refine (awake4 _ (hT.below hB1)).mono ?_
  rintro e w2 ⟨rfl, hB2⟩
  go_wp2
  go_ret
  exact ⟨rfl, hB1.trans (hB2.mono hB1.size)⟩

set_option maxHeartbeats 8000000 in
theorem lawChooseTurned_true (A : Option Addr) (c : Nat) (l : List (Nat × Int)) (kk : Int) (w : World) (hl : Lst w A (opCells l)) (hx : ∀ o ∈ l, o.1 < 18446744073709551616) (hn : l.length ≤ 60) (hT : Tab w) :
    Calls Tryd.prog 11 #[.slice A l.length c, .int .i64 kk] w fun e w' => e = .returned (.bool true) ∧ Below w.heap.size w w' := by
  have hbl := allPuts_length l
  obtain ⟨i0, hi0, iz0, iz1, iz2⟩ := info_parts Tryd.infoBool
  go_enter Tryd.func11, Tryd.ntmps11
  go_wp2_with fail
  refine (awake4 _ hT).mono ?_
  rintro e w1 ⟨rfl, hB1⟩
  have hz1' := hB1.size
  go_wp2_with fail
  refine (all_any A c l _ (hl.below hB1) hx hn).mono ?_
  rintro e w2 ⟨A2, c2, rfl, hl2, hA2, hB2, hc2⟩
  have hz2' := hB2.size
  generalize allPuts l = bs at *
  have hbs : bs.length ≤ 3840 := by omega
  go_wp2_with (first
    | (at_make
       go_must (refine wpList_make_full _ rfl (.tmp 25) (.tmp 25) _ rfl w2.heap.size 4 i0 (.bool false) 1 Tryd.underlying39 hi0 iz0 iz1 .i64 .i64 _ _ bs.length rfl rfl rfl rfl (by rw [iz2]; omega) (by unfold maxLen; omega) (Nat.le_refl _) ?_)
       intro w3 hown3 hgr3))
  rw [made_bools4] at hown3
  have hB3 : Below w2.heap.size w2 w3 := (Below.refl _ _).grown hgr3 (Nat.le_refl _) (fun k hk => by cases hk)
  have hz3 := hB3.size
  have hBa : Below w.heap.size w w2 := hB1.trans (hB2.mono hz1')
  have hza := hBa.size
  have hl3 := hl2.below hB3
  clear hB1 hB2 hl
  go_wp2_with fail
  go_loopw [7] (fun i wr => ∃ (k : Nat) (L : List Bool), k ≤ bs.length ∧ i = .int .i64 k ∧ L.length = bs.length ∧ (∀ j, j < k → bitAt L j = !bitAt bs j) ∧ wr.ownsRow w2.heap.size 4 1 (.slice (some ⟨w2.heap.size, 0, none⟩) bs.length bs.length) bs.length (bools L) ∧ Below w2.heap.size w2 wr) (fun i _ => bs.length - (intOf i).toNat)
  case atStart => exact ⟨0, List.replicate bs.length false, by omega, rfl, by simp, fun j hj => by omega, hown3, hB3⟩
  case round =>
    obtain ⟨k, L, hk, rfl, hL, hLb, hown, hB⟩ := hrel
    have hsz := hB.size
    clear hown3 hgr3 hl3
    have hl4 := hl2.below hB
    rcases Nat.lt_or_ge k bs.length with hlt | hge
    · have hki : (k : Int) < (bs.length : Int) := by omega
      obtain ⟨ad, rfl, hc⟩ := hl4 k (.bool (bitAt bs k)) (bools_get bs hlt)
      have cw : wr.cell? ⟨w2.heap.size, k, none⟩ = some (.bool (bitAt L k)) := by
        rw [hown.cellAt k (by omega)]; exact bools_get L (by omega)
      have fw := hown.frozenAt k
      have hst := hown.stored k (.bool (!bitAt bs k))
      rw [bools_set4] at hst
      have HL := hid (show ∀ j, j < k + 1 → bitAt (L.set k (!bitAt bs k)) j = !bitAt bs j from fun j hj => by
        rw [bitAt_set4 L k _ j (by omega)]
        by_cases e : j = k
        · subst e; simp
        · rw [if_neg e]; exact hLb j (by omega))
      clear hLb
      go_wp2
      go_roundw
      case rel => exact ⟨k + 1, L.set k (!bitAt bs k), by omega, by go_num, by rw [List.length_set]; exact hL, HL.out, hst.1, hB.setCell (Nat.le_refl _) _⟩
      case measure => simp [intOf]; omega
    · obtain rfl : k = bs.length := by omega
      have HLE : L = bs.map (!·) := ext_bits (by rw [hL, List.length_map]) (fun i hi => by
        rw [hLb i (by omega)]
        unfold bitAt; rw [List.getElem?_map, List.getElem?_eq_getElem (by omega)]; rfl)
      have hlo := own_lst hown
      rw [HLE] at hlo
      have HPL := hid (show pl false (bs.map (!·)) kk = pl true bs kk from pl_not bs false kk)
      have HSUM := hid (show kc true bs bs.length + kc true (bs.map (!·)) (bs.map (!·)).length = bs.length by
        rw [List.length_map, kc_not]; exact kc_both bs)
      have hol : (bs.map (!·)).length = bs.length := List.length_map _
      clear HLE hLb hown
      generalize bs.map (!·) = cs at *
      have HMC := hid (fun W hW => by have := made_any (some ⟨w2.heap.size, 0, none⟩) bs.length cs W hW (by omega); rw [hol] at this; exact this)
      have hcsl : cs.length ≤ 3840 := by omega
      clear hol
      go_wp2_with fail
      refine (made_any A2 c2 bs _ hl4 (by omega)).mono ?_
      rintro e w4 ⟨g4, A4, c4, rfl, hr4, _, _, hB4⟩
      have hz4 := hB4.size
      go_wp2_with fail
      refine (chooseNew_any g4 A4 c4 bs _ hr4).mono ?_
      rintro e w5 ⟨gc, gd, Ad, cd, A1, c1, l1, A0, c0, l0, rfl, hch, hB5, _⟩
      have hz5 := hB5.size
      go_wp2_with fail
      refine (HMC.out _ ((hlo.below hB4).below hB5)).mono ?_
      rintro e w6 ⟨g6, A6, c6, rfl, hr6, _, _, hB6⟩
      have hz6 := hB6.size
      go_wp2_with fail
      refine (chooseNew_any g6 A6 c6 cs _ hr6).mono ?_
      rintro e w7 ⟨hc', hd', Ae, ce, B1, d1, m1, B0, d0, m0, rfl, hch2, hB7, _⟩
      have hz7 := hB7.size
      have hch7 := (hch.below hB6).below hB7
      have hBb : Below w.heap.size w w7 := hBa.trans ((hB.mono hza).trans ((hB4.mono (by omega)).trans ((hB5.mono (by omega)).trans ((hB6.mono (by omega)).trans (hB7.mono (by omega))))))
      have hzb := hBb.size
      have hT7 := hT.below hBb
      have H1 := hid (fun W hW hTW => chOne_any gc gd g4 A4 c4 bs Ad cd A1 c1 l1 A0 c0 l0 kk W hW hTW)
      have H0 := hid (fun W hW hTW => by have := chZero_any hc' hd' g6 A6 c6 cs Ae ce B1 d1 m1 B0 d0 m0 kk W hW hTW; rw [HPL.out] at this; exact this)
      have HO1 := hid (fun W hW => chOnes_any gc gd g4 A4 c4 bs Ad cd A1 c1 l1 A0 c0 l0 W hW)
      have HO2 := hid (fun W hW => chOnes_any hc' hd' g6 A6 c6 cs Ae ce B1 d1 m1 B0 d0 m0 W hW)
      have q1 := kc_le true bs bs.length
      have q2 := kc_le true cs cs.length
      have hsum : ((kc true bs bs.length : Nat) : Int) + (kc true cs cs.length : Nat) = (bs.length : Int) := by have := HSUM.out; omega
      generalize kc true bs bs.length = o1 at *
      generalize kc true cs cs.length = o2 at *
      generalize pl true bs kk = z at *
      have hsb : ((o1 : Int) + (o2 : Int) == (bs.length : Int)) = true := by rw [beq_iff_eq]; exact hsum
      have HS := hid hsum
      clear hsum
      go_wp2_with fail
      refine (H1.out _ hch7 hT7).mono ?_
      rintro e w8 ⟨rfl, hB8⟩
      have hch8 := hch2.below hB8
      have hch28 := hch7.below hB8
      have hT8 := hT7.below hB8
      have hBc := hBb.trans (hB8.mono hzb)
      have hzc := hBc.size
      go_wp2_with fail
      refine (H0.out _ hch8 hT8).mono ?_
      rintro e w9 ⟨rfl, hB9⟩
      have hch9 := hch8.below hB9
      have hch29 := hch28.below hB9
      go_wp2_with fail
      refine (HO1.out _ hch29).mono ?_
      rintro e w' ⟨rfl, rfl⟩
      go_wp2_with fail
      refine (HO2.out _ hch9).mono ?_
      rintro e w' ⟨rfl, rfl⟩
      go_wp2
      go_ret
      exact ⟨rfl, hBc.trans (hB9.mono hzc)⟩

theorem lawChooseTurned_any (A : Option Addr) (c : Nat) (l : List (Nat × Int)) (k : Int) (w : World) (hl : Lst w A (opCells l)) (hx : ∀ o ∈ l, o.1 < 18446744073709551616) (hT : Tab w) :
    Calls Tryd.prog 11 #[.slice A l.length c, .int .i64 k] w fun e w' => e = .returned (.bool true) ∧ Below w.heap.size w w' := by
  rcases Nat.lt_or_ge 60 l.length with h | h
  · exact lawChooseTurned_long A l.length c k w h hT
  · exact lawChooseTurned_true A c l k w hl hx h hT

end Go.Proofs.YtdhokioiloggeaaDoor
