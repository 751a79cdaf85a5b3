/- Walks: the laws RankTurned and RankLong return true. -/
import Derived.Test.YtdhokioiloggeaaLawRankB
import Derived.OwnWalk
set_option linter.unusedVariables false
set_option linter.unusedSimpArgs false
set_option maxRecDepth 100000
namespace Go.Proofs.Ytdhokioiloggeaa
open Go.RowKit L

theorem made_bools (n : Nat) : (madeCells (Value.bool false).cells (n * 1)).toList = bools (List.replicate n false) := by
  have e : (Value.bool false).cells = #[.bool false] := rfl
  rw [e, Nat.mul_one]
  unfold madeCells bools
  apply List.ext_getElem
  · simp
  · intro i h1 h2
    simp [Nat.mod_one]

theorem bools_set (L : List Bool) (k : Nat) (b : Bool) : (bools L).set k (.bool b) = bools (L.set k b) := by simp [bools, List.map_set]
theorem bitAt_set (L : List Bool) (k : Nat) (b : Bool) (i : Nat) (h : k < L.length) : bitAt (L.set k b) i = if i = k then b else bitAt L i := by
  unfold bitAt
  rw [List.getElem?_set]
  by_cases e : k = i
  · subst e; simp [h]
  · rw [if_neg e, if_neg (fun h => e h.symm)]

theorem held_len (bs cs : List Bool) (h : cs.length = bs.length) (i : Int) : held cs.length i = held bs.length i := by rw [h]
theorem cnt_turned (bs : List Bool) (i : Int) : cnt (bs.map (!·)) (held (bs.map (!·)).length i) = held bs.length i - cnt bs (held bs.length i) := by
  rw [List.length_map, cnt_not bs _ (held_le _ _)]
theorem zeros_turned (bs : List Bool) (i : Int) : held (bs.map (!·)).length i - cnt (bs.map (!·)) (held (bs.map (!·)).length i) = cnt bs (held bs.length i) := by
  rw [List.length_map, cnt_not bs _ (held_le _ _)]
  have := cnt_le bs (held bs.length i)
  omega

set_option maxHeartbeats 2000000 in
theorem lawRankTurned_long (A : Option Addr) (n c : Nat) (p : Int) (w : World) (hn : 60 < n) :
    Calls Try.prog 10 #[.slice A n c, .int .i64 p] w fun e w' => e = .returned (.bool true) ∧ Below w.heap.size w w' := by
  have h1 : (60 : Int) < (n : Int) := by omega
  go_enter Try.func10, Try.ntmps10
  go_wp2_with fail
  refine (awake3 _).mono ?_
  rintro e w1 ⟨rfl, hB1⟩
  go_wp2_with fail
  refine (awake3 _).mono ?_
  rintro e w2 ⟨rfl, hB2⟩
  go_wp2
  go_ret
  exact ⟨rfl, hB1.trans (hB2.mono hB1.size)⟩

set_option maxHeartbeats 8000000 in
theorem lawRankTurned_true (A : Option Addr) (c : Nat) (l : List (Nat × Int)) (p : Int) (w : World) (hl : Lst w A (opCells l)) (hx : ∀ o ∈ l, o.1 < 18446744073709551616) (hn : l.length ≤ 60) :
    Calls Try.prog 10 #[.slice A l.length c, .int .i64 p] w fun e w' => e = .returned (.bool true) ∧ Below w.heap.size w w' := by
  have hbl := allPuts_length l
  obtain ⟨i0, hi0, hz0, hz1, hz2⟩ := info_parts Try.infoBool
  go_enter Try.func10, Try.ntmps10
  go_wp2_with fail
  refine (awake3 _).mono ?_
  rintro e w1 ⟨rfl, hB1⟩
  have hz1' := hB1.size
  go_wp2_with fail
  refine (all_any A c l _ (hl.below hB1) hx hn).mono ?_
  rintro e w2 ⟨A2, c2, rfl, hl2, hA2, hB2, hc2⟩
  have hz2' := hB2.size
  generalize allPuts l = bs at *
  have hbs : bs.length ≤ 3840 := by omega
  go_wp2_with (first
    | (at_make
       go_must (refine wpList_make_full _ rfl (.tmp 21) (.tmp 21) _ rfl w2.heap.size 4 i0 (.bool false) 1 Try.underlying27 hi0 hz0 hz1 .i64 .i64 _ _ bs.length rfl rfl rfl rfl (by rw [hz2]; omega) (by unfold maxLen; omega) (Nat.le_refl _) ?_)
       intro w3 hown3 hgr3))
  rw [made_bools] at hown3
  have hB3 : Below w2.heap.size w2 w3 := (Below.refl _ _).grown hgr3 (Nat.le_refl _) (fun k hk => by cases hk)
  have hz3 := hB3.size
  have hBa : Below w.heap.size w w2 := hB1.trans (hB2.mono hz1')
  have hl3 := hl2.below hB3
  clear hB1 hB2 hl
  go_wp2_with fail
  go_loopw [7] (fun i wr => ∃ (k : Nat) (L : List Bool), k ≤ bs.length ∧ i = .int .i64 k ∧ L.length = bs.length ∧ (∀ j, j < k → bitAt L j = !bitAt bs j) ∧ wr.ownsRow w2.heap.size 4 1 (.slice (some ⟨w2.heap.size, 0, none⟩) bs.length bs.length) bs.length (bools L) ∧ Below w2.heap.size w2 wr) (fun i _ => bs.length - (intOf i).toNat)
  case atStart => exact ⟨0, List.replicate bs.length false, by omega, rfl, by simp, fun j hj => by omega, hown3, hB3⟩
  case round =>
    obtain ⟨k, L, hk, rfl, hL, hLb, hown, hB⟩ := hrel
    have hsz := hB.size
    clear hown3 hgr3 hl3
    have hl4 := hl2.below hB
    rcases Nat.lt_or_ge k bs.length with hlt | hge
    · have hki : (k : Int) < (bs.length : Int) := by omega
      obtain ⟨ad, rfl, hc⟩ := hl4 k (.bool (bitAt bs k)) (bools_get bs hlt)
      have cw : wr.cell? ⟨w2.heap.size, k, none⟩ = some (.bool (bitAt L k)) := by
        rw [hown.cellAt k (by omega)]; exact bools_get L (by omega)
      have fw := hown.frozenAt k
      have hst := hown.stored k (.bool (!bitAt bs k))
      rw [bools_set] at hst
      have HL := hid (show ∀ j, j < k + 1 → bitAt (L.set k (!bitAt bs k)) j = !bitAt bs j from fun j hj => by
        rw [bitAt_set L k _ j (by omega)]
        by_cases e : j = k
        · subst e; simp
        · rw [if_neg e]; exact hLb j (by omega))
      clear hLb
      go_wp2
      go_roundw
      case rel => exact ⟨k + 1, L.set k (!bitAt bs k), by omega, by go_num, by rw [List.length_set]; exact hL, HL.out, hst.1, hB.setCell (Nat.le_refl _) _⟩
      case measure => simp [intOf]; omega
    · obtain rfl : k = bs.length := by omega
      have HLE : L = bs.map (!·) := ext_bits (by rw [hL, List.length_map]) (fun i hi => by
        rw [hLb i (by omega)]
        unfold bitAt; rw [List.getElem?_map, List.getElem?_eq_getElem (by omega)]; rfl)
      have hlo := own_lst hown
      rw [HLE] at hlo
      have H1 := hid (cnt_turned bs p)
      have H2 := hid (zeros_turned bs p)
      have hol : (bs.map (!·)).length = bs.length := List.length_map _
      clear HLE hLb hown
      generalize bs.map (!·) = cs at *
      have hmc := fun W hW => made_any (some ⟨w2.heap.size, 0, none⟩) bs.length cs W hW (by omega)
      rw [hol] at hmc
      go_wp2_with fail
      refine (made_any A2 c2 bs _ hl4 (by omega)).mono ?_
      rintro e w4 ⟨g4, A4, c4, rfl, hr4, _, _, hB4⟩
      have hz4 := hB4.size
      go_wp2_with fail
      refine (rankNew_any g4 A4 c4 bs _ hr4).mono ?_
      rintro e w5 ⟨Ad, cd, rfl, hd, hB5⟩
      have hz5 := hB5.size
      go_wp2_with fail
      refine (hmc _ ((hlo.below hB4).below hB5)).mono ?_
      rintro e w6 ⟨g6, A6, c6, rfl, hr6, _, _, hB6⟩
      have hz6 := hB6.size
      go_wp2_with fail
      refine (rankNew_any g6 A6 c6 cs _ hr6).mono ?_
      rintro e w7 ⟨Ae, ce, rfl, he, hB7⟩
      have hz7 := hB7.size
      have hd7 := (hd.below hB6).below hB7
      have e1 := H1.out
      have e2 := H2.out
      go_wp2_with fail
      refine (rankOne_any _ _ _ _ _ _ _ _ _ hd7).mono ?_
      rintro e w8 ⟨rfl, hB8⟩
      have hz8 := hB8.size
      go_wp2_with fail
      refine (rankZero_any _ _ _ _ _ _ _ _ _ (he.below hB8)).mono ?_
      rw [e2]
      rintro e w9 ⟨rfl, hB9⟩
      have hz9 := hB9.size
      have hd9 := (hd7.below hB8).below hB9
      have he9 := (he.below hB8).below hB9
      go_wp2_with fail
      refine (rankZero_any _ _ _ _ _ _ _ _ _ hd9).mono ?_
      rintro e w10 ⟨rfl, hB10⟩
      have hz10 := hB10.size
      go_wp2_with fail
      refine (rankOne_any _ _ _ _ _ _ _ _ _ (he9.below hB10)).mono ?_
      rw [e1]
      rintro e w11 ⟨rfl, hB11⟩
      go_wp2
      go_ret
      have q1 := hBa.size
      have q0 : Below w.heap.size w wr := hBa.trans (hB.mono q1)
      exact ⟨rfl, q0.trans ((hB4.mono (by omega)).trans ((hB5.mono (by omega)).trans ((hB6.mono (by omega)).trans ((hB7.mono (by omega)).trans ((hB8.mono (by omega)).trans ((hB9.mono (by omega)).trans ((hB10.mono (by omega)).trans (hB11.mono (by omega)))))))))⟩

theorem lawRankTurned_any (A : Option Addr) (c : Nat) (l : List (Nat × Int)) (p : Int) (w : World) (hl : Lst w A (opCells l)) (hx : ∀ o ∈ l, o.1 < 18446744073709551616) :
    Calls Try.prog 10 #[.slice A l.length c, .int .i64 p] w fun e w' => e = .returned (.bool true) ∧ Below w.heap.size w w' := by
  rcases Nat.lt_or_ge 60 l.length with h | h
  · exact lawRankTurned_long A l.length c p w h
  · exact lawRankTurned_true A c l p w hl hx h

end Go.Proofs.Ytdhokioiloggeaa
