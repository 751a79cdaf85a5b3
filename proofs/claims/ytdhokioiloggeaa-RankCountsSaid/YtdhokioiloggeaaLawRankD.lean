/- Walks: the laws RankLong and RankCounts return true. -/
import Derived.Test.YtdhokioiloggeaaLawRankC
set_option linter.unusedVariables false
set_option linter.unusedSimpArgs false
set_option maxRecDepth 100000
namespace Go.Proofs.Ytdhokioiloggeaa
open Go.RowKit L

theorem cnt_same (k : Nat) (b : Bool) (n : Nat) (h : n ≤ k) : cnt (List.replicate k b) n = if b then n else 0 := by
  induction n with
  | zero => simp [cnt]
  | succ n ih =>
    simp only [cnt]
    rw [ih (by omega)]
    have : bitAt (List.replicate k b) n = b := by unfold bitAt; rw [List.getElem?_replicate, if_pos (by omega)]; rfl
    rw [this]
    rcases b with _ | _ <;> simp

set_option maxHeartbeats 8000000 in
theorem lawRankLong_any (n : Int) (one : Bool) (p : Int) (w : World) (hn0 : 0 ≤ n) (hn1 : n ≤ 65535) (hp0 : 0 ≤ p) (hp1 : p ≤ 65535) :
    Calls Try.prog 11 #[.int .u16 n, .bool one, .int .u16 p] w fun e w' => e = .returned (.bool true) ∧ Below w.heap.size w w' := by
  obtain ⟨i0, hi0, hz0, hz1, hz2⟩ := info_parts Try.infoBool
  obtain ⟨k, hk⟩ : ∃ k : Nat, (k : Int) = 4000 + n % 16000 := ⟨(4000 + n % 16000).toNat, by omega⟩
  have hk1 : 4000 ≤ k := by omega
  have hk2 : k < 20000 := by omega
  have HK := hid hk.symm
  clear hk
  go_enter Try.func11, Try.ntmps11
  go_wp2_with fail
  refine (awake3 _).mono ?_
  rintro e w2 ⟨rfl, hBa⟩
  have q1 := hBa.size
  have ek := HK.out
  go_wp2_with (first
    | (at_make
       go_must (refine wpList_make_full _ rfl (.tmp 19) (.tmp 19) _ rfl w2.heap.size 4 i0 (.bool false) 1 Try.underlying27 hi0 hz0 hz1 .i64 .i64 _ _ k rfl rfl rfl rfl (by rw [hz2]; omega) (by unfold maxLen; omega) (Nat.le_refl _) ?_)
       intro w3 hown3 hgr3))
  rw [made_bools] at hown3
  have hB3 : Below w2.heap.size w2 w3 := (Below.refl _ _).grown hgr3 (Nat.le_refl _) (fun k hk => by cases hk)
  have hz3 := hB3.size
  clear ek
  go_wp2_with fail
  go_loopw [9] (fun i wr => ∃ (j : Nat) (L : List Bool), j ≤ k ∧ i = .int .i64 j ∧ L.length = k ∧ (∀ i, i < j → bitAt L i = one) ∧ wr.ownsRow w2.heap.size 4 1 (.slice (some ⟨w2.heap.size, 0, none⟩) k k) k (bools L) ∧ Below w2.heap.size w2 wr) (fun i _ => k - (intOf i).toNat)
  case atStart => exact ⟨0, List.replicate k false, by omega, rfl, by simp, fun j hj => by omega, hown3, hB3⟩
  case round =>
    obtain ⟨j, L, hj, rfl, hL, hLb, hown, hB⟩ := hrel
    have hsz := hB.size
    clear hown3 hgr3
    rcases Nat.lt_or_ge j k with hlt | hge
    · have hki : (j : Int) < (k : Int) := by omega
      have cw : wr.cell? ⟨w2.heap.size, j, none⟩ = some (.bool (bitAt L j)) := by
        rw [hown.cellAt j (by omega)]; exact bools_get L (by omega)
      have fw := hown.frozenAt j
      have hst := hown.stored j (.bool one)
      rw [bools_set] at hst
      have HL := hid (show ∀ i, i < j + 1 → bitAt (L.set j one) i = one from fun i hi => by
        rw [bitAt_set L j _ i (by omega)]
        by_cases e : i = j
        · subst e; simp
        · rw [if_neg e]; exact hLb i (by omega))
      clear hLb
      go_wp2
      go_roundw
      case rel => exact ⟨j + 1, L.set j one, by omega, by go_num, by rw [List.length_set]; exact hL, HL.out, hst.1, hB.setCell (Nat.le_refl _) _⟩
      case measure => simp [intOf]; omega
    · obtain rfl : j = k := by omega
      have HLE : L = List.replicate j one := ext_bits (by rw [hL, List.length_replicate]) (fun i hi => by
        rw [hLb i (by omega)]
        unfold bitAt; rw [List.getElem?_replicate, if_pos (by omega)]; rfl)
      have hlo := own_lst hown
      rw [HLE] at hlo
      have hlen : (List.replicate j one).length = j := List.length_replicate
      have hm : min p (j : Int) = (held j p : Nat) := by unfold held; omega
      have hhl := held_le j p
      have hcn := cnt_same j one (held j p) hhl
      clear HLE hLb hown
      have hmc := made_any (some ⟨w2.heap.size, 0, none⟩) j (List.replicate j one) wr hlo (by omega)
      rw [hlen] at hmc
      generalize List.replicate j one = cs at *
      have HLN := hid hlen
      have HCN := hid hcn
      clear hcn
      go_wp2_with fail
      refine hmc.mono ?_
      rintro e w4 ⟨g4, A4, c4, rfl, hr4, _, _, hB4⟩
      have hz4 := hB4.size
      clear hlen
      go_wp2_with fail
      refine (rankNew_any g4 A4 c4 cs _ hr4).mono ?_
      rintro e w5 ⟨Ad, cd, rfl, hd, hB5⟩
      have hz5 := hB5.size
      have q0 : Below w.heap.size w w5 := (hBa.trans (hB.mono q1)).trans ((hB4.mono (by omega)).trans (hB5.mono (by omega)))
      have hc1 := rankOne_any _ _ _ _ _ _ _ p _ hd
      rw [HLN.out, HCN.out] at hc1
      have hc2 : ∀ W, DirAt W w4.heap.size g4 A4 c4 cs Ad cd → Calls Try.prog 42 #[.pointer (some ⟨w4.heap.size, 0, none⟩), .int .i64 p] W fun e w' => e = .returned (.int .i64 (held j p - (if one then held j p else 0) : Nat)) ∧ Below W.heap.size W w' := fun W hW => by
        have := rankZero_any _ _ _ _ _ _ _ p _ hW
        rwa [HLN.out, HCN.out] at this
      have hc3 : ∀ W, DirAt W w4.heap.size g4 A4 c4 cs Ad cd → Calls Try.prog 43 #[.pointer (some ⟨w4.heap.size, 0, none⟩)] W fun e w' => e = .returned (.int .i64 (128 * (j / 512 + 1) : Nat)) ∧ W = w' := fun W hW => by
        have := rankSize_any _ _ _ _ _ _ _ _ hW
        rwa [HLN.out] at this
      have HZ := hid hc2
      have HS := hid hc3
      clear hc2 hc3
      generalize held j p = h at *
      rcases one with _ | _
      · simp only [Bool.false_eq_true, if_false] at hc1 HCN HZ
        go_wp2_with fail
        refine hc1.mono ?_
        rintro e w8 ⟨rfl, hB8⟩
        have hz8 := hB8.size
        go_wp2_with fail
        refine (HZ.out _ (hd.below hB8)).mono ?_
        rintro e w9 ⟨rfl, hB9⟩
        go_wp2_with fail
        refine (HS.out _ ((hd.below hB8).below hB9)).mono ?_
        rintro e w' ⟨rfl, rfl⟩
        have hsz4 : (128 : Int) * ((j : Int) / 512 + 1) ≤ (j : Int) / 4 + 256 := by omega
        go_wp2
        go_ret
        exact ⟨by first | rfl | go_num, q0.trans ((hB8.mono (by omega)).trans (hB9.mono (by omega)))⟩
      · simp only [if_true] at hc1 HCN HZ
        go_wp2_with fail
        refine hc1.mono ?_
        rintro e w8 ⟨rfl, hB8⟩
        have hz8 := hB8.size
        go_wp2_with fail
        refine (HZ.out _ (hd.below hB8)).mono ?_
        rintro e w9 ⟨rfl, hB9⟩
        go_wp2_with fail
        refine (HS.out _ ((hd.below hB8).below hB9)).mono ?_
        rintro e w' ⟨rfl, rfl⟩
        have hsz4 : (128 : Int) * ((j : Int) / 512 + 1) ≤ (j : Int) / 4 + 256 := by omega
        go_wp2
        go_ret
        exact ⟨by first | rfl | go_num, q0.trans ((hB8.mono (by omega)).trans (hB9.mono (by omega)))⟩

end Go.Proofs.Ytdhokioiloggeaa
