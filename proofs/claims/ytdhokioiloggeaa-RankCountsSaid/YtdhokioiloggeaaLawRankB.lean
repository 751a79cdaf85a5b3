/- Walks: the laws RankParts, RankTurned, RankLong return true. -/
import Derived.Test.YtdhokioiloggeaaLawRank
set_option linter.unusedVariables false
set_option linter.unusedSimpArgs false
set_option maxRecDepth 100000
namespace Go.Proofs.Ytdhokioiloggeaa
open Go.RowKit L

theorem cnt_congr {cs bs : List Bool} (n : Nat) (h : ∀ i, i < n → bitAt cs i = bitAt bs i) : cnt cs n = cnt bs n := by
  induction n with
  | zero => rfl
  | succ n ih => simp only [cnt]; rw [ih (fun i hi => h i (by omega)), h n (by omega)]

/-- The ones between two places. -/
theorem cnt_slice (bs : List Bool) (a b : Nat) (hab : a ≤ b) : ∀ n, cnt ((bs.drop a).take (b - a)) n = cnt bs (min (a + n) b) - cnt bs a
  | 0 => by rw [show min (a + 0) b = a from by omega]; simp [cnt]
  | n + 1 => by
    simp only [cnt]
    rw [cnt_slice bs a b hab n, bitAt_drop_take]
    by_cases h : n < b - a
    · rw [show min (a + (n + 1)) b = min (a + n) b + 1 from by omega]
      simp only [cnt]
      rw [show min (a + n) b = a + n from by omega]
      have := cnt_mono bs (show a ≤ a + n by omega)
      have hd : decide (n < b - a) = true := by simpa using h
      rw [hd, Bool.true_and]; omega
    · rw [show min (a + (n + 1)) b = min (a + n) b from by omega]
      have hd : decide (n < b - a) = false := by simpa using h
      rw [hd]; simp

theorem cnt_not (bs : List Bool) (n : Nat) (h : n ≤ bs.length) : cnt (bs.map (!·)) n = n - cnt bs n := by
  induction n with
  | zero => simp [cnt]
  | succ n ih =>
    have h1 := cnt_le bs n
    simp only [cnt]
    rw [ih (by omega)]
    have : bitAt (bs.map (!·)) n = !bitAt bs n := by
      unfold bitAt; rw [List.getElem?_map, List.getElem?_eq_getElem (by omega)]; rfl
    rw [this]
    rcases bitAt bs n with _ | _ <;> simp <;> omega

/-- What RankParts asks. -/
theorem parts_ones (bs : List Bool) (a b : Int) (h : a ≤ b) :
    ((cnt bs (held bs.length b) : Nat) : Int) - (cnt bs (held bs.length a) : Nat) = (cnt ((bs.drop (cutLo bs.length a)).take (cutHi bs.length a b - cutLo bs.length a)) (held ((bs.drop (cutLo bs.length a)).take (cutHi bs.length a b - cutLo bs.length a)).length bs.length) : Nat) := by
  have ha : cutLo bs.length a = held bs.length a := by unfold cutLo held; omega
  have hb : cutHi bs.length a b = held bs.length b := by unfold cutHi held cutLo; omega
  have hm : held bs.length a ≤ held bs.length b := by unfold held; omega
  have hl := held_le bs.length b
  have hlen : ((bs.drop (held bs.length a)).take (held bs.length b - held bs.length a)).length = held bs.length b - held bs.length a := by rw [List.length_take, List.length_drop]; omega
  rw [ha, hb, hlen, cnt_slice bs _ _ hm]
  have hc := cnt_mono bs hm
  have e : held (held bs.length b - held bs.length a) (bs.length : Nat) = held bs.length b - held bs.length a := by
    generalize held bs.length a = x at *
    generalize held bs.length b = y at *
    unfold held; omega
  rw [e, show min (held bs.length a + (held bs.length b - held bs.length a)) (held bs.length b) = held bs.length b from by omega]
  omega
theorem parts_zeros (bs : List Bool) (a b : Int) (h : a ≤ b) :
    ((held bs.length b - cnt bs (held bs.length b) : Nat) : Int) - (held bs.length a - cnt bs (held bs.length a) : Nat) = (held ((bs.drop (cutLo bs.length a)).take (cutHi bs.length a b - cutLo bs.length a)).length bs.length - cnt ((bs.drop (cutLo bs.length a)).take (cutHi bs.length a b - cutLo bs.length a)) (held ((bs.drop (cutLo bs.length a)).take (cutHi bs.length a b - cutLo bs.length a)).length bs.length) : Nat) := by
  have h1 := parts_ones bs a b h
  have ha : cutLo bs.length a = held bs.length a := by unfold cutLo held; omega
  have hb : cutHi bs.length a b = held bs.length b := by unfold cutHi held cutLo; omega
  have hm : held bs.length a ≤ held bs.length b := by unfold held; omega
  have hl := held_le bs.length b
  have hlen : ((bs.drop (held bs.length a)).take (held bs.length b - held bs.length a)).length = held bs.length b - held bs.length a := by rw [List.length_take, List.length_drop]; omega
  rw [ha, hb, hlen] at h1 ⊢
  have e : held (held bs.length b - held bs.length a) (bs.length : Nat) = held bs.length b - held bs.length a := by
    generalize held bs.length a = x at *
    generalize held bs.length b = y at *
    unfold held; omega
  rw [e] at h1 ⊢
  have c1 := cnt_le bs (held bs.length a)
  have c2 := cnt_le bs (held bs.length b)
  have c3 := cnt_le ((bs.drop (held bs.length a)).take (held bs.length b - held bs.length a)) (held bs.length b - held bs.length a)
  omega

set_option maxHeartbeats 2000000 in
theorem lawRankParts_long (A : Option Addr) (n c : Nat) (p q : Int) (w : World) (hn : 60 < n) :
    Calls Try.prog 13 #[.slice A n c, .int .u16 p, .int .u16 q] w fun e w' => e = .returned (.bool true) ∧ Below w.heap.size w w' := by
  have h1 : (60 : Int) < (n : Int) := by omega
  go_enter Try.func13, Try.ntmps13
  go_wp2_with fail
  refine (awake3 _).mono ?_
  rintro e w1 ⟨rfl, hB1⟩
  go_wp2_with fail
  refine (awake3 _).mono ?_
  rintro e w2 ⟨rfl, hB2⟩
  go_wp2
  go_ret
  exact ⟨rfl, hB1.trans (hB2.mono hB1.size)⟩

set_option maxHeartbeats 8000000 in
theorem lawRankParts_true (A : Option Addr) (c : Nat) (l : List (Nat × Int)) (p q : Int) (w : World) (hl : Lst w A (opCells l)) (hx : ∀ o ∈ l, o.1 < 18446744073709551616) (hn : l.length ≤ 60) (hp0 : 0 ≤ p) (hp1 : p ≤ 65535) (hq0 : 0 ≤ q) (hq1 : q ≤ 65535) :
    Calls Try.prog 13 #[.slice A l.length c, .int .u16 p, .int .u16 q] w fun e w' => e = .returned (.bool true) ∧ Below w.heap.size w w' := by
  have hbl := allPuts_length l
  obtain ⟨a, ha⟩ : ∃ a, a = min p q := ⟨_, rfl⟩
  obtain ⟨b, hb⟩ : ∃ b, b = max p q := ⟨_, rfl⟩
  have hab : a ≤ b := by omega
  have HA := hid ha.symm
  have HB := hid hb.symm
  clear ha hb
  go_enter Try.func13, Try.ntmps13
  go_wp2_with fail
  refine (awake3 _).mono ?_
  rintro e w1 ⟨rfl, hB1⟩
  have hz1 := hB1.size
  go_wp2_with fail
  refine (all_any A c l _ (hl.below hB1) hx hn).mono ?_
  rintro e w2 ⟨A2, c2, rfl, hl2, hA2, hB2, hc2⟩
  have hz2 := hB2.size
  generalize allPuts l = bs at *
  have hbs : bs.length ≤ 3840 := by omega
  go_wp2_with fail
  refine (made_any A2 c2 bs _ hl2 (by omega)).mono ?_
  rintro e w3 ⟨g3, A3, c3, rfl, hr3, _, _, hB3⟩
  have hz3 := hB3.size
  have hBa : Below w.heap.size w w3 := hB1.trans ((hB2.mono hz1).trans (hB3.mono (by omega)))
  clear hB1 hB2 hB3 hl2 hl
  have eA := HA.out
  have eB := HB.out
  go_wp2_with fail
  refine (rankNew_any g3 A3 c3 bs _ hr3).mono ?_
  rintro e w4 ⟨Ad, cd, rfl, hd, hB4⟩
  have hz4 := hB4.size
  have hr4 := hr3.below hB4
  have hBb := hBa.trans (hB4.mono (by omega))
  clear hB4
  go_wp2_with fail
  refine (clip_any g3 A3 c3 bs _ _ _ hr4).mono ?_
  rintro e w5 ⟨g5, A5, c5, rfl, hr5, _, _, hB5⟩
  have hz5 := hB5.size
  have hd5 := hd.below hB5
  have hr35 := hr4.below hB5
  have hBc := hBb.trans (hB5.mono (by omega))
  clear hB5 hd hr4 hBb
  have HP1 := hid (parts_ones bs a b hab)
  have HP2 := hid (parts_zeros bs a b hab)
  generalize (bs.drop (cutLo bs.length a)).take (cutHi bs.length a b - cutLo bs.length a) = cs at *
  go_wp2_with fail
  refine (rankNew_any g5 A5 c5 cs _ hr5).mono ?_
  rintro e w6 ⟨Ae, ce, rfl, he, hB6⟩
  have hz6 := hB6.size
  have hd6 := hd5.below hB6
  have hr36 := hr35.below hB6
  have hBd := hBc.trans (hB6.mono (by omega))
  clear hB6 hd5 hr35 hBc hr5
  have hc36 := hr36.cells.2
  go_wp2_with fail
  refine (rlen_any g3 _ _ hc36).mono ?_
  rintro e w' ⟨rfl, rfl⟩
  have k1 := cnt_len bs (held bs.length b)
  have k2 := cnt_len bs (held bs.length a)
  have k3 := held_le bs.length b
  have k4 := held_le bs.length a
  go_wp2_with fail
  refine (rankOne_any _ _ _ _ _ _ _ _ _ hd6).mono ?_
  rintro e w7 ⟨rfl, hB7⟩
  have hz7 := hB7.size
  have hd7 := hd6.below hB7
  have he7 := he.below hB7
  go_wp2_with fail
  refine (rankOne_any _ _ _ _ _ _ _ _ _ hd7).mono ?_
  rintro e w8 ⟨rfl, hB8⟩
  have hz8 := hB8.size
  have hd8 := hd7.below hB8
  have he8 := he7.below hB8
  go_wp2_with fail
  refine (rankOne_any _ _ _ _ _ _ _ _ _ he8).mono ?_
  rintro e w9 ⟨rfl, hB9⟩
  have hz9 := hB9.size
  have hd9 := hd8.below hB9
  have he9 := he8.below hB9
  have e1 := HP1.out
  have e2 := HP2.out
  go_wp2_with fail
  refine (rankZero_any _ _ _ _ _ _ _ _ _ hd9).mono ?_
  rintro e w10 ⟨rfl, hB10⟩
  have hz10 := hB10.size
  have hd10 := hd9.below hB10
  have he10 := he9.below hB10
  go_wp2_with fail
  refine (rankZero_any _ _ _ _ _ _ _ _ _ hd10).mono ?_
  rintro e w11 ⟨rfl, hB11⟩
  have hz11 := hB11.size
  have he11 := he10.below hB11
  go_wp2_with fail
  refine (rankZero_any _ _ _ _ _ _ _ _ _ he11).mono ?_
  rintro e w12 ⟨rfl, hB12⟩
  go_wp2
  go_ret
  exact ⟨rfl, hBd.trans ((hB7.mono (by omega)).trans ((hB8.mono (by omega)).trans ((hB9.mono (by omega)).trans ((hB10.mono (by omega)).trans ((hB11.mono (by omega)).trans (hB12.mono (by omega)))))))⟩

theorem lawRankParts_any (A : Option Addr) (c : Nat) (l : List (Nat × Int)) (p q : Int) (w : World) (hl : Lst w A (opCells l)) (hx : ∀ o ∈ l, o.1 < 18446744073709551616) (hp0 : 0 ≤ p) (hp1 : p ≤ 65535) (hq0 : 0 ≤ q) (hq1 : q ≤ 65535) :
    Calls Try.prog 13 #[.slice A l.length c, .int .u16 p, .int .u16 q] w fun e w' => e = .returned (.bool true) ∧ Below w.heap.size w w' := by
  rcases Nat.lt_or_ge 60 l.length with h | h
  · exact lawRankParts_long A l.length c p q w h
  · exact lawRankParts_true A c l p q w hl hx h hp0 hp1 hq0 hq1

end Go.Proofs.Ytdhokioiloggeaa
