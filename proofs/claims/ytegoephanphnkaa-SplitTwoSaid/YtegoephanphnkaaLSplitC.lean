/- Walks: the laws of chapter 24: the records are the file. -/
import Derived.Test.YtegoephanphnkaaSplitE
set_option linter.unusedVariables false
set_option linter.unusedSimpArgs false
set_option maxRecDepth 100000
namespace Go.Proofs.Ytegoephanphnkaa
open Go.RowKit Go.Shelf L

theorem nb_inj {s t : ByteArray} (h : nb s = nb t) : s = t := by
  unfold nb at h
  have := (List.map_inj_right (fun x y hxy => UInt8.toNat_inj.1 hxy)).1 h
  exact ByteArray.ext (Array.toList_inj.1 this)
theorem lo_nat (n a : Nat) (h : a ≤ n) : lo24 n (a : Int) = a := by unfold lo24; omega
theorem hi_nat (n a b : Nat) (h : a ≤ b) (h2 : b ≤ n) : hi24 n (a : Int) (b : Int) = b := by unfold hi24; rw [lo_nat n a (by omega)]; omega
theorem text_rec (s : ByteArray) (r : RecN) (h1 : r.a ≤ r.b) (h2 : r.b ≤ s.size) (w : World) (hs : s.size ≤ 9223372036854775807) :
    Calls Try.prog 22 #[.string s, .agg #[.int .i64 (r.a : Nat), .int .i64 (r.b : Nat), .int .i64 (r.v : Nat), .int .i64 (r.p : Nat)]] w fun e w' => ∃ S, e = .returned (.string S) ∧ nb S = sub_ (nb s) r.a r.b ∧ Below w.heap.size w w' := by
  refine (text24_any s r.a r.b _ _ rfl rfl w hs).mono ?_
  rintro e w' ⟨rfl, h⟩
  rw [lo_nat _ _ (by omega), hi_nat _ _ _ h1 h2]
  exact ⟨_, rfl, nb_ext s r.a r.b, h⟩
theorem recs_pre (f m : List Nat) (deep : Nat) (hl : at_ f (f.length - 1) = 10) : ∃ ys, recs (f ++ m) deep = recs f deep ++ ys := by
  unfold recs
  rw [more_spans f m hl, List.map_append]
  refine ⟨_, congrArg (· ++ _) (List.map_congr_left fun p hp => ?_)⟩
  have := spans_in hp
  unfold recN
  rw [sub_pre f m p.1 p.2 this.1 this.2]
theorem recC_take (xs ys : List RecN) : (recC (xs ++ ys)).take (recC xs).length = recC xs := by
  unfold recC
  rw [List.flatMap_append, List.take_left]

/-- The records from a place on. -/
theorem suffix_step {F : List Nat} {a j : Nat} (h : (spans F).drop j = spnA F a) (hj : j < (spans F).length) : a < F.length ∧ (spans F)[j] = (a, nlx F a) ∧ (spans F).drop (j + 1) = spnA F (nlx F a + 1) := by
  have ha : a < F.length := by
    rcases Nat.lt_or_ge a F.length with h1 | h1
    · exact h1
    · rw [spnA_end h1] at h
      have := congrArg List.length h
      rw [List.length_drop] at this
      simp at this; omega
  rw [spnA_step ha, List.drop_eq_getElem_cons hj] at h
  injection h with h1 h2
  exact ⟨ha, h1, h2⟩

/-- Is the last byte a line end? -/
theorem last_iff {F : List Nat} {a j n : Nat} (ha : a < F.length) (hn : n = (spans F).length) (hj : j < n) (hd : (spans F).drop (j + 1) = spnA F (nlx F a + 1)) : (j + 1 < n ∨ at_ F (F.length - 1) = 10) ↔ nlx F a < F.length := by
  have hle := nlx_le (l := F) (a := a) (by omega)
  constructor
  · rintro (h | h)
    · rcases Nat.lt_or_ge (nlx F a) F.length with h1 | h1
      · exact h1
      · rw [spnA_end (by omega)] at hd
        have := congrArg List.length hd
        rw [List.length_drop] at this
        simp at this; omega
    · rcases Nat.lt_or_ge (nlx F a) F.length with h1 | h1
      · exact h1
      · exact absurd h (nlx_none (l := F) (a := a) (by omega) (by omega))
  · intro h
    rcases Nat.lt_or_ge (j + 1) n with h1 | h1
    · exact Or.inl h1
    · have h2 : (spans F).drop (j + 1) = [] := List.drop_eq_nil_of_le (by omega)
      rw [h2] at hd
      have h3 : F.length ≤ nlx F a + 1 := by
        rcases Nat.lt_or_ge (nlx F a + 1) F.length with h4 | h4
        · rw [spnA_step h4] at hd; cases hd
        · exact h4
      have h5 := nlx_get h
      rw [show nlx F a = F.length - 1 from by omega] at h5
      exact Or.inr h5
theorem take_end {F : List Nat} {a : Nat} (ha : a < F.length) : (nlx F a < F.length → F.take (nlx F a) ++ [10] = F.take (nlx F a + 1)) ∧ (¬ nlx F a < F.length → F.take (nlx F a) = F.take (nlx F a + 1)) := by
  have hle := nlx_le (l := F) (a := a) (by omega)
  constructor
  · intro h
    have h5 := nlx_get h
    rw [List.take_succ_eq_append_getElem h]
    unfold at_ at h5
    rw [List.getElem?_eq_getElem h, Option.getD_some] at h5
    rw [h5]
  · intro h
    rw [List.take_of_length_le (by omega), List.take_of_length_le (by omega)]

set_option maxHeartbeats 4000000 in
theorem back_law (s m : ByteArray) (w : World) (hs : s.size ≤ 9223372036854775807) (hm : m.size ≤ 9223372036854775807) :
    Calls Try.prog 12 #[.string s, .string m] w fun e w' => e = .returned (.bool true) ∧ Below w.heap.size w w' := by
  have HL := hid (nb_length s)
  have hgu : (decide ((s.size : Int) > 500) = true) ∨ (decide ((s.size : Int) > 500) = false ∧ decide ((m.size : Int) > 500) = true) ∨ (decide ((s.size : Int) > 500) = false ∧ decide ((m.size : Int) > 500) = false ∧ s.size ≤ 500 ∧ m.size ≤ 500) := by
    rcases Nat.lt_or_ge 500 s.size with h | h
    · exact Or.inl (decide_eq_true (by omega))
    · rcases Nat.lt_or_ge 500 m.size with h2 | h2
      · exact Or.inr (Or.inl ⟨decide_eq_false (by omega), decide_eq_true (by omega)⟩)
      · exact Or.inr (Or.inr ⟨decide_eq_false (by omega), decide_eq_false (by omega), h, h2⟩)
  rcases hgu with g1 | ⟨g1, g2⟩ | ⟨g1, g2, hs5, hm5⟩
  · go_enter Try.func12, Try.ntmps12
    go_wp2_with fail
    refine (awake24 _).mono ?_
    rintro e w1 ⟨rfl, hB1⟩
    go_wp2_with fail
    refine (awake24 _).mono ?_
    rintro e w2 ⟨rfl, hB2⟩
    go_wp2_with fail
    go_ret
    exact ⟨rfl, hB1.trans (hB2.mono hB1.size)⟩
  · go_enter Try.func12, Try.ntmps12
    go_wp2_with fail
    refine (awake24 _).mono ?_
    rintro e w1 ⟨rfl, hB1⟩
    go_wp2_with fail
    refine (awake24 _).mono ?_
    rintro e w2 ⟨rfl, hB2⟩
    go_wp2_with fail
    go_ret
    exact ⟨rfl, hB1.trans (hB2.mono hB1.size)⟩
  · have g1N : ¬ (500 < s.size) := by omega
    have g2N : ¬ (500 < m.size) := by omega
    have HA := hid (fun W => records_few s 9 (by omega) (by omega) (by omega) (nb s) rfl W)
    have HRE := hid (show recs (nb s) 9 = (spans (nb s)).map (recN (nb s) 9) from rfl)
    obtain ⟨xs, hxs⟩ : ∃ xs, xs = recs (nb s) 9 := ⟨_, rfl⟩
    rw [← hxs] at HA HRE
    have HXS := hid hxs
    clear hxs
    have hxl : xs.length = (spans (nb s)).length := by rw [HRE.out, List.length_map]
    have hxl5 : xs.length ≤ 500 := by have := spans_length (nb s); rw [HL.out] at this; omega
    have HXL := hid hxl
    clear hxl
    go_enter Try.func12, Try.ntmps12
    go_wp2_with fail
    refine (awake24 _).mono ?_
    rintro e w1 ⟨rfl, hB1⟩
    go_wp2_with fail
    refine (HA.out _).mono ?_
    rintro e w2 ⟨A, c, rfl, hlst, hxc, hB2⟩
    have hBB2 := hB1.trans (hB2.mono hB1.size)
    go_wp2_with fail
    go_loopw [7, 8] (fun tv iv wr => ∃ (j a : Nat) (T : ByteArray), iv = .int .i64 (j : Nat) ∧ tv = .string T ∧ j ≤ xs.length ∧ nb T = (nb s).take a ∧ (spans (nb s)).drop j = spnA (nb s) a ∧ Below w2.heap.size w2 wr) (fun _ iv _ => xs.length - (intOf iv).toNat)
    case atStart => exact ⟨0, 0, _, rfl, rfl, by omega, rfl, rfl, Below.refl _ _⟩
    case round =>
      obtain ⟨j, a, T, rfl, rfl, hj, hT, hsuf, hB⟩ := hrel
      have hszr := hB.size
      have hTs : T.size ≤ 500 := by have := nb_length T; rw [hT, List.length_take] at this; have := HL.out; omega
      have HT := hid hT
      have HSUF := hid hsuf
      clear hT hsuf
      rcases Nat.lt_or_ge j xs.length with hlt | hge
      · have hji : (j : Int) < (xs.length : Int) := by omega
        have hji2 : decide ((j : Int) < (xs.length : Int)) = true := decide_eq_true hji
        have hj0 : (0 : Int) ≤ (j : Int) := by omega
        have hjW := wrap_one j (by omega)
        obtain ⟨g, o, rfl, k0, k1, k2, k3⟩ := rec_cells (hlst.below hB) hlt
        have hlt2 : j < (spans (nb s)).length := by rw [← HXL.out]; exact hlt
        obtain ⟨ha, hsp, hsuf2⟩ := suffix_step HSUF.out hlt2
        have hle := nlx_le (l := nb s) (a := a) (by omega)
        rw [HL.out] at ha hle
        obtain ⟨r, hr⟩ : ∃ r, r = xs[j] := ⟨_, rfl⟩
        have hrN : r = recN (nb s) 9 (a, nlx (nb s) a) := by rw [hr, ← hsp]; simp only [HRE.out, List.getElem_map]
        have hra : r.a = a := by rw [hrN]; rfl
        have hrb : r.b = nlx (nb s) a := by rw [hrN]; rfl
        rw [← hr] at k0 k1 k2 k3
        have HTX := hid (fun W => text_rec s r (by omega) (by omega) W hs)
        have HS2 := hid hsuf2
        have HLA := hid (last_iff (F := nb s) (n := xs.length) (by rw [HL.out]; exact ha) HXL.out hlt hsuf2)
        have HTE := hid (take_end (F := nb s) (by rw [HL.out]; exact ha))
        have HTK := hid (show (nb s).take a ++ sub_ (nb s) r.a r.b = (nb s).take (nlx (nb s) a) by rw [hra, hrb]; exact sub_take (nb s) a _ hle.1)
        have hs0 : 0 < s.size := by omega
        have hbd : s.size - 1 < s.size := by omega
        have HLAST := hid (at_nb s (s.size - 1) (by omega))
        have hl1 : (0 : Int) ≤ (s.size : Int) - 1 := by omega
        have hl2 : (s.size : Int) - 1 < (s.size : Int) := by omega
        have hl3 : IntKind.i64.wrap ((s.size : Int) - 1) = (s.size : Int) - 1 := by rw [IntKind.wrap_i64]; omega
        have hl4 : ((s.size : Int) - 1).toNat = s.size - 1 := by omega
        have hl5 : decide ((s.size : Int) > 0) = true := decide_eq_true (by omega)
        have hx1 : IntKind.i64.wrap ((xs.length : Int) - 1) = (xs.length : Int) - 1 := by rw [IntKind.wrap_i64]; omega
        clear hsp hr hrN hra hrb hsuf2 ha hlt2
        go_wp2_with fail
        (with_reducible refine (HTX.out _).mono ?_)
        rintro e w3 ⟨S, rfl, hS, hB3⟩
        have hBB3 := hB.trans (hB3.mono hszr)
        have hSs : S.size ≤ 500 := by have := nb_length S; rw [hS] at this; unfold sub_ at this; rw [List.length_take, List.length_drop] at this; have := HL.out; omega
        have HTS := hid (show nb (T ++ S) = (nb s).take (nlx (nb s) a) by rw [nb_append, HT.out, hS]; exact HTK.out)
        clear hS hB3
        by_cases hnl : nlx (nb s) a < s.size
        · have HN := hid (show nb (T ++ S ++ { data := #[10] }) = (nb s).take (nlx (nb s) a + 1) by rw [nb_append, HTS.out]; exact HTE.out.1 (by rw [HL.out]; exact hnl))
          rcases HLA.out.2 (by rw [HL.out]; exact hnl) with h1 | h1
          · have hg : decide ((j : Int) < (xs.length : Int) - 1) = true := decide_eq_true (by omega)
            have hgI : (j : Int) < (xs.length : Int) - 1 := by omega
            clear hnl h1
            go_wp2_with fail
            go_roundw
            case rel => exact ⟨j + 1, nlx (nb s) a + 1, _, by go_num, rfl, by omega, HN.out, HS2.out, hBB3⟩
            case measure => simp [intOf]; omega
          · by_cases h2 : j + 1 < xs.length
            · have hg : decide ((j : Int) < (xs.length : Int) - 1) = true := decide_eq_true (by omega)
              have hgI : (j : Int) < (xs.length : Int) - 1 := by omega
              clear hnl h1 h2
              go_wp2_with fail
              go_roundw
              case rel => exact ⟨j + 1, nlx (nb s) a + 1, _, by go_num, rfl, by omega, HN.out, HS2.out, hBB3⟩
              case measure => simp [intOf]; omega
            · have hg : decide ((j : Int) < (xs.length : Int) - 1) = false := decide_eq_false (by omega)
              have hgN : ¬ ((j : Int) < (xs.length : Int) - 1) := by omega
              have hb : ((s[s.size - 1]).toNat : Int) = 10 := by rw [HL.out, HLAST.out] at h1; omega
              clear hnl h1 h2
              go_wp2_with fail
              go_roundw
              case rel => exact ⟨j + 1, nlx (nb s) a + 1, _, by go_num, rfl, by omega, HN.out, HS2.out, hBB3⟩
              case measure => simp [intOf]; omega
        · have HN := hid (show nb (T ++ S) = (nb s).take (nlx (nb s) a + 1) by rw [HTS.out]; exact HTE.out.2 (by rw [HL.out]; exact hnl))
          have hnot : ¬ (j + 1 < xs.length ∨ at_ (nb s) ((nb s).length - 1) = 10) := fun h => by have := HLA.out.1 h; rw [HL.out] at this; exact hnl this
          rw [HL.out, HLAST.out] at hnot
          have hg : decide ((j : Int) < (xs.length : Int) - 1) = false := decide_eq_false (by omega)
          have hgN : ¬ ((j : Int) < (xs.length : Int) - 1) := by omega
          have hb : (((s[s.size - 1]).toNat : Int) == 10) = false := by rw [beq_eq_false_iff_ne]; omega
          clear hnl hnot
          go_wp2_with fail
          go_roundw
          case rel => exact ⟨j + 1, nlx (nb s) a + 1, _, by go_num, rfl, by omega, HN.out, HS2.out, hBB3⟩
          case measure => simp [intOf]; omega
      · obtain rfl : j = xs.length := by omega
        have hsa : s.size ≤ a := by
          rcases Nat.lt_or_ge a s.size with h1 | h1
          · have h2 := HSUF.out
            rw [HXL.out, List.drop_length, spnA_step (by rw [HL.out]; exact h1)] at h2
            cases h2
          · exact h1
        have hTs : T = s := nb_inj (by rw [HT.out, List.take_of_length_le (by rw [HL.out]; exact hsa)])
        subst hTs
        have hBB := hBB2.trans (hB.mono hBB2.size)
        rcases Nat.eq_zero_or_pos T.size with h0 | h0
        · have hz : ((T.size : Int) == 0) = true := by rw [beq_iff_eq]; omega
          clear h0
          go_wp2_with fail
          go_ret
          exact ⟨rfl, hBB⟩
        · have hz : ((T.size : Int) == 0) = false := by rw [beq_eq_false_iff_ne]; omega
          have hbd : T.size - 1 < T.size := by omega
          have HLAST := hid (at_nb T (T.size - 1) (by omega))
          have hl1 : (0 : Int) ≤ (T.size : Int) - 1 := by omega
          have hl2 : (T.size : Int) - 1 < (T.size : Int) := by omega
          have hl3 : IntKind.i64.wrap ((T.size : Int) - 1) = (T.size : Int) - 1 := by rw [IntKind.wrap_i64]; omega
          have hl4 : ((T.size : Int) - 1).toNat = T.size - 1 := by omega
          by_cases h10 : (T[T.size - 1]).toNat = 10
          · have hb : (((T[T.size - 1]).toNat : Int) != 10) = false := by rw [bne_eq_false_iff_eq]; omega
            obtain ⟨ys, hys⟩ := recs_pre (nb T) (nb m) 9 (by rw [HL.out, HLAST.out]; exact h10)
            have HB := hid (fun W => records_few (T ++ m) 9 (by have := nb_length (T ++ m); rw [nb_append, List.length_append, nb_length, nb_length] at this; omega) (by omega) (by omega) (nb T ++ nb m) (nb_append T m) W)
            have hlw := hlst.below hB
            rw [hys, ← HXS.out] at HB
            have hx0 : 0 < xs.length := by rw [HXL.out, spans_eq, spnA_step (by rw [HL.out]; exact h0)]; simp
            clear hys h10
            go_wp2_with fail
            refine (HB.out _).mono ?_
            rintro e w4 ⟨A4, c4, rfl, hl4', hc4, hB4⟩
            have hlen : (xs ++ ys).length = xs.length + ys.length := List.length_append
            rw [hlen] at hc4
            obtain ⟨g4, o4, rfl, _⟩ := hl4'.lit (by rw [recC_length, hlen]; omega)
            have hl5 := hl4'.take (recC xs).length
            rw [recC_take] at hl5
            have HS := hid (same_true A (some ⟨g4, o4, none⟩) c c4 xs w4 (hlw.below hB4) hl5 (by omega))
            have hge : decide ((xs.length : Int) + (ys.length : Int) ≥ (xs.length : Int)) = true := decide_eq_true (by omega)
            have hq1 : (0 : Int) ≤ (xs.length : Int) := by omega
            have hq2 : (xs.length : Int) ≤ (c4 : Int) := by omega
            go_wp2_with fail
            refine HS.out.mono ?_
            rintro e w5 ⟨rfl, mm, rfl⟩
            go_wp2_with fail
            go_ret
            exact ⟨rfl, below_drewN (hBB.trans (hB4.mono hBB.size)) _⟩
          · have hb : (((T[T.size - 1]).toNat : Int) != 10) = true := by rw [bne_iff_ne]; omega
            clear h10
            go_wp2_with fail
            go_ret
            exact ⟨rfl, hBB⟩

end Go.Proofs.Ytegoephanphnkaa
