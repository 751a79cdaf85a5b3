/- Walks: the reference of chapter 13: places, bits. -/
import Derived.Test.YtacllonekidocaaGreatDoorSemiF
set_option linter.unusedVariables false
set_option linter.unusedSimpArgs false
set_option maxRecDepth 100000
namespace Go.Proofs.YtacllonekidocaaGreatDoor
open Go.RowKit Go.Shelf L

set_option maxHeartbeats 2000000 in
theorem rPlaces13_any (s : ByteArray) (w : World) (hs : s.size ≤ 4096) :
    Calls Tryz.prog 37 #[.string s] w fun e w' => ∃ A c, e = .returned (.slice A (places (nb s)).length c) ∧ Lst w' A (natCells (places (nb s))) ∧ Below w.heap.size w w' := by
  obtain ⟨i0, hi0, iz0, iz1, iz2⟩ := info_parts Tryz.infoInt
  have HL := hid (nb_length s)
  have HN := hid (fun W => rInside_any s W hs)
  have HS := hid (fun k => plcTo_succ (nb s) k)
  have HA := hid (show plcTo (nb s) s.size = places (nb s) from by rw [← nb_length]; exact plcTo_all (nb s))
  have HLN := hid (fun k => plcTo_length (nb s) k)
  have HPI := hid (fun c W => rIs13_any c W)
  go_enter Tryz.func37, Tryz.ntmps37
  go_wp2_with fail
  refine (HN.out _).mono ?_
  rintro e w1 ⟨A, c, rfl, hin, hB1⟩
  have hz1 := hB1.size
  have hl1 := own_lst hin
  clear hin
  go_wp2_with fail
  go_loopw [4, 5] (fun ov iv wr => ∃ (k : Nat) (Ao : Option Addr) (co : Nat), k ≤ s.size ∧ iv = .int .i64 (k : Nat) ∧ ov = .slice Ao (plcTo (nb s) k).length co ∧ wr.ownsRow w1.heap.size 3 1 (.slice Ao (plcTo (nb s) k).length co) (plcTo (nb s) k).length (natCells (plcTo (nb s) k)) ∧ Below w1.heap.size w1 wr) (fun _ iv _ => s.size - (intOf iv).toNat)
  case atStart => exact ⟨0, none, 0, Nat.zero_le _, rfl, rfl, World.ownsRow_nil _ _ _ _, Below.refl _ _⟩
  case round =>
    obtain ⟨k, Ao, co, hk, rfl, rfl, hown, hB⟩ := hrel
    have hsz := hB.size
    rcases Nat.lt_or_ge k s.size with h | h
    · have hkI : (k : Int) < (s.size : Int) := by omega
      have hk0 : (0 : Int) ≤ (k : Int) := by omega
      have hat := at_nb s k h
      have hlt := UInt8.toNat_lt s[k]
      have HSK := hid (HS.out k)
      rw [hat] at HSK
      have hq : (bools ((List.range s.size).map (insB (nb s))))[k]? = some (.bool (insB (nb s) k)) := by
        unfold bools
        rw [List.getElem?_map, List.getElem?_map, List.getElem?_range h]; rfl
      obtain ⟨ad, rfl, hcl⟩ := (hl1.below hB) k _ hq
      have HP1 := hid (HPI.out (s[k]).toNat)
      have hpk := HLN.out k
      generalize plcTo (nb s) k = F at *
      clear hq
      cases hb : insB (nb s) k with
      | true =>
        rw [hb] at hcl HSK
        clear hb hat
        go_wp2_with fail
        exact ⟨⟨k + 1, Ao, co, by omega, by go_num, by rw [HSK.out]; simp, by rw [HSK.out]; simpa using hown, hB⟩, by simp [intOf]; omega⟩
      | false =>
        rw [hb] at hcl HSK
        clear hb hat
        cases hm : isM (s[k]).toNat with
        | false =>
          rw [hm] at HP1 HSK
          clear hm
          go_wp2_with fail
          refine (HP1.out _).mono ?_
          rintro e w' ⟨rfl, rfl⟩
          go_wp2_with fail
          exact ⟨⟨k + 1, Ao, co, by omega, by go_num, by rw [HSK.out]; simp, by rw [HSK.out]; simpa using hown, hB⟩, by simp [intOf]; omega⟩
        | true =>
          rw [hm] at HP1 HSK
          clear hm
          go_wp2_with fail
          refine (HP1.out _).mono ?_
          rintro e w' ⟨rfl, rfl⟩
          go_wp2_with (first
            | (at_builtin
               go_must (refine wpList_append_more _ rfl (.tmp 25) (.tmp 27) _ rfl w1.heap.size 3 i0 _ 8 Tryz.underlying47 hi0 iz0 iz1 iz2 rfl (.slice Ao F.length co) F.length (natCells F) rfl ?hown (some ⟨wr.heap.size, 0, none⟩) 1 1 [.int .i64 (k : Nat)] rfl ?hls rfl ?h1 ?h63 ?hby ?hbs _ rfl ?_)
               go_must (case hown => exact hown.alloc _)
               go_must (case hls => exact lst_one _ _ _ _ rfl)
               go_must (case h1 => simp [Value.oneCell'])
               go_must (case h63 => simp only [maxLen]; omega)
               go_must (case hby => omega)
               go_must (case hbs => simp; omega)
               intro A2 c2 w2 hown2 hgr2 hat2))
          have hB2 : Below w1.heap.size w1 w2 := (hB.alloc hsz _).grown hgr2 (by simp; omega) (fun j hj => (hown.lt j hj).1)
          go_roundw
          case rel => exact ⟨k + 1, A2, c2, by omega, by go_num, by rw [HSK.out]; simp, by rw [HSK.out]; rw [show (if (!false && true) = true then [k] else []) = [k] from rfl, natCells_append, List.length_append]; exact hown2, hB2⟩
          case measure => simp [intOf]; omega
    · obtain rfl : k = s.size := by omega
      have hkI : ¬ ((s.size : Int) < (s.size : Int)) := by omega
      rw [HA.out] at hown
      go_wp2_with fail
      go_ret
      exact ⟨Ao, ⟨co, by rw [← HA.out]; rfl⟩, own_lst hown, hB1.trans (hB.mono hz1)⟩

/-- The bits of the first marks. -/
def L.bitsTo (l PL : List Nat) (k : Nat) : List Bool := (PL.take k).flatMap fun p => bits2 (at_ l p)
theorem L.bitsTo_length (l PL : List Nat) (k : Nat) : (bitsTo l PL k).length = 2 * (PL.take k).length := by
  unfold bitsTo
  induction PL.take k with
  | nil => rfl
  | cons x m ih => rw [List.flatMap_cons, List.length_append, ih, bits2_length, List.length_cons]; omega
theorem L.bitsTo_zero (l PL : List Nat) : bitsTo l PL 0 = [] := rfl
set_option maxHeartbeats 2000000 in
theorem rParens13_any (s : ByteArray) (w : World) (hs : s.size ≤ 4096) :
    Calls Tryz.prog 38 #[.string s] w fun e w' => ∃ A c, e = .returned (.slice A (parens (nb s)).length c) ∧ Lst w' A (bools (parens (nb s))) ∧ Below w.heap.size w w' := by
  obtain ⟨i0, hi0, iz0, iz1, iz2⟩ := info_parts Tryz.infoBool
  have HN := hid (fun W => rPlaces13_any s W hs)
  go_enter Tryz.func38, Tryz.ntmps38
  go_wp2_with fail
  refine (HN.out _).mono ?_
  rintro e w1 ⟨A, c, rfl, hl1, hB1⟩
  have hz1 := hB1.size
  go_wp2_with fail
  have HPL := hid (fun p (h : p ∈ places (nb s)) => (show p < s.size ∧ isM (at_ (nb s) p) = true from by
    have h1 := places_lt _ p h
    rw [nb_length] at h1
    rw [places_filter] at h
    have h2 := (List.mem_filter.1 h).2
    simp only [Bool.and_eq_true] at h2
    exact ⟨h1, h2.2⟩))
  have HFIN := hid (show bitsTo (nb s) (places (nb s)) (places (nb s)).length = parens (nb s) from by unfold bitsTo; rw [List.take_length, parens_places])
  have hPs : (places (nb s)).length ≤ 4096 := by rw [places_length]; have := mks_length (nb s); rw [nb_length] at this; omega
  generalize places (nb s) = PL at *
  go_loopw [3, 5] (fun ov iv wr => ∃ (k : Nat) (Ao : Option Addr) (co : Nat), k ≤ PL.length ∧ iv = .int .i64 (k : Nat) ∧ ov = .slice Ao (bitsTo (nb s) PL k).length co ∧ wr.ownsRow w1.heap.size 4 1 (.slice Ao (bitsTo (nb s) PL k).length co) (bitsTo (nb s) PL k).length (bools (bitsTo (nb s) PL k)) ∧ Below w1.heap.size w1 wr) (fun _ iv _ => PL.length - (intOf iv).toNat)
  case atStart => exact ⟨0, none, 0, Nat.zero_le _, rfl, rfl, World.ownsRow_nil _ _ _ _, Below.refl _ _⟩
  case round =>
    obtain ⟨k, Ao, co, hk, rfl, rfl, hown, hB⟩ := hrel
    have hsz := hB.size
    rcases Nat.lt_or_ge k PL.length with h | h
    · have hkI : (k : Int) < (PL.length : Int) := by omega
      have hk0 : (0 : Int) ≤ (k : Int) := by omega
      obtain ⟨hps, hpm⟩ := HPL.out PL[k] (List.getElem_mem h)
      have hq : (natCells PL)[k]? = some (.int .i64 (PL[k] : Nat)) := natCells_get (List.getElem?_eq_getElem h)
      obtain ⟨ad, rfl, hcl⟩ := (hl1.below hB) k _ hq
      have HSK := hid (show bitsTo (nb s) PL (k + 1) = bitsTo (nb s) PL k ++ bits2 (at_ (nb s) PL[k]) from by unfold bitsTo; rw [List.take_succ_eq_append_getElem h, List.flatMap_append]; simp)
      have HFL := hid (show (bitsTo (nb s) PL k).length ≤ 2 * k from by
        rw [bitsTo_length, List.length_take]; omega)
      obtain ⟨p, hp⟩ : ∃ p, p = PL[k] := ⟨_, rfl⟩
      rw [← hp] at hps hpm hcl HSK
      have hat := at_nb s p hps
      rw [hat] at hpm HSK
      have hpI : (p : Int) < (s.size : Int) := by omega
      have hp0 : (0 : Int) ≤ (p : Int) := by omega
      have hFl := HFL.out
      clear hq hp hat
      generalize bitsTo (nb s) PL k = F at *
      have hs6 : (s[p]).toNat = 91 ∨ (s[p]).toNat = 93 ∨ (s[p]).toNat = 123 ∨ (s[p]).toNat = 125 ∨ (s[p]).toNat = 58 ∨ (s[p]).toNat = 44 := by
        unfold isM at hpm
        simp only [Bool.or_eq_true, beq_iff_eq] at hpm
        omega
      clear hpm
      rcases hs6 with hc | hc | hc | hc | hc | hc
      · have n91 : (((s[p]).toNat : Int) == 91) = true := by rw [beq_iff_eq]; omega
        have n123 : (((s[p]).toNat : Int) == 123) = false := by rw [beq_eq_false_iff_ne]; omega
        have n58 : (((s[p]).toNat : Int) == 58) = false := by rw [beq_eq_false_iff_ne]; omega
        have n44 : (((s[p]).toNat : Int) == 44) = false := by rw [beq_eq_false_iff_ne]; omega
        have HB2 := hid (show bits2 (s[p]).toNat = [true, true] from by rw [hc]; rfl)
        clear hc
        go_wp2_with (first
          | (at_builtin
             go_must (refine wpList_append_own_at _ rfl (.tmp 28) (.tmp 39) 43 rfl w1.heap.size 4 i0 _ 1 1 Tryz.underlying43 hi0 iz0 iz1 iz2 rfl (by decide) (.slice Ao F.length co) F.length _ rfl (hown.alloc _) ⟨wr.heap.size, 0, none⟩ 2 2 [.bool true, .bool true] rfl rfl (cell_two8 _ _ _ _ _ rfl) ?hone ?h63 ?hby ?hbs ?_)
             go_must (case hone => simp [Value.oneCell'])
             go_must (case h63 => simp only [maxLen]; omega)
             go_must (case hby => omega)
             go_must (case hbs => simp; omega)
             intro v4 w4 hown4 hgr4 _ hat4))
        obtain ⟨A4, c4, rfl⟩ := own_slice hown4
        have hB4 : Below w1.heap.size w1 w4 := (hB.alloc hsz _).grown hgr4 (by simp; omega) (fun j hj => (hown.lt j hj).1)
        go_roundw
        case rel => exact ⟨k + 1, A4, c4, by omega, by go_num, by rw [HSK.out, HB2.out]; simp, by rw [HSK.out, HB2.out, bools_append, List.length_append]; exact hown4, hB4⟩
        case measure => simp [intOf]; omega
      · have n91 : (((s[p]).toNat : Int) == 91) = false := by rw [beq_eq_false_iff_ne]; omega
        have n123 : (((s[p]).toNat : Int) == 123) = false := by rw [beq_eq_false_iff_ne]; omega
        have n58 : (((s[p]).toNat : Int) == 58) = false := by rw [beq_eq_false_iff_ne]; omega
        have n44 : (((s[p]).toNat : Int) == 44) = false := by rw [beq_eq_false_iff_ne]; omega
        have HB2 := hid (show bits2 (s[p]).toNat = [false, false] from by rw [hc]; rfl)
        clear hc
        go_wp2_with (first
          | (at_builtin
             go_must (refine wpList_append_own_at _ rfl (.tmp 28) (.tmp 39) 43 rfl w1.heap.size 4 i0 _ 1 1 Tryz.underlying43 hi0 iz0 iz1 iz2 rfl (by decide) (.slice Ao F.length co) F.length _ rfl (hown.alloc _) ⟨wr.heap.size, 0, none⟩ 2 2 [.bool false, .bool false] rfl rfl (cell_two8 _ _ _ _ _ rfl) ?hone ?h63 ?hby ?hbs ?_)
             go_must (case hone => simp [Value.oneCell'])
             go_must (case h63 => simp only [maxLen]; omega)
             go_must (case hby => omega)
             go_must (case hbs => simp; omega)
             intro v4 w4 hown4 hgr4 _ hat4))
        obtain ⟨A4, c4, rfl⟩ := own_slice hown4
        have hB4 : Below w1.heap.size w1 w4 := (hB.alloc hsz _).grown hgr4 (by simp; omega) (fun j hj => (hown.lt j hj).1)
        go_roundw
        case rel => exact ⟨k + 1, A4, c4, by omega, by go_num, by rw [HSK.out, HB2.out]; simp, by rw [HSK.out, HB2.out, bools_append, List.length_append]; exact hown4, hB4⟩
        case measure => simp [intOf]; omega
      · have n91 : (((s[p]).toNat : Int) == 91) = false := by rw [beq_eq_false_iff_ne]; omega
        have n123 : (((s[p]).toNat : Int) == 123) = true := by rw [beq_iff_eq]; omega
        have n58 : (((s[p]).toNat : Int) == 58) = false := by rw [beq_eq_false_iff_ne]; omega
        have n44 : (((s[p]).toNat : Int) == 44) = false := by rw [beq_eq_false_iff_ne]; omega
        have HB2 := hid (show bits2 (s[p]).toNat = [true, true] from by rw [hc]; rfl)
        clear hc
        go_wp2_with (first
          | (at_builtin
             go_must (refine wpList_append_own_at _ rfl (.tmp 28) (.tmp 39) 43 rfl w1.heap.size 4 i0 _ 1 1 Tryz.underlying43 hi0 iz0 iz1 iz2 rfl (by decide) (.slice Ao F.length co) F.length _ rfl (hown.alloc _) ⟨wr.heap.size, 0, none⟩ 2 2 [.bool true, .bool true] rfl rfl (cell_two8 _ _ _ _ _ rfl) ?hone ?h63 ?hby ?hbs ?_)
             go_must (case hone => simp [Value.oneCell'])
             go_must (case h63 => simp only [maxLen]; omega)
             go_must (case hby => omega)
             go_must (case hbs => simp; omega)
             intro v4 w4 hown4 hgr4 _ hat4))
        obtain ⟨A4, c4, rfl⟩ := own_slice hown4
        have hB4 : Below w1.heap.size w1 w4 := (hB.alloc hsz _).grown hgr4 (by simp; omega) (fun j hj => (hown.lt j hj).1)
        go_roundw
        case rel => exact ⟨k + 1, A4, c4, by omega, by go_num, by rw [HSK.out, HB2.out]; simp, by rw [HSK.out, HB2.out, bools_append, List.length_append]; exact hown4, hB4⟩
        case measure => simp [intOf]; omega
      · have n91 : (((s[p]).toNat : Int) == 91) = false := by rw [beq_eq_false_iff_ne]; omega
        have n123 : (((s[p]).toNat : Int) == 123) = false := by rw [beq_eq_false_iff_ne]; omega
        have n58 : (((s[p]).toNat : Int) == 58) = false := by rw [beq_eq_false_iff_ne]; omega
        have n44 : (((s[p]).toNat : Int) == 44) = false := by rw [beq_eq_false_iff_ne]; omega
        have HB2 := hid (show bits2 (s[p]).toNat = [false, false] from by rw [hc]; rfl)
        clear hc
        go_wp2_with (first
          | (at_builtin
             go_must (refine wpList_append_own_at _ rfl (.tmp 28) (.tmp 39) 43 rfl w1.heap.size 4 i0 _ 1 1 Tryz.underlying43 hi0 iz0 iz1 iz2 rfl (by decide) (.slice Ao F.length co) F.length _ rfl (hown.alloc _) ⟨wr.heap.size, 0, none⟩ 2 2 [.bool false, .bool false] rfl rfl (cell_two8 _ _ _ _ _ rfl) ?hone ?h63 ?hby ?hbs ?_)
             go_must (case hone => simp [Value.oneCell'])
             go_must (case h63 => simp only [maxLen]; omega)
             go_must (case hby => omega)
             go_must (case hbs => simp; omega)
             intro v4 w4 hown4 hgr4 _ hat4))
        obtain ⟨A4, c4, rfl⟩ := own_slice hown4
        have hB4 : Below w1.heap.size w1 w4 := (hB.alloc hsz _).grown hgr4 (by simp; omega) (fun j hj => (hown.lt j hj).1)
        go_roundw
        case rel => exact ⟨k + 1, A4, c4, by omega, by go_num, by rw [HSK.out, HB2.out]; simp, by rw [HSK.out, HB2.out, bools_append, List.length_append]; exact hown4, hB4⟩
        case measure => simp [intOf]; omega
      · have n91 : (((s[p]).toNat : Int) == 91) = false := by rw [beq_eq_false_iff_ne]; omega
        have n123 : (((s[p]).toNat : Int) == 123) = false := by rw [beq_eq_false_iff_ne]; omega
        have n58 : (((s[p]).toNat : Int) == 58) = true := by rw [beq_iff_eq]; omega
        have n44 : (((s[p]).toNat : Int) == 44) = false := by rw [beq_eq_false_iff_ne]; omega
        have HB2 := hid (show bits2 (s[p]).toNat = [false, true] from by rw [hc]; rfl)
        clear hc
        go_wp2_with (first
          | (at_builtin
             go_must (refine wpList_append_own_at _ rfl (.tmp 28) (.tmp 39) 43 rfl w1.heap.size 4 i0 _ 1 1 Tryz.underlying43 hi0 iz0 iz1 iz2 rfl (by decide) (.slice Ao F.length co) F.length _ rfl (hown.alloc _) ⟨wr.heap.size, 0, none⟩ 2 2 [.bool false, .bool true] rfl rfl (cell_two8 _ _ _ _ _ rfl) ?hone ?h63 ?hby ?hbs ?_)
             go_must (case hone => simp [Value.oneCell'])
             go_must (case h63 => simp only [maxLen]; omega)
             go_must (case hby => omega)
             go_must (case hbs => simp; omega)
             intro v4 w4 hown4 hgr4 _ hat4))
        obtain ⟨A4, c4, rfl⟩ := own_slice hown4
        have hB4 : Below w1.heap.size w1 w4 := (hB.alloc hsz _).grown hgr4 (by simp; omega) (fun j hj => (hown.lt j hj).1)
        go_roundw
        case rel => exact ⟨k + 1, A4, c4, by omega, by go_num, by rw [HSK.out, HB2.out]; simp, by rw [HSK.out, HB2.out, bools_append, List.length_append]; exact hown4, hB4⟩
        case measure => simp [intOf]; omega
      · have n91 : (((s[p]).toNat : Int) == 91) = false := by rw [beq_eq_false_iff_ne]; omega
        have n123 : (((s[p]).toNat : Int) == 123) = false := by rw [beq_eq_false_iff_ne]; omega
        have n58 : (((s[p]).toNat : Int) == 58) = false := by rw [beq_eq_false_iff_ne]; omega
        have n44 : (((s[p]).toNat : Int) == 44) = true := by rw [beq_iff_eq]; omega
        have HB2 := hid (show bits2 (s[p]).toNat = [false, true] from by rw [hc]; rfl)
        clear hc
        go_wp2_with (first
          | (at_builtin
             go_must (refine wpList_append_own_at _ rfl (.tmp 28) (.tmp 39) 43 rfl w1.heap.size 4 i0 _ 1 1 Tryz.underlying43 hi0 iz0 iz1 iz2 rfl (by decide) (.slice Ao F.length co) F.length _ rfl (hown.alloc _) ⟨wr.heap.size, 0, none⟩ 2 2 [.bool false, .bool true] rfl rfl (cell_two8 _ _ _ _ _ rfl) ?hone ?h63 ?hby ?hbs ?_)
             go_must (case hone => simp [Value.oneCell'])
             go_must (case h63 => simp only [maxLen]; omega)
             go_must (case hby => omega)
             go_must (case hbs => simp; omega)
             intro v4 w4 hown4 hgr4 _ hat4))
        obtain ⟨A4, c4, rfl⟩ := own_slice hown4
        have hB4 : Below w1.heap.size w1 w4 := (hB.alloc hsz _).grown hgr4 (by simp; omega) (fun j hj => (hown.lt j hj).1)
        go_roundw
        case rel => exact ⟨k + 1, A4, c4, by omega, by go_num, by rw [HSK.out, HB2.out]; simp, by rw [HSK.out, HB2.out, bools_append, List.length_append]; exact hown4, hB4⟩
        case measure => simp [intOf]; omega
    · obtain rfl : k = PL.length := by omega
      have hkI : ¬ ((PL.length : Int) < (PL.length : Int)) := by omega
      rw [HFIN.out] at hown
      go_wp2_with fail
      go_ret
      exact ⟨Ao, ⟨co, by rw [← HFIN.out]; rfl⟩, own_lst hown, hB1.trans (hB.mono hz1)⟩
end Go.Proofs.YtacllonekidocaaGreatDoor
