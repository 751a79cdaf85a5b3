/- Walks: the laws of chapter 24: many records without bytes. -/
import Derived.Test.YtegoephanphnkaaSplitD
import Derived.Test.YtegoephanphnkaaLScanC
set_option linter.unusedVariables false
set_option linter.unusedSimpArgs false
set_option maxRecDepth 100000
namespace Go.Proofs.Ytegoephanphnkaa
open Go.RowKit Go.Shelf L

def fillT (n k : Nat) : List UInt8 := List.replicate k 10 ++ List.replicate (n - k) 0
theorem fillT_length (n k : Nat) (h : k ≤ n) : (fillT n k).length = n := by unfold fillT; simp; omega
theorem fillT_set (n k : Nat) (h : k < n) : (fillT n k).set k 10 = fillT n (k + 1) := by
  unfold fillT
  rw [List.set_append_right _ _ (by simp), List.length_replicate, Nat.sub_self, show n - k = (n - (k + 1)) + 1 from by omega, List.replicate_succ, List.set_cons_zero, List.replicate_succ', List.append_assoc]; rfl
theorem fillT_all (n : Nat) : fillT n n = List.replicate n 10 := by unfold fillT; simp

/-- Line ends, and what stands behind them. -/
def manyL (n : Nat) (t : List Nat) : List Nat := List.replicate n 10 ++ t
theorem manyL_length (n : Nat) (t : List Nat) : (manyL n t).length = n + t.length := by unfold manyL; simp
theorem manyL_drop (n : Nat) (t : List Nat) (i : Nat) (h : i ≤ n) : (manyL n t).drop i = List.replicate (n - i) 10 ++ t := by
  unfold manyL
  rw [List.drop_append_of_le_length (by simp; exact h), List.drop_replicate]
theorem many_nlx (n : Nat) (t : List Nat) (i : Nat) (h : i < n) : nlx (manyL n t) i = i := by
  unfold nlx
  rw [manyL_drop n t i (by omega), show n - i = (n - (i + 1)) + 1 from by omega, List.replicate_succ]
  show i + (if 10 = 10 then 0 else _) = i
  rw [if_pos rfl]; rfl
theorem many_spans (n : Nat) (t : List Nat) : ∀ k, k ≤ n → (spnA (manyL n t) (n - k)).length = k + (spnA (manyL n t) n).length
  | 0, _ => by simp
  | k + 1, h => by
    rw [spnA_step (by rw [manyL_length]; omega), many_nlx n t _ (by omega), List.length_cons, show n - (k + 1) + 1 = n - k from by omega, many_spans n t k (by omega)]
    omega
theorem many_none (n : Nat) : (spans (manyL n [])).length = n := by
  have := many_spans n [] n (Nat.le_refl _)
  rw [Nat.sub_self, spnA_end (l := manyL n []) (a := n) (by rw [manyL_length]; simp)] at this
  exact this
theorem many_one (n : Nat) : (spans (manyL n [55])).length = n + 1 := by
  have := many_spans n [55] n (Nat.le_refl _)
  have h1 : nlx (manyL n [55]) n = n + 1 := by
    unfold nlx
    rw [manyL_drop n [55] n (Nat.le_refl _), Nat.sub_self]; rfl
  have h2 : spnA (manyL n [55]) n = [(n, n + 1)] := by rw [spnA_step (l := manyL n [55]) (a := n) (by rw [manyL_length]; simp), h1, spnA_end (l := manyL n [55]) (a := n + 1 + 1) (by rw [manyL_length]; simp)]
  rw [Nat.sub_self, h2] at this
  exact this
theorem many_first_ (n : Nat) (t : List Nat) (hn : 0 < n) : ∃ r, spans (manyL n t) = (0, 0) :: r := ⟨_, by rw [spans_eq, spnA_step (by rw [manyL_length]; omega), many_nlx n t 0 hn]⟩

/-- Lines, of bytes that are known. -/
theorem lines_at (s : ByteArray) (l : List Nat) (hl : nb s = l) (n : Nat) (hn : (spans l).length = n) (r : List (Nat × Nat)) (hr : spans l = (0, 0) :: r) (hs : s.size ≤ 1048576) (w : World) :
    Calls Try.prog 21 #[.string s] w fun e w' => ((n ≤ 4096 ∧ ∃ g o c, e = .returned (.tuple #[.slice (some ⟨g, o, none⟩) n c, .int .i64 0]) ∧ w'.cell? ⟨g, o, none⟩ = some (.int .i64 0) ∧ w'.cell? ⟨g, o + 1, none⟩ = some (.int .i64 0)) ∨ 4096 < n ∧ e = .returned (.tuple #[.slice none 0 0, .int .i64 9])) ∧ Below w.heap.size w w' := by
  refine (lines_all s w hs).mono ?_
  subst hl
  rintro e w' ⟨h1, h2⟩
  rw [hn] at h1
  refine ⟨?_, h2⟩
  rcases h1 with ⟨h3, A, c, h4, h5⟩ | h3
  · refine Or.inl ⟨h3, ?_⟩
    have hl0 : 0 < (spans (nb s)).length := by rw [hr]; simp
    obtain ⟨g, o, rfl, k0, k1⟩ := span_cells (i := 0) (own_lst2 h5 (by omega)) hl0
    have e0 : (spans (nb s))[0] = (0, 0) := by simp only [hr, List.getElem_cons_zero]
    rw [e0] at k0 k1
    exact ⟨g, o, c, h4, by simpa using k0, by simpa using k1⟩
  · exact Or.inr h3

set_option maxHeartbeats 2000000 in
theorem many_any_ (m : Nat) (o : Bool) (w : World) (hm : m < 256) :
    Calls Try.prog 10 #[.int .u8 (m : Nat), .bool o] w fun e w' => e = .returned (.bool true) ∧ Below w.heap.size w w' := by
  obtain ⟨i0, hi0, iz0, iz1, iz2⟩ := info_parts Try.infoU8
  obtain ⟨k0, hk0⟩ : ∃ k0, k0 = m % 4 := ⟨_, rfl⟩
  have hkI : (m : Int) % 4 = (k0 : Int) := by omega
  have hkT : (m : Int).tmod 4 = (k0 : Int) := by rw [Int.tmod_eq_emod_of_nonneg (by omega)]; exact hkI
  have hkW : IntKind.u8.wrap (k0 : Int) = (k0 : Int) := by rw [IntKind.wrap_u8]; omega
  have hkV : IntKind.i64.wrap (k0 : Int) = (k0 : Int) := by rw [IntKind.wrap_i64]; omega
  obtain ⟨N, hN⟩ : ∃ N, N = 4094 + k0 := ⟨_, rfl⟩
  have hNI : 4094 + (k0 : Int) = (N : Int) := by omega
  have hNV : IntKind.i64.wrap (N : Int) = (N : Int) := by rw [IntKind.wrap_i64]; omega
  have hN1 : 4094 ≤ N ∧ N ≤ 4097 := by omega
  have hNW := wrap_one N (by omega)
  have HN := hid hN1
  clear hk0 hN
  obtain ⟨r1, hr1⟩ := many_first_ N [] (by omega)
  obtain ⟨r2, hr2⟩ := many_first_ N [55] (by omega)
  have HL1 := hid (fun W => lines_at ⟨(List.replicate N 10).toArray⟩ (manyL N []) (by rw [nb_mk]; unfold manyL; simp) N (many_none N) r1 hr1 (by show (List.replicate N (10 : UInt8)).toArray.size ≤ _; simp; omega) W)
  have HL2 := hid (fun (S : ByteArray) (hS : nb S = manyL N [55]) W => lines_at S (manyL N [55]) hS (N + 1) (many_one N) r2 hr2 (by have := nb_length S; rw [hS, manyL_length] at this; simp at this; omega) W)
  clear hr1 hr2
  go_enter Try.func10, Try.ntmps10
  go_wp2_with fail
  refine (awake24 _).mono ?_
  rintro e w1 ⟨rfl, hB1⟩
  go_wp2_with (first
    | (at_make
       go_must (refine wpList_make_full _ rfl (.tmp 17) (.tmp 17) _ rfl w1.heap.size 5 i0 (.int .u8 0) 1 Try.underlying32 hi0 iz0 iz1 .i64 .i64 _ _ N rfl rfl (by omega) (by omega) (by rw [iz2]; omega) (by unfold maxLen; omega) (Nat.le_refl _) ?_)
       intro w3 hown3 hgr3))
  rw [made_bytes] at hown3
  have hB3 : Below w1.heap.size w1 w3 := (Below.refl _ _).grown hgr3 (Nat.le_refl _) (fun k hk => by cases hk)
  clear hgr3
  go_wp2_with fail
  go_loopw [7] (fun i wr => ∃ k : Nat, k ≤ N ∧ i = .int .i64 k ∧ wr.ownsRow w1.heap.size 5 1 (.slice (some ⟨w1.heap.size, 0, none⟩) N N) N (Lib.byteCells (fillT N k)) ∧ Below w1.heap.size w1 wr) (fun i _ => N - (intOf i).toNat)
  case atStart => exact ⟨0, by omega, rfl, by unfold fillT; simpa using hown3, hB3⟩
  case round =>
    obtain ⟨k, hk, rfl, hown, hB⟩ := hrel
    clear hown3 hB3
    rcases Nat.lt_or_ge k N with hlt | hge
    · have hki : (k : Int) < (N : Int) := by omega
      have hk1 := wrap_one k (by have := HN.out; omega)
      have hst := hown.stored k (.int .u8 10)
      rw [bytes_set _ k 10 10 rfl, fillT_set N k hlt] at hst
      have hfl := fillT_length N k hk
      have cw : ∃ u, wr.cell? ⟨w1.heap.size, k, none⟩ = some u := ⟨_, (hown.cellAt k (by omega)).trans (List.getElem?_eq_getElem (by rw [Lib.byteCells_length]; omega))⟩
      obtain ⟨u, cw⟩ := cw
      have fw := hown.frozenAt k
      go_wp2_with fail
      go_roundw
      case rel => exact ⟨k + 1, by omega, by go_num, hst.1, hB.setCell (Nat.le_refl _) _⟩
      case measure => simp [intOf]; omega
    · obtain rfl : k = N := by omega
      have hlen : (List.replicate k (10 : UInt8)).length = k := List.length_replicate
      rw [fillT_all] at hown
      have hcv := run_string_own (A := some ⟨w1.heap.size, 0, none⟩) (c := k) (l := List.replicate k 10) (by rw [hlen]; exact hown)
      rw [hlen] at hcv
      clear hown
      cases o
      · by_cases hgt : 4096 < k
        · have g1 : decide ((k : Int) > 4096) = true := decide_eq_true (by omega)
          have HGT := hid hgt
          clear hgt
          go_wp2_with fail
          refine (HL1.out _).mono ?_
          rintro e w4 ⟨h5, hB4⟩
          obtain ⟨_, rfl⟩ := h5.resolve_left (fun h => by have := HGT.out; have := h.1; omega)
          go_wp2_with fail
          go_ret
          exact ⟨rfl, hB1.trans ((hB.trans (hB4.mono hB.size)).mono hB1.size)⟩
        · have g1 : decide ((k : Int) > 4096) = false := decide_eq_false (by omega)
          have g1N : ¬ (4096 < k) := hgt
          have h0 : (0 : Int) < (k : Int) := by omega
          go_wp2_with fail
          refine (HL1.out _).mono ?_
          rintro e w4 ⟨h5, hB4⟩
          obtain ⟨_, g, o', c', rfl, k0, k1⟩ := h5.resolve_right (fun h => hgt h.1)
          clear h5
          go_wp2_with fail
          go_ret
          exact ⟨rfl, hB1.trans ((hB.trans (hB4.mono hB.size)).mono hB1.size)⟩
      · have HS := hid (show nb ({ data := Array.replicate k 10 } ++ { data := #[55] }) = manyL k [55] by
          rw [nb_append]
          show ((Array.replicate k (10 : UInt8)).toList.map UInt8.toNat) ++ [55] = _
          rw [Array.toList_replicate, List.map_replicate]; rfl)
        by_cases hgt : 4096 < k + 1
        · have g1 : decide ((k : Int) + 1 > 4096) = true := decide_eq_true (by omega)
          have HGT := hid hgt
          clear hgt
          go_wp2_with fail
          refine (HL2.out _ HS.out _).mono ?_
          rintro e w4 ⟨h5, hB4⟩
          obtain ⟨_, rfl⟩ := h5.resolve_left (fun h => by have := HGT.out; have := h.1; omega)
          go_wp2_with fail
          go_ret
          exact ⟨rfl, hB1.trans ((hB.trans (hB4.mono hB.size)).mono hB1.size)⟩
        · have g1 : decide ((k : Int) + 1 > 4096) = false := decide_eq_false (by omega)
          have h0 : (0 : Int) < ((k + 1 : Nat) : Int) := by omega
          have h00 : (0 : Int) < (k : Int) + 1 := by omega
          go_wp2_with fail
          refine (HL2.out _ HS.out _).mono ?_
          rintro e w4 ⟨h5, hB4⟩
          obtain ⟨_, g, o', c', rfl, k0, k1⟩ := h5.resolve_right (fun h => hgt h.1)
          clear h5
          go_wp2_with fail
          go_ret
          exact ⟨rfl, hB1.trans ((hB.trans (hB4.mono hB.size)).mono hB1.size)⟩

end Go.Proofs.Ytegoephanphnkaa
