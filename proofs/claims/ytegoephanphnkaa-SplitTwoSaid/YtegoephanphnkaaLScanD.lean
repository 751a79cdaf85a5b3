/- Walks: the laws of chapter 12 that ask no reference: long texts. -/
import Derived.Test.YtegoephanphnkaaLScanB
import Derived.Laws.BytesArg
import Derived.OwnWalk
set_option linter.unusedVariables false
set_option linter.unusedSimpArgs false
set_option maxRecDepth 100000
namespace Go.Proofs.Ytegoephanphnkaa
open Go.RowKit Go.Shelf L

theorem Try.infoU8 : (Try.prog.info? 5).map (fun i => (i.zero, i.size, i.bytes)) = some (some (.int .u8 0), 1, 1) := by kernel_rfl

theorem Lst.lit {w : World} {A : Option Addr} {xs : List Value} (h : Lst w A xs) (hx : 0 < xs.length) : ∃ b off, A = some ⟨b, off, none⟩ ∧ b < w.heap.size ∧ ∀ j u, xs[j]? = some u → w.cell? ⟨b, off + j, none⟩ = some u := by
  obtain ⟨ad, rfl, hc⟩ := h 0 _ (List.getElem?_eq_getElem hx)
  obtain ⟨b, off, spot⟩ := ad
  have hspot : spot = none := by simpa [Addr.add] using World.cell?_spot hc
  subst hspot
  have hb := World.block_lt_of_cell? w _ hc
  rw [block_of_add] at hb
  exact ⟨b, off, rfl, hb, fun j u hu => by have := h.addr hu; rwa [Addr.add_lit] at this⟩

/-- string(b) of a row of one's own. -/
theorem run_string_own {w : World} {base : Nat} {A : Option Addr} {c : Nat} {l : List UInt8} (hown : w.ownsRow base 5 1 (.slice A l.length c) l.length (Lib.byteCells l)) :
    (convert 32 9 (.slice A l.length c)).run Try.prog w = .ok (.string ⟨l.toArray⟩) w := by
  rcases Nat.eq_zero_or_pos l.length with h0 | h0
  · have hl := List.eq_nil_of_length_eq_zero h0
    subst hl
    rcases A with _ | ad
    · exact run_convert_bytes_nil w 32 5 Try.underlying32 Try.underlying5 _ _ 9 Try.underlying9
    · rcases hown.2 with ⟨h, _⟩ | ⟨g, cap, cur, h, _⟩
      · simp at h
      · simp only [Value.slice.injEq, Option.some.injEq] at h
        rw [h.1]
        exact run_convert_bytes_arg w 32 5 Try.underlying32 Try.underlying5 g 0 0 c [] rfl (fun i hi => absurd hi (by omega)) 9 Try.underlying9
  · obtain ⟨ab, ao, rfl, _, hcl⟩ := (own_lst hown).lit (by rw [Lib.byteCells_length]; exact h0)
    have := run_convert_bytes_arg w 32 5 Try.underlying32 Try.underlying5 ab ao l.length c (l.map fun b => (b.toNat : Int)) (by simp) (fun i hi => by
      rw [hcl i (.int .u8 (l[i].toNat : Nat)) (by simp [Lib.byteCells, hi])]
      simp [hi]) 9 Try.underlying9
    rw [this]
    congr 2
    apply ByteArray.ext
    apply Array.toList_inj.1
    rw [strOfNums_data, List.map_map]
    have hid : ((fun n : Int => UInt8.ofNat n.toNat) ∘ fun b : UInt8 => (b.toNat : Int)) = id := by funext b; simp
    rw [hid, List.map_id]

theorem made_bytes (n : Nat) : (madeCells (Value.int .u8 0).cells (n * 1)).toList = Lib.byteCells (List.replicate n 0) := by
  have e : (Value.int .u8 0).cells = #[.int .u8 0] := rfl
  rw [e, Nat.mul_one]
  unfold madeCells Lib.byteCells
  apply List.ext_getElem
  · simp
  · intro i h1 h2
    simp [Nat.mod_one]
theorem bytes_set (L : List UInt8) (k : Nat) (b : UInt8) (v : Int) (h : v = (b.toNat : Nat)) : (Lib.byteCells L).set k (.int .u8 v) = Lib.byteCells (L.set k b) := by subst h; simp [Lib.byteCells, List.map_set]

/-- So many blanks, of so many bytes. -/
def fillB (n k : Nat) : List UInt8 := List.replicate k 32 ++ List.replicate (n - k) 0
theorem fillB_length (n k : Nat) (h : k ≤ n) : (fillB n k).length = n := by unfold fillB; simp; omega
theorem fillB_set (n k : Nat) (h : k < n) : (fillB n k).set k 32 = fillB n (k + 1) := by
  unfold fillB
  rw [List.set_append_right _ _ (by simp), List.length_replicate, Nat.sub_self, show n - k = (n - (k + 1)) + 1 from by omega, List.replicate_succ, List.set_cons_zero, List.replicate_succ', List.append_assoc]; rfl
theorem fillB_all (n : Nat) : fillB n n = List.replicate n 32 := by unfold fillB; simp
theorem rep_set (n c : Nat) (h : c < n) : (List.replicate n (32 : UInt8)).set c 55 = List.replicate c 32 ++ [55] ++ List.replicate (n - 1 - c) 32 := by
  have e : n = c + ((n - 1 - c) + 1) := by omega
  rw [e, ← List.replicate_append_replicate, List.set_append_right _ _ (by simp), List.length_replicate, Nat.sub_self, List.replicate_succ, List.set_cons_zero, List.append_assoc]
  simp only [List.singleton_append]
  congr 3; omega
theorem nb_mk (l : List UInt8) : nb ⟨l.toArray⟩ = l.map UInt8.toNat := rfl

/-- The text of the law of long texts. -/
def largeL (n c : Nat) : List UInt8 := (List.replicate n (32 : UInt8)).set c 55
theorem largeL_verd (n c : Nat) (h : c < n) (hn : n = 65536) : verd (nb ⟨(largeL n c).toArray⟩) 1 = (1, 0) := by
  have e : nb ⟨(largeL n c).toArray⟩ = List.replicate c 32 ++ [55] ++ List.replicate (n - 1 - c) 32 := by
    rw [nb_mk, largeL, rep_set n c h]
    simp only [List.map_append, List.map_replicate]; rfl
  rw [e]
  have hbl : ∀ k, ∀ x ∈ List.replicate k 32, L.blank x = true := fun k x hx => by rw [(List.mem_replicate.1 hx).2]; rfl
  have hok : okv [55] := by
    unfold okv
    exact ⟨rfl, rfl⟩
  rw [about_ok (hbl c) (hbl _) (by simp; omega) 1 hok]
  rw [verd_ok (by simp) hok]; rfl
theorem largeL_more (n c : Nat) (hn : n = 65537) : verd (nb ⟨(largeL n c).toArray⟩) 1 = (4, 0) := by
  unfold verd
  rw [nb_mk, if_pos (by rw [List.length_map, largeL, List.length_set, List.length_replicate]; omega)]

set_option maxHeartbeats 2000000 in
theorem large_any (o : Bool) (c : Nat) (w : World) (hc : c < 256) :
    Calls Try.prog 7 #[.bool o, .int .u8 (c : Nat)] w fun e w' => e = .returned (.bool true) ∧ Below w.heap.size w w' := by
  obtain ⟨i0, hi0, iz0, iz1, iz2⟩ := info_parts Try.infoU8
  obtain ⟨N, hN⟩ : ∃ N, N = if o then 65537 else 65536 := ⟨_, rfl⟩
  obtain ⟨v, hv⟩ : ∃ v, v = if o then 4 else 1 := ⟨_, rfl⟩
  have hN1 : 65536 ≤ N ∧ N ≤ 65537 := by subst hN; cases o <;> simp
  have HVD : verd (nb ⟨(largeL N c).toArray⟩) 1 = (v, 0) := by
    cases o
    · have h1 : N = 65536 := hN
      have h2 : v = 1 := hv
      rw [h2]; exact largeL_verd N c (by omega) h1
    · have h1 : N = 65537 := hN
      have h2 : v = 4 := hv
      rw [h2]; exact largeL_more N c h1
  have HV := hid (fun w => valid_at ⟨(largeL N c).toArray⟩ 1 1 rfl _ rfl v 0 HVD (by omega) (by omega) w)
  clear HVD
  have hNI : (N : Int) = if o = true then 65537 else 65536 := by subst hN; cases o <;> rfl
  have hvI : (v : Int) = if o = true then 4 else 1 := by subst hv; cases o <;> rfl
  have hcW : IntKind.i64.wrap (c : Int) = (c : Int) := by rw [IntKind.wrap_i64]; omega
  have hcN : (c : Int) < (N : Int) := by omega
  have HN := hid hN1
  cases o
  all_goals
    simp only [Bool.false_eq_true, if_false, if_true] at hN hv hNI hvI
    have HNN := hid hN
    have HVV := hid hvI
    clear hN hv hvI
    go_enter Try.func7, Try.ntmps7
    go_wp2_with fail
    refine (awake12 _).mono ?_
    rintro e w1 ⟨rfl, hB1⟩
    go_wp2_with (first
      | (at_make
         go_must (refine wpList_make_full _ rfl (.tmp 16) (.tmp 16) _ rfl w1.heap.size 5 i0 (.int .u8 0) 1 Try.underlying32 hi0 iz0 iz1 .i64 .i64 _ _ N rfl rfl (by omega) (by omega) (by rw [iz2]; omega) (by unfold maxLen; omega) (Nat.le_refl _) ?_)
         intro w3 hown3 hgr3))
    rw [made_bytes] at hown3
    have hB3 : Below w1.heap.size w1 w3 := (Below.refl _ _).grown hgr3 (Nat.le_refl _) (fun k hk => by cases hk)
    clear hgr3
    go_wp2_with fail
    rw [← hNI]
    clear hNI
    go_loopw [7] (fun i wr => ∃ k : Nat, k ≤ N ∧ i = .int .i64 k ∧ wr.ownsRow w1.heap.size 5 1 (.slice (some ⟨w1.heap.size, 0, none⟩) N N) N (Lib.byteCells (fillB N k)) ∧ Below w1.heap.size w1 wr) (fun i _ => N - (intOf i).toNat)
    case atStart => exact ⟨0, by omega, rfl, by unfold fillB; simpa using hown3, hB3⟩
    case round =>
      obtain ⟨k, hk, rfl, hown, hB⟩ := hrel
      clear hown3 hB3
      rcases Nat.lt_or_ge k N with hlt | hge
      · have hki : (k : Int) < (N : Int) := by omega
        have hk1 := wrap_one k (by have := HN.out; omega)
        have hst := hown.stored k (.int .u8 32)
        rw [bytes_set _ k 32 32 rfl, fillB_set N k hlt] at hst
        have hfl := fillB_length N k hk
        have cw : ∃ u, wr.cell? ⟨w1.heap.size, k, none⟩ = some u := ⟨_, (hown.cellAt k (by omega)).trans (List.getElem?_eq_getElem (by rw [Lib.byteCells_length]; omega))⟩
        obtain ⟨u, cw⟩ := cw
        have fw := hown.frozenAt k
        go_wp2_with fail
        go_roundw
        case rel => exact ⟨k + 1, by omega, by go_num, hst.1, hB.setCell (Nat.le_refl _) _⟩
        case measure => simp [intOf]; omega
      · obtain rfl : k = N := by omega
        have hst := hown.stored c (.int .u8 55)
        rw [bytes_set _ c 55 55 rfl, fillB_all] at hst
        have cw : ∃ u, wr.cell? ⟨w1.heap.size, c, none⟩ = some u := ⟨_, (hown.cellAt c (by omega)).trans (List.getElem?_eq_getElem (by rw [Lib.byteCells_length, fillB_length _ _ (Nat.le_refl _)]; omega))⟩
        obtain ⟨u, cw⟩ := cw
        have fw := hown.frozenAt c
        have hlen : (largeL k c).length = k := by unfold largeL; rw [List.length_set, List.length_replicate]
        have hcv := run_string_own (A := some ⟨w1.heap.size, 0, none⟩) (c := k) (l := largeL k c) (by rw [hlen]; exact hst.1)
        rw [hlen] at hcv
        have hBs := hB.setCell (p := ⟨w1.heap.size, c, none⟩) (Nat.le_refl _) (.int .u8 55)
        clear hst hown
        go_wp2_with fail
        refine (HV.out _).mono ?_
        rintro e w4 ⟨rfl, hB4⟩
        go_wp2_with fail
        go_ret
        exact ⟨by first | rfl | (have := HVV.out; simp; omega), hB1.trans ((hBs.trans (hB4.mono hBs.size)).mono hB1.size)⟩

end Go.Proofs.Ytegoephanphnkaa
