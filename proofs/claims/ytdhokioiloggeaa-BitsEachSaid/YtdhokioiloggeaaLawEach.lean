/- Walk: the law BitsEach returns true. -/
import Derived.Test.YtdhokioiloggeaaBitsI
import Derived.Deep.RegionHeld3
set_option linter.unusedVariables false
set_option linter.unusedSimpArgs false
set_option maxRecDepth 100000
namespace Go.Proofs.Ytdhokioiloggeaa
open Go.RowKit L

/-- Two slices that lie in different blocks. -/
def Apart (va vb : Value) : Prop := ∀ k, va.ownBlock = some k → vb.ownBlock ≠ some k
theorem Apart.symm {va vb : Value} (h : Apart va vb) : Apart vb va := fun k hb ha => h k ha hb

/-- Another builder stays as it was while one is put to. -/
theorem BuilderAt.beside {w w' : World} {ba ga : Nat} {va va' : Value} {xs : List Bool} {bb gb : Nat} {vb : Value} {bs : List Bool} (h : BuilderAt w bb gb vb bs) (ha : BuilderAt w ba ga va xs) (hg : gb ≠ ga) (hap : Apart va vb)
    (hat : va'.ownBlock = va.ownBlock ∨ ∃ k, va'.ownBlock = some k ∧ w.heap.size ≤ k) (ho : Only (fun i => i = ga ∨ va.ownBlock = some i) w w') : BuilderAt w' bb gb vb bs ∧ Apart va' vb := by
  refine ⟨BuilderAt.mk (h.blk.only ho ?_) (own_only h.own ho ?_), ?_⟩
  · rintro (e | e)
    · exact hg e
    · exact h.blk.ne_own ha.own (by decide) e
  · rintro k hk (e | e)
    · exact ha.blk.ne_own h.own (by decide) (by rw [hk, e])
    · exact hap k e hk
  · intro k hk hk2
    rcases hat with e | ⟨j, e, hj⟩
    · exact hap k (by rw [← e]; exact hk) hk2
    · rw [e] at hk
      injection hk with hk
      have := (h.own.lt k hk2).2
      omega

set_option maxHeartbeats 2000000 in
theorem lawEach_long (A : Option Addr) (n c : Nat) (w : World) (hn : 60 < n) :
    Calls Try.prog 5 #[.slice A n c] w fun e w' => e = .returned (.bool true) ∧ Below w.heap.size w w' := by
  have h1 : (60 : Int) < (n : Int) := by omega
  go_enter Try.func5, Try.ntmps5
  go_wp2_with fail
  refine (awake2 _).mono ?_
  rintro e w1 ⟨rfl, hB1⟩
  go_wp2_with fail
  refine (awake2 _).mono ?_
  rintro e w2 ⟨rfl, hB2⟩
  go_wp2
  go_ret
  exact ⟨rfl, hB1.trans (hB2.mono hB1.size)⟩

set_option maxHeartbeats 8000000 in
theorem lawEach_true (A : Option Addr) (c : Nat) (l : List (Nat × Int)) (w : World) (hl : Lst w A (opCells l)) (hx : ∀ o ∈ l, o.1 < 18446744073709551616) (hn : l.length ≤ 60) :
    Calls Try.prog 5 #[.slice A l.length c] w fun e w' => e = .returned (.bool true) ∧ Below w.heap.size w w' := by
  go_enter Try.func5, Try.ntmps5
  go_wp2_with fail
  refine (awake2 _).mono ?_
  rintro e w1 ⟨rfl, hB1⟩
  have hz1 := hB1.size
  have hla := (hl.below hB1)
  have hA0 := (BuilderAt.new_at w1 w.heap.size w1.heap.size rfl)
  have hA1 : BuilderAt ((w1.alloc (.cells #[.slice none 0 0, .int .i64 0] 26)).alloc (.cells #[.slice none 0 0, .int .i64 0] 26)) w.heap.size w1.heap.size (.slice none 0 0) [] :=
    BuilderAt.mk (hA0.blk.alloc _) (hA0.own.alloc _)
  have hA2 : BuilderAt ((w1.alloc (.cells #[.slice none 0 0, .int .i64 0] 26)).alloc (.cells #[.slice none 0 0, .int .i64 0] 26)) w.heap.size (w1.heap.size + 1) (.slice none 0 0) [] :=
    BuilderAt.new_at _ _ _ (by simp)
  have hBB : Below w.heap.size w ((w1.alloc (.cells #[.slice none 0 0, .int .i64 0] 26)).alloc (.cells #[.slice none 0 0, .int .i64 0] 26)) := (hB1.alloc hz1 _).alloc (by simp; omega) _
  clear hA0
  go_wp2_with fail
  go_loopw [5, 6] (fun i t6 wr => ∃ (k : Nat) (va vb : Value), k ≤ l.length ∧ i = .int .i64 k ∧ BuilderAt wr w.heap.size w1.heap.size va (allPuts (l.take k)) ∧ BuilderAt wr w.heap.size (w1.heap.size + 1) vb (allPuts (l.take k)) ∧ Apart va vb ∧ Below w.heap.size w wr) (fun i _ _ => l.length - (intOf i).toNat)
  case atStart => exact ⟨0, _, _, by omega, rfl, hA1, hA2, (fun k h => by simp [Value.ownBlock] at h), hBB⟩
  case round =>
    obtain ⟨k, va, vb, hk, rfl, hba, hbb, hap, hB⟩ := hrel
    clear hA1 hA2 hBB
    have hsz := hB.size
    have hlen := allPuts_length (l.take k)
    have hlk : (l.take k).length ≤ 60 := by rw [List.length_take]; omega
    rcases Nat.lt_or_ge k l.length with hlt | hge
    · obtain ⟨q0, q1⟩ := opCells_get l k hlt
      obtain ⟨ab, ao, rfl, had, hcl⟩ := hl.lit (by have := (List.getElem?_eq_some_iff.1 q0).1; omega)
      have wc0 := (hB.cell (p := ⟨ab, ao + k * 2, none⟩) had).trans (hcl _ _ q0)
      have wc1 := (hB.cell (p := ⟨ab, ao + k * 2 + 1, none⟩) had).trans (hcl _ _ q1)
      have K0 := hid (hcl _ _ q0)
      have K1 := hid (hcl _ _ q1)
      have hv := hx _ (List.getElem_mem hlt)
      have H := hid (allPuts_succ l k hlt)
      have hki : (k : Int) < (l.length : Int) := by omega
      have hk0 : (0 : Int) ≤ (k : Int) := by omega
      have hab : ab < wr.heap.size := by omega
      have hn1 : ab ≠ w1.heap.size := by omega
      have hn2 : va.ownBlock ≠ some ab := fun h => by have := (hba.own.lt _ h).1; omega
      clear q0 q1 hcl hla
      rcases Classical.em (badOp l[k]) with hbad | hok
      · have hcode : (putCode l[k] != 0) = true := by unfold putCode; rw [if_pos hbad]; rfl
        have HS := hid (show allPuts (l.take (k + 1)) = allPuts (l.take k) by rw [H.out]; unfold stepPut; rw [if_pos hbad])
        have HS2 := hid (show stepPut (allPuts (l.take k)) l[k] = allPuts (l.take k) by unfold stepPut; rw [if_pos hbad])
        clear hbad
        go_wp2_with fail
        go_region_held3 (fun w' => w'.cell? ⟨ab, ao + k * 2, none⟩ = some (.int .u64 (l[k].1 : Nat)) ∧ w'.cell? ⟨ab, ao + k * 2 + 1, none⟩ = some (.int .i64 l[k].2)) (first | go_keep | exact ⟨e0, e1⟩)
          (first
           | (go_at_call 22; refine (put_any l[k] w.heap.size w1.heap.size va (allPuts (l.take k)) _ hv (by omega) (by exact hba) (by exact hsz)).mono ?_; rintro e w4 ⟨rfl, v4, hb4, hat4, ho4⟩; have e0 := (ho4.cell (p := ⟨ab, ao + k * 2, none⟩) hab (fun h => h.elim hn1 hn2)).trans wc0; have e1 := (ho4.cell (p := ⟨ab, ao + k * 2 + 1, none⟩) hab (fun h => h.elim hn1 hn2)).trans wc1))
        replace ho4 := ho4.of_drew
        rw [HS2.out] at hb4
        have hbb4 := hbb.beside hba (by omega) hap hat4 ho4
        have hB4 := hB.trans (putDone_below hba (by omega) (Nat.le_refl _) hsz ho4)
        go_wp2
        go_roundw
        case rel => exact ⟨k + 1, v4, vb, by omega, by go_num, by rw [HS.out]; exact hb4, by rw [HS.out]; exact hbb4.1, hbb4.2, hB4⟩
        case measure => simp [intOf]; omega
      · have hcode : (putCode l[k] != 0) = false := by unfold putCode; rw [if_neg hok]; rfl
        have hok2 : 0 ≤ l[k].2 ∧ l[k].2 ≤ 64 ∧ need l[k].1 ≤ l[k].2 := by unfold badOp at hok; omega
        obtain ⟨m, hm⟩ := Int.eq_ofNat_of_zero_le hok2.1
        have HS2 := hid (show stepPut (allPuts (l.take k)) l[k] = allPuts (l.take k) ++ bitsOf l[k].1 m by unfold stepPut; rw [if_neg hok, hm, Int.toNat_natCast])
        have hm64 : m ≤ 64 := by omega
        clear hok hok2
        have HMM := hid hm
        clear hm
        go_wp2_with fail
        go_region_held3 (fun w' => w'.cell? ⟨ab, ao + k * 2, none⟩ = some (.int .u64 (l[k].1 : Nat)) ∧ w'.cell? ⟨ab, ao + k * 2 + 1, none⟩ = some (.int .i64 l[k].2)) (first | go_keep | exact ⟨e0, e1⟩)
          (first
           | (go_at_call 22; refine (put_any l[k] w.heap.size w1.heap.size va (allPuts (l.take k)) _ hv (by omega) (by exact hba) (by exact hsz)).mono ?_; rintro e w4 ⟨rfl, v4, hb4, hat4, ho4⟩; have e0 := (ho4.cell (p := ⟨ab, ao + k * 2, none⟩) hab (fun h => h.elim hn1 hn2)).trans wc0; have e1 := (ho4.cell (p := ⟨ab, ao + k * 2 + 1, none⟩) hab (fun h => h.elim hn1 hn2)).trans wc1))
        replace ho4 := ho4.of_drew
        rw [HS2.out] at hb4
        have hbb4 := hbb.beside hba (by omega) hap hat4 ho4
        have hB4 := hB.trans (putDone_below hba (by omega) (Nat.le_refl _) hsz ho4)
        obtain ⟨hbb5, hap5⟩ := hbb4
        rw [HMM.out] at e1
        have hz4 := hB4.size
        clear hba hbb hap hB wc0 wc1 e0 e1 hsz
        go_wp2_with fail
        obtain ⟨wo, hwo⟩ : ∃ wo, wo = w4 := ⟨_, rfl⟩
        subst hwo
        go_loopw [6] (fun j wr => ∃ (q : Nat) (vc : Value), q ≤ m ∧ j = .int .i64 q ∧ BuilderAt wr w.heap.size w1.heap.size v4 (allPuts (l.take k) ++ bitsOf l[k].1 m) ∧ BuilderAt wr w.heap.size (w1.heap.size + 1) vc (allPuts (l.take k) ++ bitsOf l[k].1 q) ∧ Apart v4 vc ∧ Below w.heap.size w wr) (fun j _ => m - (intOf j).toNat)
        case atStart => exact ⟨0, vb, by omega, rfl, hb4, by simpa [bitsOf] using hbb5, hap5, hB4⟩
        case round =>
          obtain ⟨q, vc, hq, rfl, hba, hbb, hap, hB⟩ := hrel
          clear hb4 hbb5 hap5 hB4 hat4 ho4
          have hsz := hB.size
          have wc0 := (hB.cell (p := ⟨ab, ao + k * 2, none⟩) had).trans K0.out
          have wc1 := (hB.cell (p := ⟨ab, ao + k * 2 + 1, none⟩) had).trans K1.out
          rw [HMM.out] at wc1
          have hl3 : (allPuts (l.take k) ++ bitsOf l[k].1 q).length + 1 ≤ 4294967296 := by rw [List.length_append, bitsOf_length]; omega
          rcases Nat.lt_or_ge q m with hlt2 | hge2
          · have hqi : (q : Int) < (m : Int) := by omega
            have HB := hid (show (bits BinOp.and IntKind.u64 ((l[k].1 : Nat) / 2 ^ q : Int) 1 == 1) = l[k].1.testBit q by
              have := bit_and1 l[k].1 (q : Nat) hv (by omega) (by omega)
              rw [ibit_nat _ _ (by omega), Int.toNat_natCast] at this
              exact this)
            have H5 := hid (show allPuts (l.take k) ++ bitsOf l[k].1 (q + 1) = (allPuts (l.take k) ++ bitsOf l[k].1 q) ++ [l[k].1.testBit q] by rw [bitsOf_succ, List.append_assoc])
            go_wp2_with fail
            refine (bit_any _ w.heap.size (w1.heap.size + 1) vc (allPuts (l.take k) ++ bitsOf l[k].1 q) _ hl3 hbb hsz).mono ?_
            rintro e w7 ⟨rfl, v7, hb7, hat7, ho7⟩
            rw [HB.out, ← H5.out] at hb7
            have hba7 := hba.beside hbb (by omega) hap.symm hat7 ho7
            have hB7 := hB.trans (putDone_below hbb (by omega) (Nat.le_refl _) hsz ho7)
            go_wp2
            go_roundw
            case rel => exact ⟨q + 1, v7, by omega, by go_num, hba7.1, hb7, hba7.2.symm, hB7⟩
            case measure => simp [intOf]; omega
          · obtain rfl : q = m := by omega
            have hqi : ¬ ((q : Int) < (q : Int)) := by omega
            go_wp2
            go_roundw
            case rel => exact ⟨k + 1, v4, vc, by omega, by go_num, by rw [H.out, HS2.out]; exact hba, by rw [H.out, HS2.out]; exact hbb, hap, hB⟩
            case measure => simp [intOf]; omega
    · obtain rfl : k = l.length := by omega
      rw [List.take_length] at hba hbb hlen
      have qa := hba.blk.cell 1
      have qb := hbb.blk.cell 1
      simp only [List.getElem?_toArray, List.getElem?_cons_zero, List.getElem?_cons_succ] at qa qb
      go_wp2_with fail
      refine (blen_any _ _ _ qa).mono ?_
      rintro e w' ⟨rfl, rfl⟩
      go_wp2_with fail
      refine (blen_any _ _ _ qb).mono ?_
      rintro e w' ⟨rfl, rfl⟩
      go_wp2_with fail
      refine (row_any _ _ _ _ _ hba (by omega)).mono ?_
      rintro e w8 ⟨g8, A8, c8, rfl, hr8, _, _, hB8⟩
      have hz8 := hB8.size
      have hbb8 := hbb.below hB8
      go_wp2_with fail
      refine (rbytes_any g8 A8 c8 _ _ hr8).mono ?_
      rintro e w9 ⟨rfl, hB9⟩
      have hz9 := hB9.size
      have hbb9 := hbb8.below hB9
      go_wp2_with fail
      refine (row_any _ _ _ _ _ hbb9 (by omega)).mono ?_
      rintro e w10 ⟨g10, A10, c10, rfl, hr10, _, _, hB10⟩
      have hz10 := hB10.size
      go_wp2_with fail
      refine (rbytes_any g10 A10 c10 _ _ hr10).mono ?_
      rintro e w11 ⟨rfl, hB11⟩
      go_wp2
      go_ret
      exact ⟨rfl, hB.trans ((hB8.mono hsz).trans ((hB9.mono (by omega)).trans ((hB10.mono (by omega)).trans (hB11.mono (by omega)))))⟩

theorem lawEach_any (A : Option Addr) (c : Nat) (l : List (Nat × Int)) (w : World) (hl : Lst w A (opCells l)) (hx : ∀ o ∈ l, o.1 < 18446744073709551616) :
    Calls Try.prog 5 #[.slice A l.length c] w fun e w' => e = .returned (.bool true) ∧ Below w.heap.size w w' := by
  rcases Nat.lt_or_ge 60 l.length with h | h
  · exact lawEach_long A l.length c w h
  · exact lawEach_true A c l w hl hx h

end Go.Proofs.Ytdhokioiloggeaa
