/- Walks: the bytes of an index, and the reference's; what is wrong, by the reference; how many marks stand ahead of a mark. -/
import Derived.Test.YtacllonekidocaaGreatDoorSemiG
import Derived.Test.YtacllonekidocaaGreatDoorSemiH
import Derived.Test.YtacllonekidocaaGreatDoorSemiP
import Derived.Test.YtacllonekidocaaGreatDoorRefS
set_option linter.unusedVariables false
set_option linter.unusedSimpArgs false
set_option maxRecDepth 100000
namespace Go.Proofs.YtacllonekidocaaGreatDoor
open Go.RowKit Go.Shelf L

/-- The bytes of a record's marks, and of its index. -/
def L.seqS (l : List Nat) : ByteArray := ⟨(rowBytes (seqB (wd (places l).length (bndN l)) (top (places l) (bndN l)) (places l) (bndN l))).toArray⟩
def L.idxS (l : List Nat) : ByteArray := ⟨(leB (seqS l).size 8).toArray⟩ ++ seqS l ++ ⟨(rowBytes (parens l)).toArray⟩
theorem L.seqS_small {l : List Nat} (h : l.length ≤ 65536) (hm : (places l).length ≤ 10000) : (seqS l).size ≤ 1000000 := by
  have hr := places_right (l := l) (by omega)
  have hf := places_few h hm
  show (rowBytes (seqB (wd (places l).length (bndN l)) (top (places l) (bndN l)) (places l) (bndN l))).length ≤ 1000000
  have hlen := seqB_length (wd (places l).length (bndN l)) (top (places l) (bndN l)) (places l) (bndN l) (hr.up _) (Nat.le_trans (hr.last _) (Nat.le_succ _))
  have hwd := wd_le (places l).length (bndN l) hr.1.2
  rw [row_length, hlen]
  have h2 : (places l).length * wd (places l).length (bndN l) ≤ 10000 * 40 := Nat.mul_le_mul hm hwd
  have h3 := hf.2
  have ht : top (places l) (bndN l) = (bndN l - 1) / 2 ^ wd (places l).length (bndN l) + 1 := rfl
  rw [ht]
  unfold nwords
  omega
theorem L.parens_small {l : List Nat} (hm : (places l).length ≤ 10000) : (rowBytes (parens l)).length ≤ 1000000 := by
  rw [places_length] at hm
  rw [row_length, parens_length]
  unfold nwords
  omega

set_option maxHeartbeats 1000000 in
theorem semiBytes_any (g : Nat) (s : ByteArray) (w : World) (hi : IdxAt w g s) (hT : Tab w) (hs : (nb s).length ≤ 65536) (hm : (places (nb s)).length ≤ 10000) :
    Calls Tryz.prog 19 #[.pointer (some ⟨g, 0, none⟩)] w fun e w' => e = .returned (.string (idxS (nb s))) ∧ Below w.heap.size w w' := by
  obtain ⟨q, x, t, Ax, cx, h1, h2, h3, h4⟩ := hi
  have hb1 := seqS_small hs hm
  have hb2 := parens_small hm
  have hb4 : (leB (seqS (nb s)).size 8).length = 8 := leB_length _ _
  have hbA : ¬ 9223372036854775807 < (⟨(leB (seqS (nb s)).size 8).toArray⟩ : ByteArray).size + (seqS (nb s)).size := by
    show ¬ 9223372036854775807 < (leB (seqS (nb s)).size 8).length + (seqS (nb s)).size
    omega
  have hbB : ¬ 9223372036854775807 < (⟨(leB (seqS (nb s)).size 8).toArray⟩ : ByteArray).size + (seqS (nb s)).size + (⟨(rowBytes (parens (nb s))).toArray⟩ : ByteArray).size := by
    show ¬ 9223372036854775807 < (leB (seqS (nb s)).size 8).length + (seqS (nb s)).size + (rowBytes (parens (nb s))).length
    omega
  have hz : (seqS (nb s)).size < 9223372036854775808 := by omega
  have k0 := h1.cell 0
  have K1 := hid (show ∀ W, Below w.heap.size w W → W.cell? ⟨g, 1, none⟩ = some (.pointer (some ⟨x, 0, none⟩)) from fun W hW => (h1.below hW).cell 1)
  have HS := hid (show Calls Tryz.prog 42 #[.pointer (some ⟨q, 0, none⟩)] w fun e w' => e = .returned (.string (seqS (nb s))) ∧ Below w.heap.size w w' from seqBytes_any q (places (nb s)) (bndN (nb s)) w h2 hT (places_right (by omega)) (places_few hs hm))
  have HR := hid (fun W (hW : Below w.heap.size w W) => rbytes_any x Ax cx (parens (nb s)) W (h3.below hW))
  have HLN := hid (fun W => semiLength_any (seqS (nb s)).size W hz)
  have HID := hid (show idxS (nb s) = ⟨(leB (seqS (nb s)).size 8).toArray⟩ ++ seqS (nb s) ++ ⟨(rowBytes (parens (nb s))).toArray⟩ from rfl)
  clear h1 h2 h3 h4 hs hm
  generalize idxS (nb s) = I at *
  generalize seqS (nb s) = T at *
  generalize (⟨(leB T.size 8).toArray⟩ : ByteArray) = E at *
  generalize (⟨(rowBytes (parens (nb s))).toArray⟩ : ByteArray) = U at *
  clear hb1 hb2 hb4
  go_enter Tryz.func19, Tryz.ntmps19
  go_wp2_with fail
  refine (HS.out).mono ?_
  rintro e w1 ⟨rfl, hB1⟩
  have hz1 := hB1.size
  have k1 := K1.out _ hB1
  have KC := hid (show ∀ W, Below w1.heap.size w1 W → W.cell? ⟨g, 1, none⟩ = some (.pointer (some ⟨x, 0, none⟩)) from fun W hW => K1.out W (hB1.trans (hW.mono hz1)))
  have HC1 := hid (fun W (hW : Below w1.heap.size w1 W) => (HLN.out W).mono (R' := fun e w' => e = .returned (.string E) ∧ Below w1.heap.size w1 w') (fun e w' ⟨h1, h2⟩ => ⟨h1, hW.trans (h2.mono hW.size)⟩))
  have HC2 := hid (fun W (hW : Below w1.heap.size w1 W) => (HR.out W (hB1.trans (hW.mono hz1))).mono (R' := fun e w' => e = .returned (.string U) ∧ Below w1.heap.size w1 w') (fun e w' ⟨h1, h2⟩ => ⟨h1, hW.trans (h2.mono hW.size)⟩))
  have hB11 := Below.refl w1.heap.size w1
  clear HLN HR HS K1
  go_wp2_with fail
  go_region_held3 (fun w' => Below w1.heap.size w1 w' ∧ w'.cell? ⟨g, 1, none⟩ = some (.pointer (some ⟨x, 0, none⟩))) (first | exact ⟨hB11.drew, k1⟩ | exact ⟨hB11, k1⟩ | exact ⟨e1, KC.out _ e1⟩ | exact ⟨e2, KC.out _ e2⟩ | assumption)
    (first
     | (go_at_call 43; with_reducible refine (HC1.out _ (by first | assumption | exact And.left (by assumption))).mono ?_; rintro e w6 ⟨rfl, e1⟩)
     | (go_at_call 44; with_reducible refine (HC2.out _ (by first | assumption | exact And.left (by assumption))).mono ?_; rintro e w7 ⟨rfl, e2⟩))
  all_goals go_wp2_with fail
  all_goals go_ret
  all_goals exact ⟨by rw [HID.out]; rfl, hB1.trans (Below.mono (by first | exact e2 | exact e1 | assumption) hz1)⟩

set_option maxHeartbeats 1000000 in
theorem refBound14_any (s : ByteArray) (w : World) (hs : s.size ≤ 4096) :
    Calls Tryz.prog 51 #[.string s] w fun e w' => e = .returned (.int .i64 (bndN (nb s) : Nat)) ∧ Below w.heap.size w w' := by
  have HP := hid (fun W => rPlaces13_any s W hs)
  have HB := hid (show bndN (nb s) = if (places (nb s)).length = 0 then 1 else s.size from by unfold bndN; rw [nb_length])
  generalize places (nb s) = P at *
  generalize bndN (nb s) = B at *
  rcases Nat.eq_zero_or_pos P.length with h | h
  · have HB2 := hid (show B = 1 from by rw [HB.out, if_pos h])
    have hI : (P.length : Int) = 0 := by omega
    go_enter Tryz.func51, Tryz.ntmps51
    go_wp2_with fail
    refine (HP.out _).mono ?_
    rintro e w1 ⟨A, c, rfl, hl1, hB1⟩
    go_wp2_with fail
    go_ret
    exact ⟨by rw [HB2.out]; rfl, hB1⟩
  · have HB2 := hid (show B = s.size from by rw [HB.out, if_neg (by omega)])
    have hb : ((P.length : Int) == 0) = false := by rw [beq_eq_false_iff_ne]; omega
    have hz : ¬ (P.length = 0) := by omega
    go_enter Tryz.func51, Tryz.ntmps51
    go_wp2_with fail
    refine (HP.out _).mono ?_
    rintro e w1 ⟨A, c, rfl, hl1, hB1⟩
    go_wp2_with fail
    go_ret
    exact ⟨by rw [HB2.out]; rfl, hB1⟩

set_option maxHeartbeats 1000000 in
theorem refIdxBytes_any (s : ByteArray) (w : World) (hs : s.size ≤ 4096) :
    Calls Tryz.prog 22 #[.string s] w fun e w' => e = .returned (.string (idxS (nb s))) ∧ Below w.heap.size w w' := by
  have hnl : (nb s).length ≤ 4096 := by rw [nb_length]; exact hs
  have hpl : (places (nb s)).length ≤ 4096 := by rw [places_length]; have := mks_length (nb s); omega
  have hpr : (parens (nb s)).length ≤ 8192 := by rw [parens_length]; have := mks_length (nb s); omega
  have hb1 := seqS_small (l := nb s) (by omega) (by omega)
  have hb2 := parens_small (l := nb s) (by omega)
  have hb4 : (leB (seqS (nb s)).size 8).length = 8 := leB_length _ _
  have hbA : ¬ 9223372036854775807 < (⟨(leB (seqS (nb s)).size 8).toArray⟩ : ByteArray).size + (seqS (nb s)).size := by
    show ¬ 9223372036854775807 < (leB (seqS (nb s)).size 8).length + (seqS (nb s)).size
    omega
  have hbB : ¬ 9223372036854775807 < (⟨(leB (seqS (nb s)).size 8).toArray⟩ : ByteArray).size + (seqS (nb s)).size + (⟨(rowBytes (parens (nb s))).toArray⟩ : ByteArray).size := by
    show ¬ 9223372036854775807 < (leB (seqS (nb s)).size 8).length + (seqS (nb s)).size + (rowBytes (parens (nb s))).length
    omega
  have hz : (seqS (nb s)).size < 9223372036854775808 := by omega
  have HP := hid (fun W => rPlaces13_any s W hs)
  have HQ := hid (fun W => rParens13_any s W hs)
  have HB := hid (fun W => refBound14_any s W hs)
  have HS := hid (fun A c W hW => (show Calls Tryz.prog 50 #[.slice A (places (nb s)).length c, .int .i64 (bndN (nb s) : Nat)] W fun e w' => e = .returned (.string (seqS (nb s))) ∧ Below W.heap.size W w' from refSeqBytes_any A c (places (nb s)) (bndN (nb s)) W hW (places_right (by omega)) (places_few (by omega) (by omega))))
  have HE := hid (fun W => refEight14_any (seqS (nb s)).size W hz)
  have HR := hid (fun A c W hW => refBytes_any A c (parens (nb s)) W hW (by omega))
  have HID := hid (show idxS (nb s) = ⟨(leB (seqS (nb s)).size 8).toArray⟩ ++ seqS (nb s) ++ ⟨(rowBytes (parens (nb s))).toArray⟩ from rfl)
  clear hnl
  generalize places (nb s) = P at *
  generalize bndN (nb s) = B at *
  generalize idxS (nb s) = I at *
  generalize seqS (nb s) = T at *
  generalize (⟨(leB T.size 8).toArray⟩ : ByteArray) = E at *
  generalize (⟨(rowBytes (parens (nb s))).toArray⟩ : ByteArray) = U at *
  generalize parens (nb s) = R at *
  clear hb1 hb2 hb4
  go_enter Tryz.func22, Tryz.ntmps22
  go_wp2_with fail
  refine (HP.out _).mono ?_
  rintro e w1 ⟨A1, c1, rfl, hl1, hB1⟩
  go_wp2_with fail
  refine (HB.out _).mono ?_
  rintro e w2 ⟨rfl, hB2⟩
  have hl2 := hl1.below hB2
  have hB12 := hB1.trans (hB2.mono hB1.size)
  clear hB1 hB2 hl1
  go_wp2_with fail
  refine (HS.out _ _ _ hl2).mono ?_
  rintro e w3 ⟨rfl, hB3⟩
  have hB13 := hB12.trans (hB3.mono hB12.size)
  clear hB12 hB3 hl2
  go_wp2_with fail
  refine (HE.out _).mono ?_
  rintro e w4 ⟨rfl, hB4⟩
  have hB14 := hB13.trans (hB4.mono hB13.size)
  clear hB13 hB4
  go_wp2_with fail
  refine (HQ.out _).mono ?_
  rintro e w5 ⟨A5, c5, rfl, hl5, hB5⟩
  have hB15 := hB14.trans (hB5.mono hB14.size)
  clear hB14 hB5
  go_wp2_with fail
  refine (HR.out _ _ _ hl5).mono ?_
  rintro e w6 ⟨rfl, hB6⟩
  have hB16 := hB15.trans (hB6.mono hB15.size)
  go_wp2_with fail
  go_ret
  exact ⟨by rw [HID.out]; rfl, hB16⟩

set_option maxHeartbeats 1000000 in
theorem refError14_any (s : ByteArray) (w : World) :
    Calls Tryz.prog 16 #[.string s] w fun e w' => e = .returned (.int .i64 (lookN (nb s) : Nat)) ∧ Below w.heap.size w w' := by
  have HV := hid (rvalid_any s 4096 w)
  rcases verd_ways (nb s) with ⟨h1, h2⟩ | ⟨h1, h2⟩ | ⟨h1, h2⟩ | ⟨h1, h2⟩
  all_goals
    rw [h2]
    rw [h1] at HV
    clear h1 h2
    go_enter Tryz.func16, Tryz.ntmps16
    go_wp2_with fail
    refine (HV.out).mono ?_
    rintro e w1 ⟨rfl, hB1⟩
    have bX := BlkIs.new w1 26 #[.int .i64 0, .int .i64 0, .int .i64 5, .int .i64 3, .int .i64 4]
    go_wp2_with fail
    go_ret
    exact ⟨rfl, hB1.alloc hB1.size _⟩

set_option maxHeartbeats 400000 in
theorem semiUnder_mark (g : Nat) (s : ByteArray) (i : Nat) (w : World) (hi : IdxAt w g s) (hT : Tab w) (hs : (nb s).length ≤ 65536) (hm : (places (nb s)).length ≤ 10000) (hk : i < (places (nb s)).length) :
    Calls Tryz.prog 11 #[.pointer (some ⟨g, 0, none⟩), .int .i64 ((places (nb s))[i] : Nat)] w fun e w' => e = .returned (.int .i64 (i : Nat)) ∧ Below w.heap.size w w' := by
  obtain ⟨q, y, t, Ax, cx, h1, h2, h3, h4⟩ := hi
  have k0 := h1.cell 0
  have hah := places_ahead (nb s) i hk
  have hlt := places_lt (nb s) _ (List.getElem_mem hk)
  have hbd : (places (nb s))[i] < bndN (nb s) := by unfold bndN; rw [if_neg (by omega)]; exact hlt
  have HL := hid (show Calls Tryz.prog 32 #[.pointer (some ⟨q, 0, none⟩), .int .i64 ((places (nb s))[i] : Nat)] w fun e w' => e = .returned (.int .i64 (i : Nat)) ∧ Below w.heap.size w w' from by
    rcases Nat.eq_zero_or_pos (places (nb s))[i] with h0 | h0
    · have hi0 : i = 0 := by
        rw [h0] at hah
        rw [← hah]
        exact List.countP_eq_zero.2 (fun y hy => by simp)
      have := less_low q ((places (nb s))[i] : Nat) w (by omega)
      have e0 : ((i : Nat) : Int) = 0 := by omega
      rw [e0]
      exact this
    · have := less_mid q (places (nb s)) (bndN (nb s)) (places (nb s))[i] w h2 hT (places_right (by omega)) (places_few hs hm) h0 hbd
      unfold cl at this
      rwa [hah] at this)
  clear h1 h2 h3 h4 hah hlt hbd
  generalize (places (nb s))[i] = v at *
  go_enter Tryz.func11, Tryz.ntmps11
  go_wp2_with fail
  refine (HL.out).mono ?_
  rintro e w' ⟨rfl, hB⟩
  go_wp2_with fail
  go_ret
  exact ⟨rfl, hB⟩
end Go.Proofs.YtacllonekidocaaGreatDoor
