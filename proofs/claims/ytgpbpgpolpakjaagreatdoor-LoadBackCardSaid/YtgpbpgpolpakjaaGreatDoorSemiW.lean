/- The texts SemiG, SemiH, SemiI, in one. -/
import Derived.Test.YtgpbpgpolpakjaaGreatDoorSemiF
import Derived.Test.YtgpbpgpolpakjaaGreatDoorFanoQ
import Derived.Test.YtgpbpgpolpakjaaGreatDoorBitsP
import Derived.Test.YtgpbpgpolpakjaaGreatDoorRefFano
import Derived.Test.YtgpbpgpolpakjaaGreatDoorSemiP
import Derived.Test.YtgpbpgpolpakjaaGreatDoorRefS
/- Walks: the bytes of an index: a number's eight bytes, all of them; the reference's. -/




set_option linter.unusedVariables false
set_option linter.unusedSimpArgs false
set_option maxRecDepth 100000
namespace Go.Proofs.YtgpbpgpolpakjaaGreatDoor
open Go.RowKit Go.Shelf L

theorem made_bytes14 (n : Nat) : (madeCells (Value.int .u8 0).cells (n * 1)).toList = Lib.byteCells (List.replicate n 0) := by
  have e : (Value.int .u8 0).cells = #[.int .u8 0] := rfl
  rw [e, Nat.mul_one]
  unfold madeCells Lib.byteCells
  apply List.ext_getElem
  · simp
  · intro i h1 h2
    simp [Nat.mod_one]
set_option maxHeartbeats 1000000 in
theorem semiLength_any (n : Nat) (w : World) (hn : n < 9223372036854775808) :
    Calls Tryz.prog 37 #[.int .i64 (n : Nat)] w fun e w' => e = .returned (.string ⟨(leB n 8).toArray⟩) ∧ Below w.heap.size w w' := by
  obtain ⟨i0, hi0, iz0, iz1, iz2⟩ := info_parts Tryz.infoU8
  have hB00 : Below w.heap.size w w := Below.refl _ _
  go_enter Tryz.func37, Tryz.ntmps37
  go_wp2_with (first
    | (at_make
       go_must (refine wpList_make_full _ rfl (.const (.int .i64 8)) (.const (.int .i64 8)) _ rfl w.heap.size 5 i0 (.int .u8 0) 1 Tryz.underlying117 hi0 iz0 iz1 .i64 .i64 _ _ 8 rfl rfl rfl rfl (by rw [iz2]; omega) (by unfold maxLen; omega) (Nat.le_refl _) ?_)
       intro w3 hown3 hgr3))
  have hB3 : Below w.heap.size w w3 := hB00.grown hgr3 (Nat.le_refl _) (fun k hk => by cases hk)
  have hrep : (madeCells (Value.int .u8 0).cells (8 * 1)).toList = Lib.byteCells (leB n 0 ++ List.replicate 8 0) := made_bytes14 8
  rw [hrep] at hown3
  clear hgr3 hrep
  go_wp2_with fail
  go_loopw [8] (fun iv wr => ∃ k : Nat, k ≤ 8 ∧ iv = .int .i64 (k : Nat) ∧ wr.ownsRow w.heap.size 5 1 (.slice (some ⟨w.heap.size, 0, none⟩) 8 8) 8 (Lib.byteCells (leB n k ++ List.replicate (8 - k) 0)) ∧ Below w.heap.size w wr) (fun iv _ => 8 - (intOf iv).toNat)
  case atStart => exact ⟨0, by omega, rfl, hown3, hB3⟩
  case round =>
    obtain ⟨k, hk, rfl, hown, hB⟩ := hrel
    clear hown3 hB3
    rcases Nat.lt_or_ge k 8 with hlt | hge
    · have hkI : (k : Int) < 8 := by omega
      have hk0 : (0 : Int) ≤ (k : Int) := by omega
      have hst := hown.stored k (.int .u8 ((n : Int) / 2 ^ (8 * k) % 256))
      have hlist : (Lib.byteCells (leB n k ++ List.replicate (8 - k) 0)).set k (.int .u8 ((n : Int) / 2 ^ (8 * k) % 256)) = Lib.byteCells (leB n (k + 1) ++ List.replicate (8 - (k + 1)) 0) := by
        rw [leB_succ, byteCells_append, byteCells_append, byteCells_append, List.set_append_right _ _ (by rw [Lib.byteCells_length, leB_length]; exact Nat.le_refl _), Lib.byteCells_length, leB_length, Nat.sub_self, show 8 - k = (8 - (k + 1)) + 1 from by omega, List.replicate_succ, byteCells_one, show (256 : Nat) ^ k = 2 ^ (8 * k) from by rw [Nat.pow_mul]]
        show Lib.byteCells (leB n k) ++ (Value.int .u8 ((n : Int) / 2 ^ (8 * k) % 256) :: Lib.byteCells (List.replicate (8 - (k + 1)) 0)) = Lib.byteCells (leB n k) ++ [Value.int .u8 ((n / 2 ^ (8 * k) % 256 : Nat) : Int)] ++ Lib.byteCells (List.replicate (8 - (k + 1)) 0)
        have ev : ((n / 2 ^ (8 * k) % 256 : Nat) : Int) = (n : Int) / 2 ^ (8 * k) % 256 := by simp
        rw [List.append_assoc, ev]; rfl
      rw [hlist] at hst
      obtain ⟨u, cw⟩ : ∃ u, wr.cell? ⟨w.heap.size, k, none⟩ = some u := ⟨_, (hown.cellAt k (by omega)).trans (List.getElem?_eq_getElem (by have := hown.1; omega))⟩
      have fw := hown.frozenAt k
      have hBs : Below w.heap.size w (wr.setCell ⟨w.heap.size, k, none⟩ (.int .u8 ((n : Int) / 2 ^ (8 * k) % 256))) := hB.setCell (Nat.le_refl _) _
      have ho := hid hst.1
      clear hst hlist hown
      go_wp2_with fail
      go_roundw
      case rel => exact ⟨k + 1, by omega, by go_num, ho.out, hBs⟩
      case measure => simp [intOf]; omega
    · obtain rfl : k = 8 := by omega
      have hown8 : wr.ownsRow w.heap.size 5 1 (.slice (some ⟨w.heap.size, 0, none⟩) 8 8) 8 (Lib.byteCells (leB n 8)) := by simpa using hown
      have hcv : (convert 117 9 (.slice (some ⟨w.heap.size, 0, none⟩) 8 8)).run Tryz.prog wr = .ok (.string ⟨(leB n 8).toArray⟩) wr := by
        have := run_string_own (l := leB n 8) (by rw [leB_length]; exact hown8)
        rwa [leB_length] at this
      go_wp2_with (simp only [hcv])
      go_ret
      exact ⟨rfl, hB⟩
end Go.Proofs.YtgpbpgpolpakjaaGreatDoor

/- Walks: the reference of chapter 13: places, bits. -/

set_option linter.unusedVariables false
set_option linter.unusedSimpArgs false
set_option maxRecDepth 100000
namespace Go.Proofs.YtgpbpgpolpakjaaGreatDoor
open Go.RowKit Go.Shelf L

end Go.Proofs.YtgpbpgpolpakjaaGreatDoor

/- Walks: the bytes of an index, and the reference's; what is wrong, by the reference; how many marks stand ahead of a mark. -/




set_option linter.unusedVariables false
set_option linter.unusedSimpArgs false
set_option maxRecDepth 100000
namespace Go.Proofs.YtgpbpgpolpakjaaGreatDoor
open Go.RowKit Go.Shelf L

/-- The bytes of a record's marks, and of its index. -/
def L.seqS (l : List Nat) : ByteArray := ⟨(rowBytes (seqB (wd (places l).length (bndN l)) (top (places l) (bndN l)) (places l) (bndN l))).toArray⟩
def L.idxS (l : List Nat) : ByteArray := ⟨(leB (seqS l).size 8).toArray⟩ ++ seqS l ++ ⟨(rowBytes (parens l)).toArray⟩
theorem L.seqS_small {l : List Nat} (h : l.length ≤ 65536) (hm : (places l).length ≤ 10000) : (seqS l).size ≤ 1000000 := by
  have hr := places_right (l := l) (by omega)
  have hf := places_few h hm
  show (rowBytes (seqB (wd (places l).length (bndN l)) (top (places l) (bndN l)) (places l) (bndN l))).length ≤ 1000000
  have hlen := seqB_length (wd (places l).length (bndN l)) (top (places l) (bndN l)) (places l) (bndN l) (hr.up _) (Nat.le_trans (hr.last _) (Nat.le_succ _))
  have hwd := wd_le (places l).length (bndN l) hr.1.2
  rw [row_length, hlen]
  have h2 : (places l).length * wd (places l).length (bndN l) ≤ 10000 * 40 := Nat.mul_le_mul hm hwd
  have h3 := hf.2
  have ht : top (places l) (bndN l) = (bndN l - 1) / 2 ^ wd (places l).length (bndN l) + 1 := rfl
  rw [ht]
  unfold nwords
  omega
theorem L.parens_small {l : List Nat} (hm : (places l).length ≤ 10000) : (rowBytes (parens l)).length ≤ 1000000 := by
  rw [places_length] at hm
  rw [row_length, parens_length]
  unfold nwords
  omega

set_option maxHeartbeats 1000000 in
theorem semiBytes_any (g : Nat) (s : ByteArray) (w : World) (hi : IdxAt w g s) (hT : Tab w) (hs : (nb s).length ≤ 65536) (hm : (places (nb s)).length ≤ 10000) :
    Calls Tryz.prog 11 #[.pointer (some ⟨g, 0, none⟩)] w fun e w' => e = .returned (.string (idxS (nb s))) ∧ Below w.heap.size w w' := by
  obtain ⟨q, x, t, Ax, cx, h1, h2, h3, h4⟩ := hi
  have hb1 := seqS_small hs hm
  have hb2 := parens_small hm
  have hb4 : (leB (seqS (nb s)).size 8).length = 8 := leB_length _ _
  have hbA : ¬ 9223372036854775807 < (⟨(leB (seqS (nb s)).size 8).toArray⟩ : ByteArray).size + (seqS (nb s)).size := by
    show ¬ 9223372036854775807 < (leB (seqS (nb s)).size 8).length + (seqS (nb s)).size
    omega
  have hbB : ¬ 9223372036854775807 < (⟨(leB (seqS (nb s)).size 8).toArray⟩ : ByteArray).size + (seqS (nb s)).size + (⟨(rowBytes (parens (nb s))).toArray⟩ : ByteArray).size := by
    show ¬ 9223372036854775807 < (leB (seqS (nb s)).size 8).length + (seqS (nb s)).size + (rowBytes (parens (nb s))).length
    omega
  have hz : (seqS (nb s)).size < 9223372036854775808 := by omega
  have k0 := h1.cell 0
  have K1 := hid (show ∀ W, Below w.heap.size w W → W.cell? ⟨g, 1, none⟩ = some (.pointer (some ⟨x, 0, none⟩)) from fun W hW => (h1.below hW).cell 1)
  have HS := hid (show Calls Tryz.prog 36 #[.pointer (some ⟨q, 0, none⟩)] w fun e w' => e = .returned (.string (seqS (nb s))) ∧ Below w.heap.size w w' from seqBytes_any q (places (nb s)) (bndN (nb s)) w h2 hT (places_right (by omega)) (places_few hs hm))
  have HR := hid (fun W (hW : Below w.heap.size w W) => rbytes_any x Ax cx (parens (nb s)) W (h3.below hW))
  have HLN := hid (fun W => semiLength_any (seqS (nb s)).size W hz)
  have HID := hid (show idxS (nb s) = ⟨(leB (seqS (nb s)).size 8).toArray⟩ ++ seqS (nb s) ++ ⟨(rowBytes (parens (nb s))).toArray⟩ from rfl)
  clear h1 h2 h3 h4 hs hm
  generalize idxS (nb s) = I at *
  generalize seqS (nb s) = T at *
  generalize (⟨(leB T.size 8).toArray⟩ : ByteArray) = E at *
  generalize (⟨(rowBytes (parens (nb s))).toArray⟩ : ByteArray) = U at *
  clear hb1 hb2 hb4
  go_enter Tryz.func11, Tryz.ntmps11
  go_wp2_with fail
  refine (HS.out).mono ?_
  rintro e w1 ⟨rfl, hB1⟩
  have hz1 := hB1.size
  have k1 := K1.out _ hB1
  have KC := hid (show ∀ W, Below w1.heap.size w1 W → W.cell? ⟨g, 1, none⟩ = some (.pointer (some ⟨x, 0, none⟩)) from fun W hW => K1.out W (hB1.trans (hW.mono hz1)))
  have HC1 := hid (fun W (hW : Below w1.heap.size w1 W) => (HLN.out W).mono (R' := fun e w' => e = .returned (.string E) ∧ Below w1.heap.size w1 w') (fun e w' ⟨h1, h2⟩ => ⟨h1, hW.trans (h2.mono hW.size)⟩))
  have HC2 := hid (fun W (hW : Below w1.heap.size w1 W) => (HR.out W (hB1.trans (hW.mono hz1))).mono (R' := fun e w' => e = .returned (.string U) ∧ Below w1.heap.size w1 w') (fun e w' ⟨h1, h2⟩ => ⟨h1, hW.trans (h2.mono hW.size)⟩))
  have hB11 := Below.refl w1.heap.size w1
  clear HLN HR HS K1
  go_wp2_with fail
  go_region_held3 (fun w' => Below w1.heap.size w1 w' ∧ w'.cell? ⟨g, 1, none⟩ = some (.pointer (some ⟨x, 0, none⟩))) (first | exact ⟨hB11.drew, k1⟩ | exact ⟨hB11, k1⟩ | exact ⟨e1, KC.out _ e1⟩ | exact ⟨e2, KC.out _ e2⟩ | assumption)
    (first
     | (go_at_call 37; with_reducible refine (HC1.out _ (by first | assumption | exact And.left (by assumption))).mono ?_; rintro e w6 ⟨rfl, e1⟩)
     | (go_at_call 38; with_reducible refine (HC2.out _ (by first | assumption | exact And.left (by assumption))).mono ?_; rintro e w7 ⟨rfl, e2⟩))
  all_goals go_wp2_with fail
  all_goals go_ret
  all_goals exact ⟨by rw [HID.out]; rfl, hB1.trans (Below.mono (by first | exact e2 | exact e1 | assumption) hz1)⟩

end Go.Proofs.YtgpbpgpolpakjaaGreatDoor
