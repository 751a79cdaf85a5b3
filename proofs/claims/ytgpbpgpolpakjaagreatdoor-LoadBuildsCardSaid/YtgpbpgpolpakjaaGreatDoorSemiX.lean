/- The texts IdxA, SemiJ, SemiK, SemiL, in one. -/
import Derived.Test.YtgpbpgpolpakjaaGreatDoorSemiW
import Derived.Test.YtgpbpgpolpakjaaGreatDoorFanoR
import Derived.Laws.ResultCell
import Derived.Test.YtgpbpgpolpakjaaGreatDoorSemiV
/- Plain: what bytes are an index's. -/


set_option linter.unusedVariables false
set_option linter.unusedSimpArgs false
namespace Go.Proofs.YtgpbpgpolpakjaaGreatDoor
open Go.RowKit Go.Shelf L

/-- These bytes are the index's of such places, bound and bits. -/
def L.GoodIdx (l : List UInt8) (m : List Nat) (B : Nat) (R : List Bool) : Prop :=
  8 ≤ l.length ∧ valL l ≤ l.length - 8 ∧ goodL ((l.drop 8).take (valL l)) ∧ IsSeq (bitsL ((l.drop 8).take (valL l)) (valL ((l.drop 8).take (valL l)))) m B ∧
    goodL (l.drop (8 + valL l)) ∧ R = bitsL (l.drop (8 + valL l)) (valL (l.drop (8 + valL l))) ∧ bal (bitAt R) R.length = true
/-- The bytes of a sequence, and of an index. -/
def L.seqL (m : List Nat) (B : Nat) : List UInt8 := rowBytes (seqB (wd m.length B) (top m B) m B)
def L.idxL (m : List Nat) (B : Nat) (R : List Bool) : List UInt8 := leB (seqL m B).length 8 ++ (seqL m B ++ rowBytes R)

theorem L.val_take {l : List UInt8} (h : 8 ≤ l.length) : leB (valL l) 8 = l.take 8 := by
  have := leB_nest (l.take 8)
  rw [List.length_take, Nat.min_eq_left h] at this
  exact this
theorem L.GoodIdx.bytes {l : List UInt8} {m : List Nat} {B : Nat} {R : List Bool} (h : GoodIdx l m B R) : l = idxL m B R := by
  obtain ⟨h1, h2, h3, h4, h5, h6, h7⟩ := h
  have e1 := val_take h1
  have e2 := good_bytes h3
  have e3 := good_bytes h5
  rw [h4.2.2] at e2
  rw [← h6] at e3
  have e4 : (seqL m B).length = valL l := by
    show (rowBytes (seqB (wd m.length B) (top m B) m B)).length = _
    rw [e2, List.length_take, List.length_drop]; omega
  unfold idxL
  rw [e4, e1, e3]
  show l = _ ++ (rowBytes (seqB (wd m.length B) (top m B) m B) ++ _)
  rw [e2, ← List.drop_drop, List.take_append_drop, List.take_append_drop]
theorem L.GoodIdx.of {m : List Nat} {B : Nat} {R : List Bool} (hr : RightN m B) (hm : m.length < 16777216) (hs : (seqB (wd m.length B) (top m B) m B).length ≤ 4294967296) (hR : R.length ≤ 4294967296) (hb : bal (bitAt R) R.length = true) : GoodIdx (idxL m B R) m B R := by
  have hx : seqL m B = rowBytes (seqB (wd m.length B) (top m B) m B) := rfl
  have hl : (seqL m B).length = 8 + 8 * nwords (seqB (wd m.length B) (top m B) m B).length := by rw [hx, row_length]
  have hlt : (seqL m B).length < 256 ^ 8 := by rw [hl]; unfold nwords; omega
  have hlen : (idxL m B R).length = 8 + ((seqL m B).length + (rowBytes R).length) := by unfold idxL; rw [List.length_append, List.length_append, leB_length]
  have hv : valL (idxL m B R) = (seqL m B).length := by
    unfold valL idxL
    rw [List.take_append_of_le_length (by rw [leB_length]; omega), List.take_of_length_le (by rw [leB_length]; omega), nest_leB, Nat.mod_eq_of_lt hlt]
  have hd : (idxL m B R).drop 8 = seqL m B ++ rowBytes R := by unfold idxL; rw [List.drop_left' (leB_length _ _)]
  have ht : ((idxL m B R).drop 8).take (valL (idxL m B R)) = rowBytes (seqB (wd m.length B) (top m B) m B) := by rw [hd, hv, List.take_left]; rfl
  have hd2 : (idxL m B R).drop (8 + valL (idxL m B R)) = rowBytes R := by rw [← List.drop_drop, hd, hv, List.drop_left]
  refine ⟨by omega, by rw [hv, hlen]; omega, ?_, ?_, ?_, ?_, hb⟩
  · rw [ht]; exact row_good _ hs
  · rw [ht, row_val _ hs, row_bits]; exact ⟨hr, hm, rfl⟩
  · rw [hd2]; exact row_good _ hR
  · rw [hd2, row_val _ hR, row_bits]
/-- The sequence is short. -/
theorem L.wd_mul (n B : Nat) (hn : 0 < n) (hB : 0 < B) (hB2 : B ≤ 1099511627776) : n * wd n B ≤ B := by
  unfold wd
  split
  · omega
  · rename_i h
    have hq : 0 < B / n := Nat.div_pos (by omega) hn
    have h1 : need (B / n) - 1 ≤ B / n := by
      have := (need_le_iff (B / n) (B / n) (Nat.lt_of_le_of_lt (Nat.div_le_self _ _) (by omega))).2 Nat.lt_two_pow_self
      omega
    exact Nat.le_trans (Nat.mul_le_mul_left n h1) (Nat.mul_div_le B n)
end Go.Proofs.YtgpbpgpolpakjaaGreatDoor

/- Walks: the number of eight bytes; the shape of some bytes. -/



set_option linter.unusedVariables false
set_option linter.unusedSimpArgs false
set_option maxRecDepth 100000
namespace Go.Proofs.YtgpbpgpolpakjaaGreatDoor
open Go.RowKit Go.Shelf L

def intish (xs : List Value) : Prop := ∀ x ∈ xs, ∃ k i, x = Value.int k i
theorem intish_u64s (l : List Nat) : intish (u64s l) := fun x hx => by
  obtain ⟨y, _, rfl⟩ := List.mem_map.1 hx
  exact ⟨_, _, rfl⟩
theorem intish_natCells (l : List Nat) : intish (natCells l) := fun x hx => by
  obtain ⟨y, _, rfl⟩ := List.mem_map.1 hx
  exact ⟨_, _, rfl⟩
def Past (w w' : World) (g : Nat) : Prop := ∀ k, k < w.heap.size → k ≠ g → w'.heap[k]? = w.heap[k]?
theorem Past.set (w : World) (g i : Nat) (u : Value) : Past w (w.setCell ⟨g, i, none⟩ u) g := fun k _ hk => Below.heap_setCell w ⟨g, i, none⟩ u k hk
theorem blk_put3 {W : World} {g : Nat} {t : TypeId} {x y z : Value} (h : BlkIs W g t #[x, y, z]) (a b c : Value) : BlkIs (((W.setCell ⟨g, 0, none⟩ a).setCell ⟨g, 1, none⟩ b).setCell ⟨g, 2, none⟩ c) g t #[a, b, c] := ((h.put 0 a).put 1 b).put 2 c
theorem below_put3 {B : Nat} {w W : World} {g : Nat} (h : Below B w W) (hg : B ≤ g) (a b c : Value) : Below B w (((W.setCell ⟨g, 0, none⟩ a).setCell ⟨g, 1, none⟩ b).setCell ⟨g, 2, none⟩ c) := ((h.setCell (p := ⟨g, 0, none⟩) hg a).setCell (p := ⟨g, 1, none⟩) hg b).setCell (p := ⟨g, 2, none⟩) hg c
theorem results_shape {P : Program} {fn : Func} {p u : Tmp} {ty : TypeId} (h : fn.results = #[.cell p ty, .tmp u]) (tmps : Array Value) (w : World) (g : Nat) (t : TypeId) (cs : Array Value)
    (hp : tmps.getD p undef = .pointer (some ⟨g, 0, none⟩)) (hg : BlkIs w g t cs)
    (hu : ∃ fs, P.underlying ty = some (.struct fs)) (hi : (P.info? ty).map (·.size) = some cs.size) :
    (results fn tmps).run P w = .ok (.tuple #[.agg cs, tmps.getD u undef]) w := by
  obtain ⟨fs, hu⟩ := hu
  rw [results_cell_tmp h, hp]
  simp [asAddr, Result.andThen, run_loadVar_row w g t ty cs _ (.struct fs) hg hu rfl hi]
end Go.Proofs.YtgpbpgpolpakjaaGreatDoor

/- Walks: whether a shape is a record's. -/

set_option linter.unusedVariables false
set_option linter.unusedSimpArgs false
set_option maxRecDepth 100000
namespace Go.Proofs.YtgpbpgpolpakjaaGreatDoor
open Go.RowKit Go.Shelf L

end Go.Proofs.YtgpbpgpolpakjaaGreatDoor

/- Walks: Load. -/


set_option linter.unusedVariables false
set_option linter.unusedSimpArgs false
set_option maxRecDepth 100000
namespace Go.Proofs.YtgpbpgpolpakjaaGreatDoor
open Go.RowKit Go.Shelf L

end Go.Proofs.YtgpbpgpolpakjaaGreatDoor
