/- Walks: the tree's memory (minmax). -/
import Derived.Test.YtacllonekidocaaGreatDoorMinmaxA
set_option linter.unusedVariables false
set_option linter.unusedSimpArgs false
set_option maxRecDepth 100000
namespace Go.Proofs.YtacllonekidocaaGreatDoor
open Go.RowKit L

theorem wrapi_one (k : Nat) (h : k ≤ 4294967296) : IntKind.i64.wrap ((k : Int) + 1) = (k : Int) + 1 := by rw [IntKind.wrap_i64]; omega
/-- A node's cells. -/
def ncell (nd : Nat → Int × Rc × Rc) (k : Nat) : Value :=
  if k % 3 = 0 then .int .i64 (nd (k / 3)).1 else if k % 3 = 1 then .complex .f64 (lxf (nd (k / 3)).2.1) (uxf (nd (k / 3)).2.1) else .complex .f64 (lxf (nd (k / 3)).2.2) (uxf (nd (k / 3)).2.2)
/-- The cells of so many nodes. -/
def ncells (nd : Nat → Int × Rc × Rc) (n : Nat) : Array Value := (Array.range n).map (ncell nd)
theorem ncells_get (nd : Nat → Int × Rc × Rc) (n k : Nat) (h : k < n) : (ncells nd n)[k]? = some (ncell nd k) := by
  unfold ncells; rw [Array.getElem?_map, Array.getElem?_range, if_pos h]; rfl
theorem ncell0 (nd : Nat → Int × Rc × Rc) (j : Nat) : ncell nd (3 * j) = .int .i64 (nd j).1 := by
  unfold ncell; rw [if_pos (by omega), show 3 * j / 3 = j from by omega]
theorem ncell1 (nd : Nat → Int × Rc × Rc) (j : Nat) : ncell nd (3 * j + 1) = .complex .f64 (lxf (nd j).2.1) (uxf (nd j).2.1) := by
  unfold ncell; rw [if_neg (by omega), if_pos (by omega), show (3 * j + 1) / 3 = j from by omega]
theorem ncell2 (nd : Nat → Int × Rc × Rc) (j : Nat) : ncell nd (3 * j + 2) = .complex .f64 (lxf (nd j).2.2) (uxf (nd j).2.2) := by
  unfold ncell; rw [if_neg (by omega), if_neg (by omega), show (3 * j + 2) / 3 = j from by omega]
theorem ncells_set (nd nd' : Nat → Int × Rc × Rc) (n j : Nat) (hj : ∀ k, k ≠ j → nd' k = nd k) :
    (((ncells nd n).setIfInBounds (3 * j) (.int .i64 (nd' j).1)).setIfInBounds (3 * j + 1) (.complex .f64 (lxf (nd' j).2.1) (uxf (nd' j).2.1))).setIfInBounds (3 * j + 2) (.complex .f64 (lxf (nd' j).2.2) (uxf (nd' j).2.2)) = ncells nd' n := by
  have hs : ∀ nd, (ncells nd n).size = n := fun nd => by simp [ncells]
  apply Array.ext_getElem?
  intro k
  rcases Nat.lt_or_ge k n with h | h
  · rw [ncells_get nd' n k h]
    simp only [Array.getElem?_setIfInBounds, Array.size_setIfInBounds, hs]
    by_cases h2 : 3 * j + 2 = k
    · subst h2; rw [if_pos rfl, if_pos h, ncell2]
    · rw [if_neg h2]
      by_cases h1 : 3 * j + 1 = k
      · subst h1; rw [if_pos rfl, if_pos h, ncell1]
      · rw [if_neg h1]
        by_cases h0 : 3 * j = k
        · subst h0; rw [if_pos rfl, if_pos h, ncell0]
        · rw [if_neg h0, ncells_get nd n k h]
          have : k / 3 ≠ j := by omega
          unfold ncell; rw [hj _ this]
  · rw [Array.getElem?_eq_none (by simp [hs]; omega), Array.getElem?_eq_none (by rw [hs]; omega)]
theorem ncells_congr {nd nd' : Nat → Int × Rc × Rc} {n : Nat} (h : ∀ k, k < n → nd (k / 3) = nd' (k / 3)) : ncells nd n = ncells nd' n := by
  apply Array.ext_getElem?
  intro k
  rcases Nat.lt_or_ge k n with hk | hk
  · rw [ncells_get _ _ _ hk, ncells_get _ _ _ hk]; unfold ncell; rw [h k hk]
  · rw [Array.getElem?_eq_none (by simp [ncells]; omega), Array.getElem?_eq_none (by simp [ncells]; omega)]

/-- A node that isn't yet. -/
def nd0 : Int × Rc × Rc := (0, some (0, 0), some (0, 0))
theorem fl_nought : fl 0 = 0 := by decide +kernel
theorem made_nodes (n : Nat) : madeCells #[.int .i64 0, .complex .f64 0 0, .complex .f64 0 0] n = ncells (fun _ => nd0) n := by
  unfold madeCells ncells
  congr 1
  funext k
  unfold ncell
  have h : k % 3 = 0 ∨ k % 3 = 1 ∨ k % 3 = 2 := by omega
  have e : (nd0.1, nd0.2.1, nd0.2.2) = ((0 : Int), some (0, 0), some (0, 0)) := rfl
  have e2 : lxf nd0.2.1 = 0 ∧ uxf nd0.2.1 = 0 ∧ lxf nd0.2.2 = 0 ∧ uxf nd0.2.2 = 0 := ⟨fl_nought, fl_nought, fl_nought, fl_nought⟩
  show (#[Value.int .i64 0, .complex .f64 0 0, .complex .f64 0 0])[k % 3]! = _
  rcases h with h | h | h <;> simp [h, e2] <;> rfl

/-- A node of a row's tree. -/
def nodeV (bs : List Bool) (h i : Nat) : Int × Rc × Rc := if i = 0 then nd0 else (nE (bitAt bs) bs.length (2 ^ h) i, nF (bitAt bs) bs.length (2 ^ h) i, nK (bitAt bs) bs.length (2 ^ h) i)
/-- Some of a tree's nodes. -/
def ndS (p : Nat → Bool) (bs : List Bool) (h i : Nat) : Int × Rc × Rc := if p i then nodeV bs h i else nd0

/-- A tree in memory. -/
def TreeAt (w : World) (g gl gx : Nat) (A : Option Addr) (c : Nat) (bs : List Bool) (h : Nat) : Prop :=
  BlkIs w g 140 #[.pointer (some ⟨gx, 0, none⟩), .slice (some ⟨gl, 0, none⟩) (2 * 2 ^ h) (2 * 2 ^ h), .int .i64 (2 ^ h : Nat)] ∧
    BlkIs w gl 142 (ncells (nodeV bs h) (6 * 2 ^ h)) ∧ RowAt w gx A c bs ∧ bs.length ≤ 512 * 2 ^ h ∧ (h = 0 ∨ 256 * 2 ^ h < bs.length)
section
variable {w : World} {g gl gx : Nat} {A : Option Addr} {c : Nat} {bs : List Bool} {h : Nat}
theorem TreeAt.blk (t : TreeAt w g gl gx A c bs h) : BlkIs w g 140 #[.pointer (some ⟨gx, 0, none⟩), .slice (some ⟨gl, 0, none⟩) (2 * 2 ^ h) (2 * 2 ^ h), .int .i64 (2 ^ h : Nat)] := t.1
theorem TreeAt.nodes (t : TreeAt w g gl gx A c bs h) : BlkIs w gl 142 (ncells (nodeV bs h) (6 * 2 ^ h)) := t.2.1
theorem TreeAt.row (t : TreeAt w g gl gx A c bs h) : RowAt w gx A c bs := t.2.2.1
theorem TreeAt.fits (t : TreeAt w g gl gx A c bs h) : bs.length ≤ 512 * 2 ^ h := t.2.2.2.1
theorem TreeAt.least (t : TreeAt w g gl gx A c bs h) : h = 0 ∨ 256 * 2 ^ h < bs.length := t.2.2.2.2
theorem TreeAt.below {w' : World} (t : TreeAt w g gl gx A c bs h) (hb : Below w.heap.size w w') : TreeAt w' g gl gx A c bs h :=
  ⟨t.1.below hb, t.2.1.below hb, t.2.2.1.below hb, t.2.2.2⟩
theorem TreeAt.cellE (t : TreeAt w g gl gx A c bs h) {i : Nat} (h0 : 0 < i) (hi : i < 2 * 2 ^ h) : w.cell? ⟨gl, 3 * i, none⟩ = some (.int .i64 (nE (bitAt bs) bs.length (2 ^ h) i)) := by
  rw [t.nodes.cell, ncells_get _ _ _ (by omega), ncell0]; unfold nodeV; rw [if_neg (by omega)]
theorem TreeAt.cellF (t : TreeAt w g gl gx A c bs h) {i : Nat} (h0 : 0 < i) (hi : i < 2 * 2 ^ h) : w.cell? ⟨gl, 3 * i + 1, none⟩ = some (.complex .f64 (lxf (nF (bitAt bs) bs.length (2 ^ h) i)) (uxf (nF (bitAt bs) bs.length (2 ^ h) i))) := by
  rw [t.nodes.cell, ncells_get _ _ _ (by omega), ncell1]; unfold nodeV; rw [if_neg (by omega)]
theorem TreeAt.cellK (t : TreeAt w g gl gx A c bs h) {i : Nat} (h0 : 0 < i) (hi : i < 2 * 2 ^ h) : w.cell? ⟨gl, 3 * i + 2, none⟩ = some (.complex .f64 (lxf (nK (bitAt bs) bs.length (2 ^ h) i)) (uxf (nK (bitAt bs) bs.length (2 ^ h) i))) := by
  rw [t.nodes.cell, ncells_get _ _ _ (by omega), ncell2]; unfold nodeV; rw [if_neg (by omega)]
end
theorem pow_small {h n : Nat} (hl : h = 0 ∨ 256 * 2 ^ h < n) (hn : n ≤ 4294967296) : 2 ^ h ≤ 16777216 := by
  rcases hl with rfl | hl
  · simp
  · omega
/-- A node's sums and reaches are small. -/
theorem nE_small (f : Nat → Bool) (n F i : Nat) (hn : n ≤ 4294967296) (hi : i ≠ 0) : -4294967296 ≤ nE f n F i ∧ nE f n F i ≤ 4294967296 := by
  have h1 := eb_abs f (nA n F i) (nB n F i)
  have h2 := nA_le n F i hi
  unfold nE
  omega
theorem nF_small (f : Nat → Bool) (n F i : Nat) (hn : n ≤ 4294967296) (hi : i ≠ 0) : Bs (nF f n F i) := Bs.rf _ _ _ (by have := nA_le n F i hi; omega)
theorem nK_small (f : Nat → Bool) (n F i : Nat) (hn : n ≤ 4294967296) (hi : i ≠ 0) : Bs (nK f n F i) := Bs.rb _ _ _ (by have := nA_le n F i hi; omega)
end Go.Proofs.YtacllonekidocaaGreatDoor
