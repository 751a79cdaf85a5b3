/- Walks: One and Zero told by the reference's search; the reference of layer 4. -/
import Derived.Test.YtlpnbkfcbamnbaaDoorChooseP
import Derived.Test.YtlpnbkfcbamnbaaDoorMaths
set_option linter.unusedVariables false
set_option linter.unusedSimpArgs false
set_option maxRecDepth 100000
namespace Go.Proofs.YtlpnbkfcbamnbaaDoor
open Go.RowKit Go.Shelf L

/-- The error's number. -/
def plErr (z : Int) : Int := if 0 ≤ z then 0 else 2

theorem chOne_any (g gd gx : Nat) (A : Option Addr) (c : Nat) (bs : List Bool) (Ad : Option Addr) (cd : Nat) (A1 : Option Addr) (c1 : Nat) (l1 : List Nat) (A0 : Option Addr) (c0 : Nat) (l0 : List Nat) (k : Int) (w : World)
    (hc : ChooserAt w g gd gx A c bs Ad cd A1 c1 l1 A0 c0 l0) (hT : Tab w) :
    Calls Tryd.prog 71 #[.pointer (some ⟨g, 0, none⟩), .int .i64 k] w fun e w' => e = .returned (.tuple #[.int .i64 (max (pl true bs k) 0), .int .i64 (plErr (pl true bs k))]) ∧ Below w.heap.size w w' := by
  rcases pl_ways true bs k with ⟨h, e⟩ | ⟨p, n, rfl, hp, hb, hk, e⟩
  · rw [e]
    exact (chOne_none g gd gx A c bs Ad cd A1 c1 l1 A0 c0 l0 k w hc h).mono fun e w' ⟨he, hw⟩ => ⟨he, hw ▸ Below.refl _ _⟩
  · rw [e, show max ((p : Nat) : Int) 0 = (p : Int) from by omega, show plErr (p : Int) = 0 from by unfold plErr; rw [if_pos (by omega)]]
    exact chOne_at g gd gx A c bs Ad cd A1 c1 l1 A0 c0 l0 n p w hc hT hp hb hk
theorem chZero_any (g gd gx : Nat) (A : Option Addr) (c : Nat) (bs : List Bool) (Ad : Option Addr) (cd : Nat) (A1 : Option Addr) (c1 : Nat) (l1 : List Nat) (A0 : Option Addr) (c0 : Nat) (l0 : List Nat) (k : Int) (w : World)
    (hc : ChooserAt w g gd gx A c bs Ad cd A1 c1 l1 A0 c0 l0) (hT : Tab w) :
    Calls Tryd.prog 105 #[.pointer (some ⟨g, 0, none⟩), .int .i64 k] w fun e w' => e = .returned (.tuple #[.int .i64 (max (pl false bs k) 0), .int .i64 (plErr (pl false bs k))]) ∧ Below w.heap.size w w' := by
  rcases pl_ways false bs k with ⟨h, e⟩ | ⟨p, n, rfl, hp, hb, hk, e⟩
  · rw [e]
    exact (chZero_none g gd gx A c bs Ad cd A1 c1 l1 A0 c0 l0 k w hc h).mono fun e w' ⟨he, hw⟩ => ⟨he, hw ▸ Below.refl _ _⟩
  · rw [e, show max ((p : Nat) : Int) 0 = (p : Int) from by omega, show plErr (p : Int) = 0 from by unfold plErr; rw [if_pos (by omega)]]
    exact chZero_at g gd gx A c bs Ad cd A1 c1 l1 A0 c0 l0 n p w hc hT hp hb hk

theorem chRank_any (g gd gx : Nat) (A : Option Addr) (c : Nat) (bs : List Bool) (Ad : Option Addr) (cd : Nat) (A1 : Option Addr) (c1 : Nat) (l1 : List Nat) (A0 : Option Addr) (c0 : Nat) (l0 : List Nat) (i : Int) (w : World)
    (hc : ChooserAt w g gd gx A c bs Ad cd A1 c1 l1 A0 c0 l0) :
    Calls Tryd.prog 130 #[.pointer (some ⟨g, 0, none⟩), .int .i64 i] w fun e w' => e = .returned (.int .i64 (cnt bs (held bs.length i) : Nat)) ∧ Below w.heap.size w w' := by
  have k0 : w.cell? ⟨g, 0, none⟩ = some (.pointer (some ⟨gd, 0, none⟩)) := hc.blk.cell 0
  have hg := hc.blk.lt
  have HR := hid (rankOne_any gd gx A c bs Ad cd i w hc.dir)
  go_enter Tryd.func130, Tryd.ntmps130
  go_wp2_with fail
  refine HR.out.mono ?_
  rintro e w' ⟨rfl, hB⟩
  go_wp2
  go_ret
  exact ⟨rfl, hB⟩

end Go.Proofs.YtlpnbkfcbamnbaaDoor
