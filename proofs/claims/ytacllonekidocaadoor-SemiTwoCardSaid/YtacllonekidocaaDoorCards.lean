/-
  DERIVED. GIVEN WITH THE SEED: THE CARDS: each row of YtacllonekidocaaDoorRows.lean that lists a variable, with what it lists TIED to the program's text (the seventh form; the later family's looks); each row that meets fmt, with fmt's text TOLD by the authors' own Lean function (tested against real Go, not proved from fmt's source: count such statements apart). THE CARD IS WHAT COUNTS. Prove the row's statement (the work); the ties are given (YtacllonekidocaaDoorTie.lean); close each card by the builder's one call (the guide's Derived/Test/ToyasCard.lean, 'card_holds'). Laid BY PROGRAM, IN A SANDBOX (cutbox-door.mjs). By AI agents, Wed Nov 11 2026. No macro, syntax, notation, axiom, sorry.
-/
import Derived.Test.YtacllonekidocaaDoorRows
import GoSem.ClaimSeven
namespace Go.Proofs.YtacllonekidocaaDoor
namespace Rows

/-- THE TIED CARD OF 'laceworklaw14.SemiTwo'. -/
def semiTwoCard : Claim7 := { stood := { row := semiTwoRow, standIns := [], harness := (true, "9b68ebc5bf218c6a3aa3182d9698e84fde9c8cab03753ffccf47274b50ef3069"), looks := false }, kinds := [], alts := [], laidByText := true, laidKinds := [.data], laidTests := true, laidLooks := .later }
def SemiTwoCardSaid : Prop := Claim7.holds Tryd.pinned (.plain (OpenSpec.ofChange semiTwoSpec)) semiTwoCard

/-- THE SECOND FORM's CARD OF 'laceworklaw14.SemiTwo'. -/
def semiTwoUptoCard : Claim7 := { stood := { row := semiTwoUptoRow, standIns := [], harness := (true, "9b68ebc5bf218c6a3aa3182d9698e84fde9c8cab03753ffccf47274b50ef3069"), looks := false }, kinds := [], alts := [], laidByText := true, laidKinds := [.data], laidTests := true, laidLooks := .later }
def SemiTwoUptoCardSaid : Prop := Claim7.holds Tryd.pinned (.plain (OpenSpec.upto semiTwoSpec)) semiTwoUptoCard
end Rows
end Go.Proofs.YtacllonekidocaaDoor
