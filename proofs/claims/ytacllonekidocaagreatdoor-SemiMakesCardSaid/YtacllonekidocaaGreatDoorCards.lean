/-
  DERIVED. GIVEN WITH THE SEED: THE CARDS: each row of YtacllonekidocaaGreatDoorRows.lean that lists a variable, with what it lists TIED to the program's text (the seventh form; the later family's looks); each row that meets fmt, with fmt's text TOLD by the authors' own Lean function (tested against real Go, not proved from fmt's source: count such statements apart). THE CARD IS WHAT COUNTS. Prove the row's statement (the work); the ties are given (YtacllonekidocaaGreatDoorTie.lean); close each card by the builder's one call (the guide's Derived/Test/ToyasCard.lean, 'card_holds'). Laid BY PROGRAM, IN A SANDBOX (cutbox-door.mjs). By AI agents, Wed Nov 11 2026. No macro, syntax, notation, axiom, sorry.
-/
import Derived.Test.YtacllonekidocaaGreatDoorRows
import GoSem.ClaimSeven
namespace Go.Proofs.YtacllonekidocaaGreatDoor
namespace Rows

/-- THE TIED CARD OF 'laceworklaw14.SemiLong'. -/
def semiLongCard : Claim7 := { stood := { row := semiLongRow, standIns := [], harness := (true, "f9d695cb0a65bdd0f41bc9fd62ed1ecac3607d6d87d1ee54906dc06b0010e4a4"), looks := false }, kinds := [], alts := [], laidByText := true, laidKinds := [.data], laidTests := true, laidLooks := .later }
def SemiLongCardSaid : Prop := Claim7.holds Tryz.pinned (.plain (OpenSpec.ofChange semiLongSpec)) semiLongCard

/-- THE TIED CARD OF 'laceworklaw14.SemiMakes'. -/
def semiMakesCard : Claim7 := { stood := { row := semiMakesRow, standIns := [], harness := (true, "f9d695cb0a65bdd0f41bc9fd62ed1ecac3607d6d87d1ee54906dc06b0010e4a4"), looks := false }, kinds := [], alts := [], laidByText := true, laidKinds := [.data], laidTests := true, laidLooks := .later }
def SemiMakesCardSaid : Prop := Claim7.holds Tryz.pinned (.plain (OpenSpec.ofChange semiMakesSpec)) semiMakesCard

/-- THE TIED CARD OF 'laceworklaw14.SemiBack'. -/
def semiBackCard : Claim7 := { stood := { row := semiBackRow, standIns := [], harness := (true, "f9d695cb0a65bdd0f41bc9fd62ed1ecac3607d6d87d1ee54906dc06b0010e4a4"), looks := false }, kinds := [], alts := [], laidByText := true, laidKinds := [.data], laidTests := true, laidLooks := .later }
def SemiBackCardSaid : Prop := Claim7.holds Tryz.pinned (.plain (OpenSpec.ofChange semiBackSpec)) semiBackCard

/-- THE TIED CARD OF 'laceworklaw14.SemiLoads'. -/
def semiLoadsCard : Claim7 := { stood := { row := semiLoadsRow, standIns := [], harness := (true, "f9d695cb0a65bdd0f41bc9fd62ed1ecac3607d6d87d1ee54906dc06b0010e4a4"), looks := false }, kinds := [], alts := [], laidByText := true, laidKinds := [.data], laidTests := true, laidLooks := .later }
def SemiLoadsCardSaid : Prop := Claim7.holds Tryz.pinned (.plain (OpenSpec.ofChange semiLoadsSpec)) semiLoadsCard

/-- THE SECOND FORM's CARD OF 'laceworklaw14.SemiLong'. -/
def semiLongUptoCard : Claim7 := { stood := { row := semiLongUptoRow, standIns := [], harness := (true, "f9d695cb0a65bdd0f41bc9fd62ed1ecac3607d6d87d1ee54906dc06b0010e4a4"), looks := false }, kinds := [], alts := [], laidByText := true, laidKinds := [.data], laidTests := true, laidLooks := .later }
def SemiLongUptoCardSaid : Prop := Claim7.holds Tryz.pinned (.plain (OpenSpec.upto semiLongSpec)) semiLongUptoCard

/-- THE SECOND FORM's CARD OF 'laceworklaw14.SemiMakes'. -/
def semiMakesUptoCard : Claim7 := { stood := { row := semiMakesUptoRow, standIns := [], harness := (true, "f9d695cb0a65bdd0f41bc9fd62ed1ecac3607d6d87d1ee54906dc06b0010e4a4"), looks := false }, kinds := [], alts := [], laidByText := true, laidKinds := [.data], laidTests := true, laidLooks := .later }
def SemiMakesUptoCardSaid : Prop := Claim7.holds Tryz.pinned (.plain (OpenSpec.upto semiMakesSpec)) semiMakesUptoCard

/-- THE SECOND FORM's CARD OF 'laceworklaw14.SemiBack'. -/
def semiBackUptoCard : Claim7 := { stood := { row := semiBackUptoRow, standIns := [], harness := (true, "f9d695cb0a65bdd0f41bc9fd62ed1ecac3607d6d87d1ee54906dc06b0010e4a4"), looks := false }, kinds := [], alts := [], laidByText := true, laidKinds := [.data], laidTests := true, laidLooks := .later }
def SemiBackUptoCardSaid : Prop := Claim7.holds Tryz.pinned (.plain (OpenSpec.upto semiBackSpec)) semiBackUptoCard

/-- THE SECOND FORM's CARD OF 'laceworklaw14.SemiLoads'. -/
def semiLoadsUptoCard : Claim7 := { stood := { row := semiLoadsUptoRow, standIns := [], harness := (true, "f9d695cb0a65bdd0f41bc9fd62ed1ecac3607d6d87d1ee54906dc06b0010e4a4"), looks := false }, kinds := [], alts := [], laidByText := true, laidKinds := [.data], laidTests := true, laidLooks := .later }
def SemiLoadsUptoCardSaid : Prop := Claim7.holds Tryz.pinned (.plain (OpenSpec.upto semiLoadsSpec)) semiLoadsUptoCard
end Rows
end Go.Proofs.YtacllonekidocaaGreatDoor
