/-
  DERIVED. GIVEN WITH THE SEED: THE CARDS: each row of YtdhokioiloggeaaDoorRows.lean that lists a variable, with what it lists TIED to the program's text (the seventh form; the later family's looks); each row that meets fmt, with fmt's text TOLD by the authors' own Lean function (tested against real Go, not proved from fmt's source: count such statements apart). THE CARD IS WHAT COUNTS. Prove the row's statement (the work); the ties are given (YtdhokioiloggeaaDoorTie.lean); close each card by the builder's one call (the guide's Derived/Test/ToyasCard.lean, 'card_holds'). Laid BY PROGRAM, IN A SANDBOX (cutbox-door.mjs). By AI agents, Wed Nov 11 2026. No macro, syntax, notation, axiom, sorry.
-/
import Derived.Test.YtdhokioiloggeaaDoorRows
import GoSem.ClaimSeven
namespace Go.Proofs.YtdhokioiloggeaaDoor
namespace Rows

/-- THE TIED CARD OF 'laceworklaw01.WordFields'. -/
def wordFieldsCard : Claim7 := { stood := { row := wordFieldsRow, standIns := [], harness := (true, "b015993b8b9a0db179abf46dcb274d7256ace873e365c06dd267ea2b1da79119"), looks := false }, kinds := [], alts := [], laidByText := true, laidKinds := [.data], laidTests := true, laidLooks := .later }
def WordFieldsCardSaid : Prop := Claim7.holds Tryd.pinned (.plain (OpenSpec.ofChange wordFieldsSpec)) wordFieldsCard

/-- THE TIED CARD OF 'laceworklaw01.WordReach'. -/
def wordReachCard : Claim7 := { stood := { row := wordReachRow, standIns := [], harness := (true, "b015993b8b9a0db179abf46dcb274d7256ace873e365c06dd267ea2b1da79119"), looks := false }, kinds := [], alts := [], laidByText := true, laidKinds := [.data], laidTests := true, laidLooks := .later }
def WordReachCardSaid : Prop := Claim7.holds Tryd.pinned (.plain (OpenSpec.ofChange wordReachSpec)) wordReachCard

/-- THE TIED CARD OF 'laceworklaw01.WordFinds'. -/
def wordFindsCard : Claim7 := { stood := { row := wordFindsRow, standIns := [], harness := (true, "b015993b8b9a0db179abf46dcb274d7256ace873e365c06dd267ea2b1da79119"), looks := false }, kinds := [], alts := [], laidByText := true, laidKinds := [.data], laidTests := true, laidLooks := .later }
def WordFindsCardSaid : Prop := Claim7.holds Tryd.pinned (.plain (OpenSpec.ofChange wordFindsSpec)) wordFindsCard

/-- THE TIED CARD OF 'laceworklaw01.WordCounts'. -/
def wordCountsCard : Claim7 := { stood := { row := wordCountsRow, standIns := [], harness := (true, "b015993b8b9a0db179abf46dcb274d7256ace873e365c06dd267ea2b1da79119"), looks := false }, kinds := [], alts := [], laidByText := true, laidKinds := [.data], laidTests := true, laidLooks := .later }
def WordCountsCardSaid : Prop := Claim7.holds Tryd.pinned (.plain (OpenSpec.ofChange wordCountsSpec)) wordCountsCard

/-- THE TIED CARD OF 'laceworklaw01.WordParts'. -/
def wordPartsCard : Claim7 := { stood := { row := wordPartsRow, standIns := [], harness := (true, "b015993b8b9a0db179abf46dcb274d7256ace873e365c06dd267ea2b1da79119"), looks := false }, kinds := [], alts := [], laidByText := true, laidKinds := [.data], laidTests := true, laidLooks := .later }
def WordPartsCardSaid : Prop := Claim7.holds Tryd.pinned (.plain (OpenSpec.ofChange wordPartsSpec)) wordPartsCard

/-- THE TIED CARD OF 'laceworklaw01.WordEach'. -/
def wordEachCard : Claim7 := { stood := { row := wordEachRow, standIns := [], harness := (true, "b015993b8b9a0db179abf46dcb274d7256ace873e365c06dd267ea2b1da79119"), looks := false }, kinds := [], alts := [], laidByText := true, laidKinds := [.data], laidTests := true, laidLooks := .later }
def WordEachCardSaid : Prop := Claim7.holds Tryd.pinned (.plain (OpenSpec.ofChange wordEachSpec)) wordEachCard

/-- THE TIED CARD OF 'laceworklaw04.ChooseLong'. -/
def chooseLongCard : Claim7 := { stood := { row := chooseLongRow, standIns := [], harness := (true, "b015993b8b9a0db179abf46dcb274d7256ace873e365c06dd267ea2b1da79119"), looks := false }, kinds := [], alts := [], laidByText := true, laidKinds := [.data], laidTests := true, laidLooks := .later }
def ChooseLongCardSaid : Prop := Claim7.holds Tryd.pinned (.plain (OpenSpec.ofChange chooseLongSpec)) chooseLongCard

/-- THE TIED CARD OF 'laceworklaw04.ChooseEach'. -/
def chooseEachCard : Claim7 := { stood := { row := chooseEachRow, standIns := [], harness := (true, "b015993b8b9a0db179abf46dcb274d7256ace873e365c06dd267ea2b1da79119"), looks := false }, kinds := [], alts := [], laidByText := true, laidKinds := [.data], laidTests := true, laidLooks := .later }
def ChooseEachCardSaid : Prop := Claim7.holds Tryd.pinned (.plain (OpenSpec.ofChange chooseEachSpec)) chooseEachCard

/-- THE TIED CARD OF 'laceworklaw04.ChooseTurned'. -/
def chooseTurnedCard : Claim7 := { stood := { row := chooseTurnedRow, standIns := [], harness := (true, "b015993b8b9a0db179abf46dcb274d7256ace873e365c06dd267ea2b1da79119"), looks := false }, kinds := [], alts := [], laidByText := true, laidKinds := [.data], laidTests := true, laidLooks := .later }
def ChooseTurnedCardSaid : Prop := Claim7.holds Tryd.pinned (.plain (OpenSpec.ofChange chooseTurnedSpec)) chooseTurnedCard

/-- THE TIED CARD OF 'laceworklaw04.ChooseFinds'. -/
def chooseFindsCard : Claim7 := { stood := { row := chooseFindsRow, standIns := [], harness := (true, "b015993b8b9a0db179abf46dcb274d7256ace873e365c06dd267ea2b1da79119"), looks := false }, kinds := [], alts := [], laidByText := true, laidKinds := [.data], laidTests := true, laidLooks := .later }
def ChooseFindsCardSaid : Prop := Claim7.holds Tryd.pinned (.plain (OpenSpec.ofChange chooseFindsSpec)) chooseFindsCard

/-- THE SECOND FORM's CARD OF 'laceworklaw01.WordFields'. -/
def wordFieldsUptoCard : Claim7 := { stood := { row := wordFieldsUptoRow, standIns := [], harness := (true, "b015993b8b9a0db179abf46dcb274d7256ace873e365c06dd267ea2b1da79119"), looks := false }, kinds := [], alts := [], laidByText := true, laidKinds := [.data], laidTests := true, laidLooks := .later }
def WordFieldsUptoCardSaid : Prop := Claim7.holds Tryd.pinned (.plain (OpenSpec.upto wordFieldsSpec)) wordFieldsUptoCard

/-- THE SECOND FORM's CARD OF 'laceworklaw01.WordReach'. -/
def wordReachUptoCard : Claim7 := { stood := { row := wordReachUptoRow, standIns := [], harness := (true, "b015993b8b9a0db179abf46dcb274d7256ace873e365c06dd267ea2b1da79119"), looks := false }, kinds := [], alts := [], laidByText := true, laidKinds := [.data], laidTests := true, laidLooks := .later }
def WordReachUptoCardSaid : Prop := Claim7.holds Tryd.pinned (.plain (OpenSpec.upto wordReachSpec)) wordReachUptoCard

/-- THE SECOND FORM's CARD OF 'laceworklaw01.WordFinds'. -/
def wordFindsUptoCard : Claim7 := { stood := { row := wordFindsUptoRow, standIns := [], harness := (true, "b015993b8b9a0db179abf46dcb274d7256ace873e365c06dd267ea2b1da79119"), looks := false }, kinds := [], alts := [], laidByText := true, laidKinds := [.data], laidTests := true, laidLooks := .later }
def WordFindsUptoCardSaid : Prop := Claim7.holds Tryd.pinned (.plain (OpenSpec.upto wordFindsSpec)) wordFindsUptoCard

/-- THE SECOND FORM's CARD OF 'laceworklaw01.WordCounts'. -/
def wordCountsUptoCard : Claim7 := { stood := { row := wordCountsUptoRow, standIns := [], harness := (true, "b015993b8b9a0db179abf46dcb274d7256ace873e365c06dd267ea2b1da79119"), looks := false }, kinds := [], alts := [], laidByText := true, laidKinds := [.data], laidTests := true, laidLooks := .later }
def WordCountsUptoCardSaid : Prop := Claim7.holds Tryd.pinned (.plain (OpenSpec.upto wordCountsSpec)) wordCountsUptoCard

/-- THE SECOND FORM's CARD OF 'laceworklaw01.WordParts'. -/
def wordPartsUptoCard : Claim7 := { stood := { row := wordPartsUptoRow, standIns := [], harness := (true, "b015993b8b9a0db179abf46dcb274d7256ace873e365c06dd267ea2b1da79119"), looks := false }, kinds := [], alts := [], laidByText := true, laidKinds := [.data], laidTests := true, laidLooks := .later }
def WordPartsUptoCardSaid : Prop := Claim7.holds Tryd.pinned (.plain (OpenSpec.upto wordPartsSpec)) wordPartsUptoCard

/-- THE SECOND FORM's CARD OF 'laceworklaw01.WordEach'. -/
def wordEachUptoCard : Claim7 := { stood := { row := wordEachUptoRow, standIns := [], harness := (true, "b015993b8b9a0db179abf46dcb274d7256ace873e365c06dd267ea2b1da79119"), looks := false }, kinds := [], alts := [], laidByText := true, laidKinds := [.data], laidTests := true, laidLooks := .later }
def WordEachUptoCardSaid : Prop := Claim7.holds Tryd.pinned (.plain (OpenSpec.upto wordEachSpec)) wordEachUptoCard

/-- THE SECOND FORM's CARD OF 'laceworklaw04.ChooseLong'. -/
def chooseLongUptoCard : Claim7 := { stood := { row := chooseLongUptoRow, standIns := [], harness := (true, "b015993b8b9a0db179abf46dcb274d7256ace873e365c06dd267ea2b1da79119"), looks := false }, kinds := [], alts := [], laidByText := true, laidKinds := [.data], laidTests := true, laidLooks := .later }
def ChooseLongUptoCardSaid : Prop := Claim7.holds Tryd.pinned (.plain (OpenSpec.upto chooseLongSpec)) chooseLongUptoCard

/-- THE SECOND FORM's CARD OF 'laceworklaw04.ChooseEach'. -/
def chooseEachUptoCard : Claim7 := { stood := { row := chooseEachUptoRow, standIns := [], harness := (true, "b015993b8b9a0db179abf46dcb274d7256ace873e365c06dd267ea2b1da79119"), looks := false }, kinds := [], alts := [], laidByText := true, laidKinds := [.data], laidTests := true, laidLooks := .later }
def ChooseEachUptoCardSaid : Prop := Claim7.holds Tryd.pinned (.plain (OpenSpec.upto chooseEachSpec)) chooseEachUptoCard

/-- THE SECOND FORM's CARD OF 'laceworklaw04.ChooseTurned'. -/
def chooseTurnedUptoCard : Claim7 := { stood := { row := chooseTurnedUptoRow, standIns := [], harness := (true, "b015993b8b9a0db179abf46dcb274d7256ace873e365c06dd267ea2b1da79119"), looks := false }, kinds := [], alts := [], laidByText := true, laidKinds := [.data], laidTests := true, laidLooks := .later }
def ChooseTurnedUptoCardSaid : Prop := Claim7.holds Tryd.pinned (.plain (OpenSpec.upto chooseTurnedSpec)) chooseTurnedUptoCard

/-- THE SECOND FORM's CARD OF 'laceworklaw04.ChooseFinds'. -/
def chooseFindsUptoCard : Claim7 := { stood := { row := chooseFindsUptoRow, standIns := [], harness := (true, "b015993b8b9a0db179abf46dcb274d7256ace873e365c06dd267ea2b1da79119"), looks := false }, kinds := [], alts := [], laidByText := true, laidKinds := [.data], laidTests := true, laidLooks := .later }
def ChooseFindsUptoCardSaid : Prop := Claim7.holds Tryd.pinned (.plain (OpenSpec.upto chooseFindsSpec)) chooseFindsUptoCard
end Rows
end Go.Proofs.YtdhokioiloggeaaDoor
