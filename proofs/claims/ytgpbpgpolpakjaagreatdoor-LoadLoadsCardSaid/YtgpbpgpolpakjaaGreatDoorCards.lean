/-
  DERIVED. GIVEN WITH THE SEED: THE CARDS: each row of YtgpbpgpolpakjaaGreatDoorRows.lean that lists a variable, with what it lists TIED to the program's text (the seventh form; the later family's looks); each row that meets fmt, with fmt's text TOLD by the authors' own Lean function (tested against real Go, not proved from fmt's source: count such statements apart). THE CARD IS WHAT COUNTS. Prove the row's statement (the work); the ties are given (YtgpbpgpolpakjaaGreatDoorTie.lean); close each card by the builder's one call (the guide's Derived/Test/ToyasCard.lean, 'card_holds'). Laid BY PROGRAM, IN A SANDBOX (cutbox-door.mjs). By AI agents, Wed Nov 11 2026. No macro, syntax, notation, axiom, sorry.
-/
import Derived.Test.YtgpbpgpolpakjaaGreatDoorRows
import GoSem.ClaimSeven
namespace Go.Proofs.YtgpbpgpolpakjaaGreatDoor
namespace Rows

/-- THE TIED CARD OF 'laceworklaw14.SemiBack'. -/
def semiBackCard : Claim7 := { stood := { row := semiBackRow, standIns := [], harness := (true, "39c77c89cc85dfa35a782ecc763d06f5dfd22abc1aa579d4516dcefe5b6ff75a"), looks := false }, kinds := [], alts := [], laidByText := true, laidKinds := [.data], laidTests := true, laidLooks := .later }
def SemiBackCardSaid : Prop := Claim7.holds Tryz.pinned (.plain (OpenSpec.ofChange semiBackSpec)) semiBackCard

/-- THE TIED CARD OF 'laceworklaw14.SemiLoads'. -/
def semiLoadsCard : Claim7 := { stood := { row := semiLoadsRow, standIns := [], harness := (true, "39c77c89cc85dfa35a782ecc763d06f5dfd22abc1aa579d4516dcefe5b6ff75a"), looks := false }, kinds := [], alts := [], laidByText := true, laidKinds := [.data], laidTests := true, laidLooks := .later }
def SemiLoadsCardSaid : Prop := Claim7.holds Tryz.pinned (.plain (OpenSpec.ofChange semiLoadsSpec)) semiLoadsCard

/-- THE TIED CARD OF 'laceworklaw26.LoadBuilds'. -/
def loadBuildsCard : Claim7 := { stood := { row := loadBuildsRow, standIns := [], harness := (true, "39c77c89cc85dfa35a782ecc763d06f5dfd22abc1aa579d4516dcefe5b6ff75a"), looks := false }, kinds := [], alts := [], laidByText := true, laidKinds := [.data], laidTests := true, laidLooks := .later }
def LoadBuildsCardSaid : Prop := Claim7.holds Tryz.pinned (.plain (OpenSpec.ofChange loadBuildsSpec)) loadBuildsCard

/-- THE TIED CARD OF 'laceworklaw26.LoadBack'. -/
def loadBackCard : Claim7 := { stood := { row := loadBackRow, standIns := [], harness := (true, "39c77c89cc85dfa35a782ecc763d06f5dfd22abc1aa579d4516dcefe5b6ff75a"), looks := false }, kinds := [], alts := [], laidByText := true, laidKinds := [.data], laidTests := true, laidLooks := .later }
def LoadBackCardSaid : Prop := Claim7.holds Tryz.pinned (.plain (OpenSpec.ofChange loadBackSpec)) loadBackCard

/-- THE TIED CARD OF 'laceworklaw26.LoadLoads'. -/
def loadLoadsCard : Claim7 := { stood := { row := loadLoadsRow, standIns := [], harness := (true, "39c77c89cc85dfa35a782ecc763d06f5dfd22abc1aa579d4516dcefe5b6ff75a"), looks := false }, kinds := [], alts := [], laidByText := true, laidKinds := [.data], laidTests := true, laidLooks := .later }
def LoadLoadsCardSaid : Prop := Claim7.holds Tryz.pinned (.plain (OpenSpec.ofChange loadLoadsSpec)) loadLoadsCard

/-- THE SECOND FORM's CARD OF 'laceworklaw14.SemiBack'. -/
def semiBackUptoCard : Claim7 := { stood := { row := semiBackUptoRow, standIns := [], harness := (true, "39c77c89cc85dfa35a782ecc763d06f5dfd22abc1aa579d4516dcefe5b6ff75a"), looks := false }, kinds := [], alts := [], laidByText := true, laidKinds := [.data], laidTests := true, laidLooks := .later }
def SemiBackUptoCardSaid : Prop := Claim7.holds Tryz.pinned (.plain (OpenSpec.upto semiBackSpec)) semiBackUptoCard

/-- THE SECOND FORM's CARD OF 'laceworklaw14.SemiLoads'. -/
def semiLoadsUptoCard : Claim7 := { stood := { row := semiLoadsUptoRow, standIns := [], harness := (true, "39c77c89cc85dfa35a782ecc763d06f5dfd22abc1aa579d4516dcefe5b6ff75a"), looks := false }, kinds := [], alts := [], laidByText := true, laidKinds := [.data], laidTests := true, laidLooks := .later }
def SemiLoadsUptoCardSaid : Prop := Claim7.holds Tryz.pinned (.plain (OpenSpec.upto semiLoadsSpec)) semiLoadsUptoCard

/-- THE SECOND FORM's CARD OF 'laceworklaw26.LoadBuilds'. -/
def loadBuildsUptoCard : Claim7 := { stood := { row := loadBuildsUptoRow, standIns := [], harness := (true, "39c77c89cc85dfa35a782ecc763d06f5dfd22abc1aa579d4516dcefe5b6ff75a"), looks := false }, kinds := [], alts := [], laidByText := true, laidKinds := [.data], laidTests := true, laidLooks := .later }
def LoadBuildsUptoCardSaid : Prop := Claim7.holds Tryz.pinned (.plain (OpenSpec.upto loadBuildsSpec)) loadBuildsUptoCard

/-- THE SECOND FORM's CARD OF 'laceworklaw26.LoadBack'. -/
def loadBackUptoCard : Claim7 := { stood := { row := loadBackUptoRow, standIns := [], harness := (true, "39c77c89cc85dfa35a782ecc763d06f5dfd22abc1aa579d4516dcefe5b6ff75a"), looks := false }, kinds := [], alts := [], laidByText := true, laidKinds := [.data], laidTests := true, laidLooks := .later }
def LoadBackUptoCardSaid : Prop := Claim7.holds Tryz.pinned (.plain (OpenSpec.upto loadBackSpec)) loadBackUptoCard

/-- THE SECOND FORM's CARD OF 'laceworklaw26.LoadLoads'. -/
def loadLoadsUptoCard : Claim7 := { stood := { row := loadLoadsUptoRow, standIns := [], harness := (true, "39c77c89cc85dfa35a782ecc763d06f5dfd22abc1aa579d4516dcefe5b6ff75a"), looks := false }, kinds := [], alts := [], laidByText := true, laidKinds := [.data], laidTests := true, laidLooks := .later }
def LoadLoadsUptoCardSaid : Prop := Claim7.holds Tryz.pinned (.plain (OpenSpec.upto loadLoadsSpec)) loadLoadsUptoCard
end Rows
end Go.Proofs.YtgpbpgpolpakjaaGreatDoor
