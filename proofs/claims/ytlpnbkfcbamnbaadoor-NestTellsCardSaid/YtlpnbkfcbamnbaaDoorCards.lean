/-
  DERIVED. GIVEN WITH THE SEED: THE CARDS: each row of YtlpnbkfcbamnbaaDoorRows.lean that lists a variable, with what it lists TIED to the program's text (the seventh form; the later family's looks); each row that meets fmt, with fmt's text TOLD by the authors' own Lean function (tested against real Go, not proved from fmt's source: count such statements apart). THE CARD IS WHAT COUNTS. Prove the row's statement (the work); the ties are given (YtlpnbkfcbamnbaaDoorTie.lean); close each card by the builder's one call (the guide's Derived/Test/ToyasCard.lean, 'card_holds'). Laid BY PROGRAM, IN A SANDBOX (cutbox-door.mjs). By AI agents, Wed Nov 11 2026. No macro, syntax, notation, axiom, sorry.
-/
import Derived.Test.YtlpnbkfcbamnbaaDoorRows
import GoSem.ClaimSeven
namespace Go.Proofs.YtlpnbkfcbamnbaaDoor
namespace Rows

/-- THE TIED CARD OF 'laceworklaw05.FanoMakes'. -/
def fanoMakesCard : Claim7 := { stood := { row := fanoMakesRow, standIns := [], harness := (true, "aae9caaf9cd7489a0c2ebbd8e111b4d997b508fbe257e33d501054e67179f7ce"), looks := false }, kinds := [], alts := [], laidByText := true, laidKinds := [.data], laidTests := true, laidLooks := .later }
def FanoMakesCardSaid : Prop := Claim7.holds Tryd.pinned (.plain (OpenSpec.ofChange fanoMakesSpec)) fanoMakesCard

/-- THE TIED CARD OF 'laceworklaw05.FanoMore'. -/
def fanoMoreCard : Claim7 := { stood := { row := fanoMoreRow, standIns := [], harness := (true, "aae9caaf9cd7489a0c2ebbd8e111b4d997b508fbe257e33d501054e67179f7ce"), looks := false }, kinds := [], alts := [], laidByText := true, laidKinds := [.data], laidTests := true, laidLooks := .later }
def FanoMoreCardSaid : Prop := Claim7.holds Tryd.pinned (.plain (OpenSpec.ofChange fanoMoreSpec)) fanoMoreCard

/-- THE TIED CARD OF 'laceworklaw05.FanoBetween'. -/
def fanoBetweenCard : Claim7 := { stood := { row := fanoBetweenRow, standIns := [], harness := (true, "aae9caaf9cd7489a0c2ebbd8e111b4d997b508fbe257e33d501054e67179f7ce"), looks := false }, kinds := [], alts := [], laidByText := true, laidKinds := [.data], laidTests := true, laidLooks := .later }
def FanoBetweenCardSaid : Prop := Claim7.holds Tryd.pinned (.plain (OpenSpec.ofChange fanoBetweenSpec)) fanoBetweenCard

/-- THE TIED CARD OF 'laceworklaw05.FanoAsks'. -/
def fanoAsksCard : Claim7 := { stood := { row := fanoAsksRow, standIns := [], harness := (true, "aae9caaf9cd7489a0c2ebbd8e111b4d997b508fbe257e33d501054e67179f7ce"), looks := false }, kinds := [], alts := [], laidByText := true, laidKinds := [.data], laidTests := true, laidLooks := .later }
def FanoAsksCardSaid : Prop := Claim7.holds Tryd.pinned (.plain (OpenSpec.ofChange fanoAsksSpec)) fanoAsksCard

/-- THE TIED CARD OF 'laceworklaw05.FanoEach'. -/
def fanoEachCard : Claim7 := { stood := { row := fanoEachRow, standIns := [], harness := (true, "aae9caaf9cd7489a0c2ebbd8e111b4d997b508fbe257e33d501054e67179f7ce"), looks := false }, kinds := [], alts := [], laidByText := true, laidKinds := [.data], laidTests := true, laidLooks := .later }
def FanoEachCardSaid : Prop := Claim7.holds Tryd.pinned (.plain (OpenSpec.ofChange fanoEachSpec)) fanoEachCard

/-- THE TIED CARD OF 'laceworklaw08.NestSums'. -/
def nestSumsCard : Claim7 := { stood := { row := nestSumsRow, standIns := [], harness := (true, "aae9caaf9cd7489a0c2ebbd8e111b4d997b508fbe257e33d501054e67179f7ce"), looks := false }, kinds := [], alts := [], laidByText := true, laidKinds := [.data], laidTests := true, laidLooks := .later }
def NestSumsCardSaid : Prop := Claim7.holds Tryd.pinned (.plain (OpenSpec.ofChange nestSumsSpec)) nestSumsCard

/-- THE TIED CARD OF 'laceworklaw05.FanoBytes'. -/
def fanoBytesCard : Claim7 := { stood := { row := fanoBytesRow, standIns := [], harness := (true, "aae9caaf9cd7489a0c2ebbd8e111b4d997b508fbe257e33d501054e67179f7ce"), looks := false }, kinds := [], alts := [], laidByText := true, laidKinds := [.data], laidTests := true, laidLooks := .later }
def FanoBytesCardSaid : Prop := Claim7.holds Tryd.pinned (.plain (OpenSpec.ofChange fanoBytesSpec)) fanoBytesCard

/-- THE TIED CARD OF 'laceworklaw05.FanoOf'. -/
def fanoOfCard : Claim7 := { stood := { row := fanoOfRow, standIns := [], harness := (true, "aae9caaf9cd7489a0c2ebbd8e111b4d997b508fbe257e33d501054e67179f7ce"), looks := false }, kinds := [], alts := [], laidByText := true, laidKinds := [.data], laidTests := true, laidLooks := .later }
def FanoOfCardSaid : Prop := Claim7.holds Tryd.pinned (.plain (OpenSpec.ofChange fanoOfSpec)) fanoOfCard

/-- THE TIED CARD OF 'laceworklaw08.NestInside'. -/
def nestInsideCard : Claim7 := { stood := { row := nestInsideRow, standIns := [], harness := (true, "aae9caaf9cd7489a0c2ebbd8e111b4d997b508fbe257e33d501054e67179f7ce"), looks := false }, kinds := [], alts := [], laidByText := true, laidKinds := [.data], laidTests := true, laidLooks := .later }
def NestInsideCardSaid : Prop := Claim7.holds Tryd.pinned (.plain (OpenSpec.ofChange nestInsideSpec)) nestInsideCard

/-- THE TIED CARD OF 'laceworklaw08.NestWalks'. -/
def nestWalksCard : Claim7 := { stood := { row := nestWalksRow, standIns := [], harness := (true, "aae9caaf9cd7489a0c2ebbd8e111b4d997b508fbe257e33d501054e67179f7ce"), looks := false }, kinds := [], alts := [], laidByText := true, laidKinds := [.data], laidTests := true, laidLooks := .later }
def NestWalksCardSaid : Prop := Claim7.holds Tryd.pinned (.plain (OpenSpec.ofChange nestWalksSpec)) nestWalksCard

/-- THE TIED CARD OF 'laceworklaw08.NestTells'. -/
def nestTellsCard : Claim7 := { stood := { row := nestTellsRow, standIns := [], harness := (true, "aae9caaf9cd7489a0c2ebbd8e111b4d997b508fbe257e33d501054e67179f7ce"), looks := false }, kinds := [], alts := [], laidByText := true, laidKinds := [.data], laidTests := true, laidLooks := .later }
def NestTellsCardSaid : Prop := Claim7.holds Tryd.pinned (.plain (OpenSpec.ofChange nestTellsSpec)) nestTellsCard

/-- THE SECOND FORM's CARD OF 'laceworklaw05.FanoMakes'. -/
def fanoMakesUptoCard : Claim7 := { stood := { row := fanoMakesUptoRow, standIns := [], harness := (true, "aae9caaf9cd7489a0c2ebbd8e111b4d997b508fbe257e33d501054e67179f7ce"), looks := false }, kinds := [], alts := [], laidByText := true, laidKinds := [.data], laidTests := true, laidLooks := .later }
def FanoMakesUptoCardSaid : Prop := Claim7.holds Tryd.pinned (.plain (OpenSpec.upto fanoMakesSpec)) fanoMakesUptoCard

/-- THE SECOND FORM's CARD OF 'laceworklaw05.FanoMore'. -/
def fanoMoreUptoCard : Claim7 := { stood := { row := fanoMoreUptoRow, standIns := [], harness := (true, "aae9caaf9cd7489a0c2ebbd8e111b4d997b508fbe257e33d501054e67179f7ce"), looks := false }, kinds := [], alts := [], laidByText := true, laidKinds := [.data], laidTests := true, laidLooks := .later }
def FanoMoreUptoCardSaid : Prop := Claim7.holds Tryd.pinned (.plain (OpenSpec.upto fanoMoreSpec)) fanoMoreUptoCard

/-- THE SECOND FORM's CARD OF 'laceworklaw05.FanoBetween'. -/
def fanoBetweenUptoCard : Claim7 := { stood := { row := fanoBetweenUptoRow, standIns := [], harness := (true, "aae9caaf9cd7489a0c2ebbd8e111b4d997b508fbe257e33d501054e67179f7ce"), looks := false }, kinds := [], alts := [], laidByText := true, laidKinds := [.data], laidTests := true, laidLooks := .later }
def FanoBetweenUptoCardSaid : Prop := Claim7.holds Tryd.pinned (.plain (OpenSpec.upto fanoBetweenSpec)) fanoBetweenUptoCard

/-- THE SECOND FORM's CARD OF 'laceworklaw05.FanoAsks'. -/
def fanoAsksUptoCard : Claim7 := { stood := { row := fanoAsksUptoRow, standIns := [], harness := (true, "aae9caaf9cd7489a0c2ebbd8e111b4d997b508fbe257e33d501054e67179f7ce"), looks := false }, kinds := [], alts := [], laidByText := true, laidKinds := [.data], laidTests := true, laidLooks := .later }
def FanoAsksUptoCardSaid : Prop := Claim7.holds Tryd.pinned (.plain (OpenSpec.upto fanoAsksSpec)) fanoAsksUptoCard

/-- THE SECOND FORM's CARD OF 'laceworklaw05.FanoEach'. -/
def fanoEachUptoCard : Claim7 := { stood := { row := fanoEachUptoRow, standIns := [], harness := (true, "aae9caaf9cd7489a0c2ebbd8e111b4d997b508fbe257e33d501054e67179f7ce"), looks := false }, kinds := [], alts := [], laidByText := true, laidKinds := [.data], laidTests := true, laidLooks := .later }
def FanoEachUptoCardSaid : Prop := Claim7.holds Tryd.pinned (.plain (OpenSpec.upto fanoEachSpec)) fanoEachUptoCard

/-- THE SECOND FORM's CARD OF 'laceworklaw08.NestSums'. -/
def nestSumsUptoCard : Claim7 := { stood := { row := nestSumsUptoRow, standIns := [], harness := (true, "aae9caaf9cd7489a0c2ebbd8e111b4d997b508fbe257e33d501054e67179f7ce"), looks := false }, kinds := [], alts := [], laidByText := true, laidKinds := [.data], laidTests := true, laidLooks := .later }
def NestSumsUptoCardSaid : Prop := Claim7.holds Tryd.pinned (.plain (OpenSpec.upto nestSumsSpec)) nestSumsUptoCard

/-- THE SECOND FORM's CARD OF 'laceworklaw05.FanoBytes'. -/
def fanoBytesUptoCard : Claim7 := { stood := { row := fanoBytesUptoRow, standIns := [], harness := (true, "aae9caaf9cd7489a0c2ebbd8e111b4d997b508fbe257e33d501054e67179f7ce"), looks := false }, kinds := [], alts := [], laidByText := true, laidKinds := [.data], laidTests := true, laidLooks := .later }
def FanoBytesUptoCardSaid : Prop := Claim7.holds Tryd.pinned (.plain (OpenSpec.upto fanoBytesSpec)) fanoBytesUptoCard

/-- THE SECOND FORM's CARD OF 'laceworklaw05.FanoOf'. -/
def fanoOfUptoCard : Claim7 := { stood := { row := fanoOfUptoRow, standIns := [], harness := (true, "aae9caaf9cd7489a0c2ebbd8e111b4d997b508fbe257e33d501054e67179f7ce"), looks := false }, kinds := [], alts := [], laidByText := true, laidKinds := [.data], laidTests := true, laidLooks := .later }
def FanoOfUptoCardSaid : Prop := Claim7.holds Tryd.pinned (.plain (OpenSpec.upto fanoOfSpec)) fanoOfUptoCard

/-- THE SECOND FORM's CARD OF 'laceworklaw08.NestInside'. -/
def nestInsideUptoCard : Claim7 := { stood := { row := nestInsideUptoRow, standIns := [], harness := (true, "aae9caaf9cd7489a0c2ebbd8e111b4d997b508fbe257e33d501054e67179f7ce"), looks := false }, kinds := [], alts := [], laidByText := true, laidKinds := [.data], laidTests := true, laidLooks := .later }
def NestInsideUptoCardSaid : Prop := Claim7.holds Tryd.pinned (.plain (OpenSpec.upto nestInsideSpec)) nestInsideUptoCard

/-- THE SECOND FORM's CARD OF 'laceworklaw08.NestWalks'. -/
def nestWalksUptoCard : Claim7 := { stood := { row := nestWalksUptoRow, standIns := [], harness := (true, "aae9caaf9cd7489a0c2ebbd8e111b4d997b508fbe257e33d501054e67179f7ce"), looks := false }, kinds := [], alts := [], laidByText := true, laidKinds := [.data], laidTests := true, laidLooks := .later }
def NestWalksUptoCardSaid : Prop := Claim7.holds Tryd.pinned (.plain (OpenSpec.upto nestWalksSpec)) nestWalksUptoCard

/-- THE SECOND FORM's CARD OF 'laceworklaw08.NestTells'. -/
def nestTellsUptoCard : Claim7 := { stood := { row := nestTellsUptoRow, standIns := [], harness := (true, "aae9caaf9cd7489a0c2ebbd8e111b4d997b508fbe257e33d501054e67179f7ce"), looks := false }, kinds := [], alts := [], laidByText := true, laidKinds := [.data], laidTests := true, laidLooks := .later }
def NestTellsUptoCardSaid : Prop := Claim7.holds Tryd.pinned (.plain (OpenSpec.upto nestTellsSpec)) nestTellsUptoCard
end Rows
end Go.Proofs.YtlpnbkfcbamnbaaDoor
