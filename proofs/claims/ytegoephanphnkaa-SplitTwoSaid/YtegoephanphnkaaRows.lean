/-
  No cell of these rows narrows 'for every input' (looked for: loops, veiled, ifaces, maps, wideKeys, modest, calm, conditions, laid).
  DERIVED. THE GIVEN ROWS OF THIS SEAT. 11 by the template 'for every input the law returns true; each argument reads behind the call as it read before'; 0 by the template 'total and deterministic' (their statements: YtegoephanphnkaaTotals.lean).
  GIVEN WITH THE SEED: the statements are not yours to turn. If you find one false, say at which input.
  Laid BY PROGRAM, IN A SANDBOX (cutbox-rows.mjs): the forced cells as the released guide's own fill.sh prints them over the translation 55793eed35ecfd9b… (all of the seat's roots in one cut). By AI agents, Wed Nov 11 2026. No macro, syntax, notation, axiom, sorry.
-/
import Derived.Test.YtegoephanphnkaaChecked
import GoSem.Claim
import GoSem.ClaimJoined
import GoSem.ClaimMapViews
import Derived.JoinedTies
import Derived.KernelRfl
namespace Go.Proofs.Ytegoephanphnkaa
/- THE CELL 'sum', in the pinned program and in every row, IS THE sha256 OF THE DUMP (.gsa) THAT YtegoephanphnkaaProg.lean LOADS. Nothing in Lean hashes anything: it is a label: what it is worth is what the hold of that sum in a sandbox is worth. -/
noncomputable def Try.pinned : Pinned := { name := "ytegoephanphnkaa", sum := "55793eed35ecfd9b009bdd6f6e898cb765ccc6b60783181033f511733531becb", checked := Try.checked }
namespace Rows
def none {H : Type} : Left H := { results := [], args := [] }

/-- 'laceworklaw12.ScanValidates': WHATEVER THE INPUT: true; the input reads as it did. -/
def scanValidatesSpec : ChangeSpec := { name := "scanValidates", fn := fun _ => fun
  | [d1, d2] => { results := [.lit (.bool true)], args := [d1, d2] }
  | _ => none }
def scanValidatesRow : OpenClaim := { program := "ytegoephanphnkaa", sum := "55793eed35ecfd9b009bdd6f6e898cb765ccc6b60783181033f511733531becb", func := "lacework/laceworklaw12.ScanValidates", spec := "scanValidates", inPlace := ["internal/bytealg.IndexByteString"], recurses := true, apart := false }
def ScanValidatesSaid : Prop := scanValidatesRow.holds Try.pinned (OpenSpec.ofChange scanValidatesSpec)

/-- ITS FALSE NEIGHBOUR: 'it returns false'. Refute it at one input. -/
def scanValidatesWrong : ChangeSpec := { name := "scanValidates", fn := fun _ => fun
  | [d1, d2] => { results := [.lit (.bool false)], args := [d1, d2] }
  | _ => none }
def ScanValidatesWrongFalsely : Prop := scanValidatesRow.holds Try.pinned (OpenSpec.ofChange scanValidatesWrong)

/-- 'laceworklaw12.ScanAlive': WHATEVER THE INPUT: true; the input reads as it did. -/
def scanAliveSpec : ChangeSpec := { name := "scanAlive", fn := fun _ => fun
  | [d1, d2] => { results := [.lit (.bool true)], args := [d1, d2] }
  | _ => none }
def scanAliveRow : OpenClaim := { program := "ytegoephanphnkaa", sum := "55793eed35ecfd9b009bdd6f6e898cb765ccc6b60783181033f511733531becb", func := "lacework/laceworklaw12.ScanAlive", spec := "scanAlive", inPlace := ["internal/bytealg.IndexByteString"], apart := false }
def ScanAliveSaid : Prop := scanAliveRow.holds Try.pinned (OpenSpec.ofChange scanAliveSpec)

/-- ITS FALSE NEIGHBOUR: 'it returns false'. Refute it at one input. -/
def scanAliveWrong : ChangeSpec := { name := "scanAlive", fn := fun _ => fun
  | [d1, d2] => { results := [.lit (.bool false)], args := [d1, d2] }
  | _ => none }
def ScanAliveWrongFalsely : Prop := scanAliveRow.holds Try.pinned (OpenSpec.ofChange scanAliveWrong)

/-- 'laceworklaw12.ScanNests': WHATEVER THE INPUT: true; the input reads as it did. -/
def scanNestsSpec : ChangeSpec := { name := "scanNests", fn := fun _ => fun
  | [d1, d2, d3] => { results := [.lit (.bool true)], args := [d1, d2, d3] }
  | _ => none }
def scanNestsRow : OpenClaim := { program := "ytegoephanphnkaa", sum := "55793eed35ecfd9b009bdd6f6e898cb765ccc6b60783181033f511733531becb", func := "lacework/laceworklaw12.ScanNests", spec := "scanNests", inPlace := ["internal/bytealg.IndexByteString"], apart := false }
def ScanNestsSaid : Prop := scanNestsRow.holds Try.pinned (OpenSpec.ofChange scanNestsSpec)

/-- ITS FALSE NEIGHBOUR: 'it returns false'. Refute it at one input. -/
def scanNestsWrong : ChangeSpec := { name := "scanNests", fn := fun _ => fun
  | [d1, d2, d3] => { results := [.lit (.bool false)], args := [d1, d2, d3] }
  | _ => none }
def ScanNestsWrongFalsely : Prop := scanNestsRow.holds Try.pinned (OpenSpec.ofChange scanNestsWrong)

/-- 'laceworklaw12.ScanDeep': WHATEVER THE INPUT: true; the input reads as it did. -/
def scanDeepSpec : ChangeSpec := { name := "scanDeep", fn := fun _ => fun
  | [d1, d2, d3] => { results := [.lit (.bool true)], args := [d1, d2, d3] }
  | _ => none }
def scanDeepRow : OpenClaim := { program := "ytegoephanphnkaa", sum := "55793eed35ecfd9b009bdd6f6e898cb765ccc6b60783181033f511733531becb", func := "lacework/laceworklaw12.ScanDeep", spec := "scanDeep", inPlace := ["internal/bytealg.IndexByteString"], apart := false }
def ScanDeepSaid : Prop := scanDeepRow.holds Try.pinned (OpenSpec.ofChange scanDeepSpec)

/-- ITS FALSE NEIGHBOUR: 'it returns false'. Refute it at one input. -/
def scanDeepWrong : ChangeSpec := { name := "scanDeep", fn := fun _ => fun
  | [d1, d2, d3] => { results := [.lit (.bool false)], args := [d1, d2, d3] }
  | _ => none }
def ScanDeepWrongFalsely : Prop := scanDeepRow.holds Try.pinned (OpenSpec.ofChange scanDeepWrong)

/-- 'laceworklaw12.ScanLarge': WHATEVER THE INPUT: true; the input reads as it did. -/
def scanLargeSpec : ChangeSpec := { name := "scanLarge", fn := fun _ => fun
  | [d1, d2] => { results := [.lit (.bool true)], args := [d1, d2] }
  | _ => none }
def scanLargeRow : OpenClaim := { program := "ytegoephanphnkaa", sum := "55793eed35ecfd9b009bdd6f6e898cb765ccc6b60783181033f511733531becb", func := "lacework/laceworklaw12.ScanLarge", spec := "scanLarge", inPlace := ["internal/bytealg.IndexByteString"], apart := false }
def ScanLargeSaid : Prop := scanLargeRow.holds Try.pinned (OpenSpec.ofChange scanLargeSpec)

/-- ITS FALSE NEIGHBOUR: 'it returns false'. Refute it at one input. -/
def scanLargeWrong : ChangeSpec := { name := "scanLarge", fn := fun _ => fun
  | [d1, d2] => { results := [.lit (.bool false)], args := [d1, d2] }
  | _ => none }
def ScanLargeWrongFalsely : Prop := scanLargeRow.holds Try.pinned (OpenSpec.ofChange scanLargeWrong)

/-- 'laceworklaw12.ScanBlanks': WHATEVER THE INPUT: true; the input reads as it did. -/
def scanBlanksSpec : ChangeSpec := { name := "scanBlanks", fn := fun _ => fun
  | [d1, d2, d3] => { results := [.lit (.bool true)], args := [d1, d2, d3] }
  | _ => none }
def scanBlanksRow : OpenClaim := { program := "ytegoephanphnkaa", sum := "55793eed35ecfd9b009bdd6f6e898cb765ccc6b60783181033f511733531becb", func := "lacework/laceworklaw12.ScanBlanks", spec := "scanBlanks", inPlace := ["internal/bytealg.IndexByteString"], apart := false }
def ScanBlanksSaid : Prop := scanBlanksRow.holds Try.pinned (OpenSpec.ofChange scanBlanksSpec)

/-- ITS FALSE NEIGHBOUR: 'it returns false'. Refute it at one input. -/
def scanBlanksWrong : ChangeSpec := { name := "scanBlanks", fn := fun _ => fun
  | [d1, d2, d3] => { results := [.lit (.bool false)], args := [d1, d2, d3] }
  | _ => none }
def ScanBlanksWrongFalsely : Prop := scanBlanksRow.holds Try.pinned (OpenSpec.ofChange scanBlanksWrong)

/-- 'laceworklaw24.SplitRecords': WHATEVER THE INPUT: true; the input reads as it did. -/
def splitRecordsSpec : ChangeSpec := { name := "splitRecords", fn := fun _ => fun
  | [d1, d2] => { results := [.lit (.bool true)], args := [d1, d2] }
  | _ => none }
def splitRecordsRow : OpenClaim := { program := "ytegoephanphnkaa", sum := "55793eed35ecfd9b009bdd6f6e898cb765ccc6b60783181033f511733531becb", func := "lacework/laceworklaw24.SplitRecords", spec := "splitRecords", inPlace := ["internal/bytealg.IndexByteString"], unfollowed := true, recurses := true, apart := false }
def SplitRecordsSaid : Prop := splitRecordsRow.holds Try.pinned (OpenSpec.ofChange splitRecordsSpec)

/-- ITS FALSE NEIGHBOUR: 'it returns false'. Refute it at one input. -/
def splitRecordsWrong : ChangeSpec := { name := "splitRecords", fn := fun _ => fun
  | [d1, d2] => { results := [.lit (.bool false)], args := [d1, d2] }
  | _ => none }
def SplitRecordsWrongFalsely : Prop := splitRecordsRow.holds Try.pinned (OpenSpec.ofChange splitRecordsWrong)

/-- 'laceworklaw24.SplitMany': WHATEVER THE INPUT: true; the input reads as it did. -/
def splitManySpec : ChangeSpec := { name := "splitMany", fn := fun _ => fun
  | [d1, d2] => { results := [.lit (.bool true)], args := [d1, d2] }
  | _ => none }
def splitManyRow : OpenClaim := { program := "ytegoephanphnkaa", sum := "55793eed35ecfd9b009bdd6f6e898cb765ccc6b60783181033f511733531becb", func := "lacework/laceworklaw24.SplitMany", spec := "splitMany", inPlace := ["internal/bytealg.IndexByteString"], unfollowed := true, recurses := true, apart := false }
def SplitManySaid : Prop := splitManyRow.holds Try.pinned (OpenSpec.ofChange splitManySpec)

/-- ITS FALSE NEIGHBOUR: 'it returns false'. Refute it at one input. -/
def splitManyWrong : ChangeSpec := { name := "splitMany", fn := fun _ => fun
  | [d1, d2] => { results := [.lit (.bool false)], args := [d1, d2] }
  | _ => none }
def SplitManyWrongFalsely : Prop := splitManyRow.holds Try.pinned (OpenSpec.ofChange splitManyWrong)

/-- 'laceworklaw24.SplitTwo': WHATEVER THE INPUT: true; the input reads as it did. -/
def splitTwoSpec : ChangeSpec := { name := "splitTwo", fn := fun _ => fun
  | [d1, d2] => { results := [.lit (.bool true)], args := [d1, d2] }
  | _ => none }
def splitTwoRow : OpenClaim := { program := "ytegoephanphnkaa", sum := "55793eed35ecfd9b009bdd6f6e898cb765ccc6b60783181033f511733531becb", func := "lacework/laceworklaw24.SplitTwo", spec := "splitTwo", inPlace := ["internal/bytealg.IndexByteString"], unfollowed := true, recurses := true, apart := false }
def SplitTwoSaid : Prop := splitTwoRow.holds Try.pinned (OpenSpec.ofChange splitTwoSpec)

/-- ITS FALSE NEIGHBOUR: 'it returns false'. Refute it at one input. -/
def splitTwoWrong : ChangeSpec := { name := "splitTwo", fn := fun _ => fun
  | [d1, d2] => { results := [.lit (.bool false)], args := [d1, d2] }
  | _ => none }
def SplitTwoWrongFalsely : Prop := splitTwoRow.holds Try.pinned (OpenSpec.ofChange splitTwoWrong)

/-- 'laceworklaw24.SplitBack': WHATEVER THE INPUT: true; the input reads as it did. -/
def splitBackSpec : ChangeSpec := { name := "splitBack", fn := fun _ => fun
  | [d1, d2] => { results := [.lit (.bool true)], args := [d1, d2] }
  | _ => none }
def splitBackRow : OpenClaim := { program := "ytegoephanphnkaa", sum := "55793eed35ecfd9b009bdd6f6e898cb765ccc6b60783181033f511733531becb", func := "lacework/laceworklaw24.SplitBack", spec := "splitBack", inPlace := ["internal/bytealg.IndexByteString"], unfollowed := true, recurses := true, apart := false }
def SplitBackSaid : Prop := splitBackRow.holds Try.pinned (OpenSpec.ofChange splitBackSpec)

/-- ITS FALSE NEIGHBOUR: 'it returns false'. Refute it at one input. -/
def splitBackWrong : ChangeSpec := { name := "splitBack", fn := fun _ => fun
  | [d1, d2] => { results := [.lit (.bool false)], args := [d1, d2] }
  | _ => none }
def SplitBackWrongFalsely : Prop := splitBackRow.holds Try.pinned (OpenSpec.ofChange splitBackWrong)

/-- 'laceworklaw24.SplitText': WHATEVER THE INPUT: true; the input reads as it did. -/
def splitTextSpec : ChangeSpec := { name := "splitText", fn := fun _ => fun
  | [d1, d2, d3] => { results := [.lit (.bool true)], args := [d1, d2, d3] }
  | _ => none }
def splitTextRow : OpenClaim := { program := "ytegoephanphnkaa", sum := "55793eed35ecfd9b009bdd6f6e898cb765ccc6b60783181033f511733531becb", func := "lacework/laceworklaw24.SplitText", spec := "splitText", inPlace := ["internal/bytealg.IndexByteString"], unfollowed := true, recurses := true, apart := false }
def SplitTextSaid : Prop := splitTextRow.holds Try.pinned (OpenSpec.ofChange splitTextSpec)

/-- ITS FALSE NEIGHBOUR: 'it returns false'. Refute it at one input. -/
def splitTextWrong : ChangeSpec := { name := "splitText", fn := fun _ => fun
  | [d1, d2, d3] => { results := [.lit (.bool false)], args := [d1, d2, d3] }
  | _ => none }
def SplitTextWrongFalsely : Prop := splitTextRow.holds Try.pinned (OpenSpec.ofChange splitTextWrong)

/- THE SECOND FORM. 'bulk': how many values and letters a reading holds, each counted each time it is reached (what is shared counts as often as it is met; a slice's spare places count too). A statement '..UptoSaid' is the law's where the arguments, and the package variables that the reading takes, are together of bulk at most 1048576: NARROWER than '..Said'. Prove '..Said' where nothing that the law and all that it calls make is longer than what came in: it says more and counts as full. Else prove '..UptoSaid'. A law counts once. -/
mutual
def uptoBulk {H : Type} : DataW H → Nat
  | .lit (.string bytes) => bytes.length + 1
  | .lit _ => 1
  | .nil => 1
  | .ptr d => uptoBulk d + 1
  | .slice elems spare => uptoBulkAll elems + uptoBulkAll spare + 1
  | .agg parts => uptoBulkAll parts + 1
  | .iface _ d => uptoBulk d + 1
  | .map entries => uptoBulkEntries entries + 1
  | .held _ => 1
def uptoBulkAll {H : Type} : List (DataW H) → Nat
  | [] => 0
  | d :: r => uptoBulk d + uptoBulkAll r
def uptoBulkEntries {H : Type} : List (Lit × DataW H) → Nat
  | [] => 0
  | x :: r => uptoBulkEntry x + uptoBulkEntries r
def uptoBulkEntry {H : Type} : Lit × DataW H → Nat
  | (.string bytes, d) => bytes.length + uptoBulk d + 1
  | (_, d) => uptoBulk d + 1
 end
def uptoSmall : (H : Type) → List (DataW H) → Bool := fun _ ds => decide (uptoBulkAll ds ≤ 1048576)
def OpenSpec.upto (s : _root_.Go.ChangeSpec) : _root_.Go.OpenSpec := { _root_.Go.OpenSpec.ofChange s with cond := some uptoSmall }

/-- 'laceworklaw12.ScanValidates', WHERE WHAT IT READS IS OF BULK AT MOST 1048576: true; the input reads as it did. -/
def scanValidatesUptoRow : OpenClaim := { program := "ytegoephanphnkaa", sum := "55793eed35ecfd9b009bdd6f6e898cb765ccc6b60783181033f511733531becb", func := "lacework/laceworklaw12.ScanValidates", spec := "scanValidates", inPlace := ["internal/bytealg.IndexByteString"], recurses := true, apart := false, narrowed := true }
def ScanValidatesUptoSaid : Prop := scanValidatesUptoRow.holds Try.pinned (OpenSpec.upto scanValidatesSpec)

/-- 'laceworklaw12.ScanAlive', WHERE WHAT IT READS IS OF BULK AT MOST 1048576: true; the input reads as it did. -/
def scanAliveUptoRow : OpenClaim := { program := "ytegoephanphnkaa", sum := "55793eed35ecfd9b009bdd6f6e898cb765ccc6b60783181033f511733531becb", func := "lacework/laceworklaw12.ScanAlive", spec := "scanAlive", inPlace := ["internal/bytealg.IndexByteString"], apart := false, narrowed := true }
def ScanAliveUptoSaid : Prop := scanAliveUptoRow.holds Try.pinned (OpenSpec.upto scanAliveSpec)

/-- 'laceworklaw12.ScanNests', WHERE WHAT IT READS IS OF BULK AT MOST 1048576: true; the input reads as it did. -/
def scanNestsUptoRow : OpenClaim := { program := "ytegoephanphnkaa", sum := "55793eed35ecfd9b009bdd6f6e898cb765ccc6b60783181033f511733531becb", func := "lacework/laceworklaw12.ScanNests", spec := "scanNests", inPlace := ["internal/bytealg.IndexByteString"], apart := false, narrowed := true }
def ScanNestsUptoSaid : Prop := scanNestsUptoRow.holds Try.pinned (OpenSpec.upto scanNestsSpec)

/-- 'laceworklaw12.ScanDeep', WHERE WHAT IT READS IS OF BULK AT MOST 1048576: true; the input reads as it did. -/
def scanDeepUptoRow : OpenClaim := { program := "ytegoephanphnkaa", sum := "55793eed35ecfd9b009bdd6f6e898cb765ccc6b60783181033f511733531becb", func := "lacework/laceworklaw12.ScanDeep", spec := "scanDeep", inPlace := ["internal/bytealg.IndexByteString"], apart := false, narrowed := true }
def ScanDeepUptoSaid : Prop := scanDeepUptoRow.holds Try.pinned (OpenSpec.upto scanDeepSpec)

/-- 'laceworklaw12.ScanLarge', WHERE WHAT IT READS IS OF BULK AT MOST 1048576: true; the input reads as it did. -/
def scanLargeUptoRow : OpenClaim := { program := "ytegoephanphnkaa", sum := "55793eed35ecfd9b009bdd6f6e898cb765ccc6b60783181033f511733531becb", func := "lacework/laceworklaw12.ScanLarge", spec := "scanLarge", inPlace := ["internal/bytealg.IndexByteString"], apart := false, narrowed := true }
def ScanLargeUptoSaid : Prop := scanLargeUptoRow.holds Try.pinned (OpenSpec.upto scanLargeSpec)

/-- 'laceworklaw12.ScanBlanks', WHERE WHAT IT READS IS OF BULK AT MOST 1048576: true; the input reads as it did. -/
def scanBlanksUptoRow : OpenClaim := { program := "ytegoephanphnkaa", sum := "55793eed35ecfd9b009bdd6f6e898cb765ccc6b60783181033f511733531becb", func := "lacework/laceworklaw12.ScanBlanks", spec := "scanBlanks", inPlace := ["internal/bytealg.IndexByteString"], apart := false, narrowed := true }
def ScanBlanksUptoSaid : Prop := scanBlanksUptoRow.holds Try.pinned (OpenSpec.upto scanBlanksSpec)

/-- 'laceworklaw24.SplitRecords', WHERE WHAT IT READS IS OF BULK AT MOST 1048576: true; the input reads as it did. -/
def splitRecordsUptoRow : OpenClaim := { program := "ytegoephanphnkaa", sum := "55793eed35ecfd9b009bdd6f6e898cb765ccc6b60783181033f511733531becb", func := "lacework/laceworklaw24.SplitRecords", spec := "splitRecords", inPlace := ["internal/bytealg.IndexByteString"], unfollowed := true, recurses := true, apart := false, narrowed := true }
def SplitRecordsUptoSaid : Prop := splitRecordsUptoRow.holds Try.pinned (OpenSpec.upto splitRecordsSpec)

/-- 'laceworklaw24.SplitMany', WHERE WHAT IT READS IS OF BULK AT MOST 1048576: true; the input reads as it did. -/
def splitManyUptoRow : OpenClaim := { program := "ytegoephanphnkaa", sum := "55793eed35ecfd9b009bdd6f6e898cb765ccc6b60783181033f511733531becb", func := "lacework/laceworklaw24.SplitMany", spec := "splitMany", inPlace := ["internal/bytealg.IndexByteString"], unfollowed := true, recurses := true, apart := false, narrowed := true }
def SplitManyUptoSaid : Prop := splitManyUptoRow.holds Try.pinned (OpenSpec.upto splitManySpec)

/-- 'laceworklaw24.SplitTwo', WHERE WHAT IT READS IS OF BULK AT MOST 1048576: true; the input reads as it did. -/
def splitTwoUptoRow : OpenClaim := { program := "ytegoephanphnkaa", sum := "55793eed35ecfd9b009bdd6f6e898cb765ccc6b60783181033f511733531becb", func := "lacework/laceworklaw24.SplitTwo", spec := "splitTwo", inPlace := ["internal/bytealg.IndexByteString"], unfollowed := true, recurses := true, apart := false, narrowed := true }
def SplitTwoUptoSaid : Prop := splitTwoUptoRow.holds Try.pinned (OpenSpec.upto splitTwoSpec)

/-- 'laceworklaw24.SplitBack', WHERE WHAT IT READS IS OF BULK AT MOST 1048576: true; the input reads as it did. -/
def splitBackUptoRow : OpenClaim := { program := "ytegoephanphnkaa", sum := "55793eed35ecfd9b009bdd6f6e898cb765ccc6b60783181033f511733531becb", func := "lacework/laceworklaw24.SplitBack", spec := "splitBack", inPlace := ["internal/bytealg.IndexByteString"], unfollowed := true, recurses := true, apart := false, narrowed := true }
def SplitBackUptoSaid : Prop := splitBackUptoRow.holds Try.pinned (OpenSpec.upto splitBackSpec)

/-- 'laceworklaw24.SplitText', WHERE WHAT IT READS IS OF BULK AT MOST 1048576: true; the input reads as it did. -/
def splitTextUptoRow : OpenClaim := { program := "ytegoephanphnkaa", sum := "55793eed35ecfd9b009bdd6f6e898cb765ccc6b60783181033f511733531becb", func := "lacework/laceworklaw24.SplitText", spec := "splitText", inPlace := ["internal/bytealg.IndexByteString"], unfollowed := true, recurses := true, apart := false, narrowed := true }
def SplitTextUptoSaid : Prop := splitTextUptoRow.holds Try.pinned (OpenSpec.upto splitTextSpec)

end Rows
end Go.Proofs.Ytegoephanphnkaa
