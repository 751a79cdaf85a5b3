/-
  NARROWER THAN 'FOR EVERY INPUT', by the rows' own cells (each row's printed sentence says how): WordFields: laid · WordReach: laid · WordFinds: laid · WordCounts: laid · WordParts: laid · WordEach: laid · ChooseLong: laid · ChooseEach: laid · ChooseTurned: laid · ChooseFinds: laid.
  DERIVED. THE GIVEN ROWS OF THIS SEAT. 10 by the template 'for every input the law returns true; each argument reads behind the call as it read before'; 0 by the template 'total and deterministic' (their statements: YtdhokioiloggeaaDoorTotals.lean).
  GIVEN WITH THE SEED: the statements are not yours to turn. If you find one false, say at which input.
  Laid BY PROGRAM, IN A SANDBOX (cutbox-rows.mjs): the forced cells as the released guide's own fill.sh prints them over the translation 4f5f6d91d0d42d62… (all of the seat's roots in one cut). By AI agents, Wed Nov 11 2026. No macro, syntax, notation, axiom, sorry.
-/
import Derived.Test.YtdhokioiloggeaaDoorChecked
import GoSem.Claim
import GoSem.ClaimJoined
import GoSem.ClaimMapViews
import Derived.JoinedTies
import Derived.KernelRfl
namespace Go.Proofs.YtdhokioiloggeaaDoor
/- THE CELL 'sum', in the pinned program and in every row, IS THE sha256 OF THE DUMP (.gsa) THAT YtdhokioiloggeaaDoorProg.lean LOADS. Nothing in Lean hashes anything: it is a label: what it is worth is what the hold of that sum in a sandbox is worth. -/
noncomputable def Tryd.pinned : Pinned := { name := "ytdhokioiloggeaadoor", sum := "4f5f6d91d0d42d62bd04b962cb22bfa6582f62cdc4258ecfd67a5c67c13b7291", checked := Tryd.checked }
namespace Rows
def none {H : Type} : Left H := { results := [], args := [] }

/- WHAT THE LISTED PACKAGE-LEVEL VARIABLES READ AS WHEN THE CALL BEGINS. Each datum BY PROGRAM (the guide's laid-datum.mjs) off the statement by which the dump's own 'gosem.cut.vars' lays the variable. In a bare row this is a premise. The card (YtdhokioiloggeaaDoorCards.lean) ties it to the program's text. -/
def laid_math_bits_deBruijn64tab {H : Type} : DataW H := .agg [.lit (.int .u8 0), .lit (.int .u8 1), .lit (.int .u8 56), .lit (.int .u8 2), .lit (.int .u8 57), .lit (.int .u8 49), .lit (.int .u8 28), .lit (.int .u8 3), .lit (.int .u8 61), .lit (.int .u8 58), .lit (.int .u8 42), .lit (.int .u8 50), .lit (.int .u8 38), .lit (.int .u8 29), .lit (.int .u8 17), .lit (.int .u8 4), .lit (.int .u8 62), .lit (.int .u8 47), .lit (.int .u8 59), .lit (.int .u8 36), .lit (.int .u8 45), .lit (.int .u8 43), .lit (.int .u8 51), .lit (.int .u8 22), .lit (.int .u8 53), .lit (.int .u8 39), .lit (.int .u8 33), .lit (.int .u8 30), .lit (.int .u8 24), .lit (.int .u8 18), .lit (.int .u8 12), .lit (.int .u8 5), .lit (.int .u8 63), .lit (.int .u8 55), .lit (.int .u8 48), .lit (.int .u8 27), .lit (.int .u8 60), .lit (.int .u8 41), .lit (.int .u8 37), .lit (.int .u8 16), .lit (.int .u8 46), .lit (.int .u8 35), .lit (.int .u8 44), .lit (.int .u8 21), .lit (.int .u8 52), .lit (.int .u8 32), .lit (.int .u8 23), .lit (.int .u8 11), .lit (.int .u8 54), .lit (.int .u8 26), .lit (.int .u8 40), .lit (.int .u8 15), .lit (.int .u8 34), .lit (.int .u8 20), .lit (.int .u8 31), .lit (.int .u8 10), .lit (.int .u8 25), .lit (.int .u8 14), .lit (.int .u8 19), .lit (.int .u8 9), .lit (.int .u8 13), .lit (.int .u8 8), .lit (.int .u8 7), .lit (.int .u8 6)]

/-- 'laceworklaw01.WordFields': WHATEVER THE INPUT: true; the input reads as it did. -/
def wordFieldsSpec : ChangeSpec := { name := "wordFields", fn := fun _ => fun
  | [d1, d2, d3] => { results := [.lit (.bool true)], args := [d1, d2, d3] }
  | _ => none }
def wordFieldsRow : OpenClaim := { program := "ytdhokioiloggeaadoor", sum := "4f5f6d91d0d42d62bd04b962cb22bfa6582f62cdc4258ecfd67a5c67c13b7291", func := "lacework/laceworklaw01.WordFields", spec := "wordFields", named := ["math/bits.deBruijn64tab"], apart := false, laid := [("math/bits.deBruijn64tab", laid_math_bits_deBruijn64tab)] }
def WordFieldsSaid : Prop := wordFieldsRow.holds Tryd.pinned (OpenSpec.ofChange wordFieldsSpec)

/-- ITS FALSE NEIGHBOUR: 'it returns false'. Refute it at one input. -/
def wordFieldsWrong : ChangeSpec := { name := "wordFields", fn := fun _ => fun
  | [d1, d2, d3] => { results := [.lit (.bool false)], args := [d1, d2, d3] }
  | _ => none }
def WordFieldsWrongFalsely : Prop := wordFieldsRow.holds Tryd.pinned (OpenSpec.ofChange wordFieldsWrong)

/-- 'laceworklaw01.WordReach': WHATEVER THE INPUT: true; the input reads as it did. -/
def wordReachSpec : ChangeSpec := { name := "wordReach", fn := fun _ => fun
  | [d1, d2] => { results := [.lit (.bool true)], args := [d1, d2] }
  | _ => none }
def wordReachRow : OpenClaim := { program := "ytdhokioiloggeaadoor", sum := "4f5f6d91d0d42d62bd04b962cb22bfa6582f62cdc4258ecfd67a5c67c13b7291", func := "lacework/laceworklaw01.WordReach", spec := "wordReach", named := ["math/bits.deBruijn64tab"], apart := false, laid := [("math/bits.deBruijn64tab", laid_math_bits_deBruijn64tab)] }
def WordReachSaid : Prop := wordReachRow.holds Tryd.pinned (OpenSpec.ofChange wordReachSpec)

/-- ITS FALSE NEIGHBOUR: 'it returns false'. Refute it at one input. -/
def wordReachWrong : ChangeSpec := { name := "wordReach", fn := fun _ => fun
  | [d1, d2] => { results := [.lit (.bool false)], args := [d1, d2] }
  | _ => none }
def WordReachWrongFalsely : Prop := wordReachRow.holds Tryd.pinned (OpenSpec.ofChange wordReachWrong)

/-- 'laceworklaw01.WordFinds': WHATEVER THE INPUT: true; the input reads as it did. -/
def wordFindsSpec : ChangeSpec := { name := "wordFinds", fn := fun _ => fun
  | [d1, d2, d3] => { results := [.lit (.bool true)], args := [d1, d2, d3] }
  | _ => none }
def wordFindsRow : OpenClaim := { program := "ytdhokioiloggeaadoor", sum := "4f5f6d91d0d42d62bd04b962cb22bfa6582f62cdc4258ecfd67a5c67c13b7291", func := "lacework/laceworklaw01.WordFinds", spec := "wordFinds", named := ["math/bits.deBruijn64tab"], apart := false, laid := [("math/bits.deBruijn64tab", laid_math_bits_deBruijn64tab)] }
def WordFindsSaid : Prop := wordFindsRow.holds Tryd.pinned (OpenSpec.ofChange wordFindsSpec)

/-- ITS FALSE NEIGHBOUR: 'it returns false'. Refute it at one input. -/
def wordFindsWrong : ChangeSpec := { name := "wordFinds", fn := fun _ => fun
  | [d1, d2, d3] => { results := [.lit (.bool false)], args := [d1, d2, d3] }
  | _ => none }
def WordFindsWrongFalsely : Prop := wordFindsRow.holds Tryd.pinned (OpenSpec.ofChange wordFindsWrong)

/-- 'laceworklaw01.WordCounts': WHATEVER THE INPUT: true; the input reads as it did. -/
def wordCountsSpec : ChangeSpec := { name := "wordCounts", fn := fun _ => fun
  | [d1, d2, d3] => { results := [.lit (.bool true)], args := [d1, d2, d3] }
  | _ => none }
def wordCountsRow : OpenClaim := { program := "ytdhokioiloggeaadoor", sum := "4f5f6d91d0d42d62bd04b962cb22bfa6582f62cdc4258ecfd67a5c67c13b7291", func := "lacework/laceworklaw01.WordCounts", spec := "wordCounts", named := ["math/bits.deBruijn64tab"], apart := false, laid := [("math/bits.deBruijn64tab", laid_math_bits_deBruijn64tab)] }
def WordCountsSaid : Prop := wordCountsRow.holds Tryd.pinned (OpenSpec.ofChange wordCountsSpec)

/-- ITS FALSE NEIGHBOUR: 'it returns false'. Refute it at one input. -/
def wordCountsWrong : ChangeSpec := { name := "wordCounts", fn := fun _ => fun
  | [d1, d2, d3] => { results := [.lit (.bool false)], args := [d1, d2, d3] }
  | _ => none }
def WordCountsWrongFalsely : Prop := wordCountsRow.holds Tryd.pinned (OpenSpec.ofChange wordCountsWrong)

/-- 'laceworklaw01.WordParts': WHATEVER THE INPUT: true; the input reads as it did. -/
def wordPartsSpec : ChangeSpec := { name := "wordParts", fn := fun _ => fun
  | [d1, d2] => { results := [.lit (.bool true)], args := [d1, d2] }
  | _ => none }
def wordPartsRow : OpenClaim := { program := "ytdhokioiloggeaadoor", sum := "4f5f6d91d0d42d62bd04b962cb22bfa6582f62cdc4258ecfd67a5c67c13b7291", func := "lacework/laceworklaw01.WordParts", spec := "wordParts", named := ["math/bits.deBruijn64tab"], apart := false, laid := [("math/bits.deBruijn64tab", laid_math_bits_deBruijn64tab)] }
def WordPartsSaid : Prop := wordPartsRow.holds Tryd.pinned (OpenSpec.ofChange wordPartsSpec)

/-- ITS FALSE NEIGHBOUR: 'it returns false'. Refute it at one input. -/
def wordPartsWrong : ChangeSpec := { name := "wordParts", fn := fun _ => fun
  | [d1, d2] => { results := [.lit (.bool false)], args := [d1, d2] }
  | _ => none }
def WordPartsWrongFalsely : Prop := wordPartsRow.holds Tryd.pinned (OpenSpec.ofChange wordPartsWrong)

/-- 'laceworklaw01.WordEach': WHATEVER THE INPUT: true; the input reads as it did. -/
def wordEachSpec : ChangeSpec := { name := "wordEach", fn := fun _ => fun
  | [d1, d2] => { results := [.lit (.bool true)], args := [d1, d2] }
  | _ => none }
def wordEachRow : OpenClaim := { program := "ytdhokioiloggeaadoor", sum := "4f5f6d91d0d42d62bd04b962cb22bfa6582f62cdc4258ecfd67a5c67c13b7291", func := "lacework/laceworklaw01.WordEach", spec := "wordEach", named := ["math/bits.deBruijn64tab"], apart := false, laid := [("math/bits.deBruijn64tab", laid_math_bits_deBruijn64tab)] }
def WordEachSaid : Prop := wordEachRow.holds Tryd.pinned (OpenSpec.ofChange wordEachSpec)

/-- ITS FALSE NEIGHBOUR: 'it returns false'. Refute it at one input. -/
def wordEachWrong : ChangeSpec := { name := "wordEach", fn := fun _ => fun
  | [d1, d2] => { results := [.lit (.bool false)], args := [d1, d2] }
  | _ => none }
def WordEachWrongFalsely : Prop := wordEachRow.holds Tryd.pinned (OpenSpec.ofChange wordEachWrong)

/-- 'laceworklaw04.ChooseLong': WHATEVER THE INPUT: true; the input reads as it did. -/
def chooseLongSpec : ChangeSpec := { name := "chooseLong", fn := fun _ => fun
  | [d1, d2, d3] => { results := [.lit (.bool true)], args := [d1, d2, d3] }
  | _ => none }
def chooseLongRow : OpenClaim := { program := "ytdhokioiloggeaadoor", sum := "4f5f6d91d0d42d62bd04b962cb22bfa6582f62cdc4258ecfd67a5c67c13b7291", func := "lacework/laceworklaw04.ChooseLong", spec := "chooseLong", unfollowed := true, recurses := true, named := ["math/bits.deBruijn64tab"], apart := false, laid := [("math/bits.deBruijn64tab", laid_math_bits_deBruijn64tab)] }
def ChooseLongSaid : Prop := chooseLongRow.holds Tryd.pinned (OpenSpec.ofChange chooseLongSpec)

/-- ITS FALSE NEIGHBOUR: 'it returns false'. Refute it at one input. -/
def chooseLongWrong : ChangeSpec := { name := "chooseLong", fn := fun _ => fun
  | [d1, d2, d3] => { results := [.lit (.bool false)], args := [d1, d2, d3] }
  | _ => none }
def ChooseLongWrongFalsely : Prop := chooseLongRow.holds Tryd.pinned (OpenSpec.ofChange chooseLongWrong)

/-- 'laceworklaw04.ChooseEach': WHATEVER THE INPUT: true; the input reads as it did. -/
def chooseEachSpec : ChangeSpec := { name := "chooseEach", fn := fun _ => fun
  | [d] => { results := [.lit (.bool true)], args := [d] }
  | _ => none }
def chooseEachRow : OpenClaim := { program := "ytdhokioiloggeaadoor", sum := "4f5f6d91d0d42d62bd04b962cb22bfa6582f62cdc4258ecfd67a5c67c13b7291", func := "lacework/laceworklaw04.ChooseEach", spec := "chooseEach", unfollowed := true, recurses := true, named := ["math/bits.deBruijn64tab"], apart := false, laid := [("math/bits.deBruijn64tab", laid_math_bits_deBruijn64tab)] }
def ChooseEachSaid : Prop := chooseEachRow.holds Tryd.pinned (OpenSpec.ofChange chooseEachSpec)

/-- ITS FALSE NEIGHBOUR: 'it returns false'. Refute it at one input. -/
def chooseEachWrong : ChangeSpec := { name := "chooseEach", fn := fun _ => fun
  | [d] => { results := [.lit (.bool false)], args := [d] }
  | _ => none }
def ChooseEachWrongFalsely : Prop := chooseEachRow.holds Tryd.pinned (OpenSpec.ofChange chooseEachWrong)

/-- 'laceworklaw04.ChooseTurned': WHATEVER THE INPUT: true; the input reads as it did. -/
def chooseTurnedSpec : ChangeSpec := { name := "chooseTurned", fn := fun _ => fun
  | [d1, d2] => { results := [.lit (.bool true)], args := [d1, d2] }
  | _ => none }
def chooseTurnedRow : OpenClaim := { program := "ytdhokioiloggeaadoor", sum := "4f5f6d91d0d42d62bd04b962cb22bfa6582f62cdc4258ecfd67a5c67c13b7291", func := "lacework/laceworklaw04.ChooseTurned", spec := "chooseTurned", unfollowed := true, recurses := true, named := ["math/bits.deBruijn64tab"], apart := false, laid := [("math/bits.deBruijn64tab", laid_math_bits_deBruijn64tab)] }
def ChooseTurnedSaid : Prop := chooseTurnedRow.holds Tryd.pinned (OpenSpec.ofChange chooseTurnedSpec)

/-- ITS FALSE NEIGHBOUR: 'it returns false'. Refute it at one input. -/
def chooseTurnedWrong : ChangeSpec := { name := "chooseTurned", fn := fun _ => fun
  | [d1, d2] => { results := [.lit (.bool false)], args := [d1, d2] }
  | _ => none }
def ChooseTurnedWrongFalsely : Prop := chooseTurnedRow.holds Tryd.pinned (OpenSpec.ofChange chooseTurnedWrong)

/-- 'laceworklaw04.ChooseFinds': WHATEVER THE INPUT: true; the input reads as it did. -/
def chooseFindsSpec : ChangeSpec := { name := "chooseFinds", fn := fun _ => fun
  | [d1, d2] => { results := [.lit (.bool true)], args := [d1, d2] }
  | _ => none }
def chooseFindsRow : OpenClaim := { program := "ytdhokioiloggeaadoor", sum := "4f5f6d91d0d42d62bd04b962cb22bfa6582f62cdc4258ecfd67a5c67c13b7291", func := "lacework/laceworklaw04.ChooseFinds", spec := "chooseFinds", unfollowed := true, recurses := true, named := ["math/bits.deBruijn64tab"], apart := false, laid := [("math/bits.deBruijn64tab", laid_math_bits_deBruijn64tab)] }
def ChooseFindsSaid : Prop := chooseFindsRow.holds Tryd.pinned (OpenSpec.ofChange chooseFindsSpec)

/-- ITS FALSE NEIGHBOUR: 'it returns false'. Refute it at one input. -/
def chooseFindsWrong : ChangeSpec := { name := "chooseFinds", fn := fun _ => fun
  | [d1, d2] => { results := [.lit (.bool false)], args := [d1, d2] }
  | _ => none }
def ChooseFindsWrongFalsely : Prop := chooseFindsRow.holds Tryd.pinned (OpenSpec.ofChange chooseFindsWrong)

/- THE SECOND FORM. 'bulk': how many values and letters a reading holds, each counted each time it is reached (what is shared counts as often as it is met; a slice's spare places count too). A statement '..UptoSaid' is the law's where the arguments, and the package variables that the reading takes, are together of bulk at most 1048576: NARROWER than '..Said'. Prove '..Said' where nothing that the law and all that it calls make is longer than what came in: it says more and counts as full. Else prove '..UptoSaid'. A law counts once. -/
mutual
def uptoBulk {H : Type} : DataW H → Nat
  | .lit (.string bytes) => bytes.length + 1
  | .lit _ => 1
  | .nil => 1
  | .ptr d => uptoBulk d + 1
  | .slice elems spare => uptoBulkAll elems + uptoBulkAll spare + 1
  | .agg parts => uptoBulkAll parts + 1
  | .iface _ d => uptoBulk d + 1
  | .map entries => uptoBulkEntries entries + 1
  | .held _ => 1
def uptoBulkAll {H : Type} : List (DataW H) → Nat
  | [] => 0
  | d :: r => uptoBulk d + uptoBulkAll r
def uptoBulkEntries {H : Type} : List (Lit × DataW H) → Nat
  | [] => 0
  | x :: r => uptoBulkEntry x + uptoBulkEntries r
def uptoBulkEntry {H : Type} : Lit × DataW H → Nat
  | (.string bytes, d) => bytes.length + uptoBulk d + 1
  | (_, d) => uptoBulk d + 1
 end
def uptoSmall : (H : Type) → List (DataW H) → Bool := fun _ ds => decide (uptoBulkAll ds ≤ 1048576)
def OpenSpec.upto (s : _root_.Go.ChangeSpec) : _root_.Go.OpenSpec := { _root_.Go.OpenSpec.ofChange s with cond := some uptoSmall }

/-- 'laceworklaw01.WordFields', WHERE WHAT IT READS IS OF BULK AT MOST 1048576: true; the input reads as it did. -/
def wordFieldsUptoRow : OpenClaim := { program := "ytdhokioiloggeaadoor", sum := "4f5f6d91d0d42d62bd04b962cb22bfa6582f62cdc4258ecfd67a5c67c13b7291", func := "lacework/laceworklaw01.WordFields", spec := "wordFields", named := ["math/bits.deBruijn64tab"], apart := false, laid := [("math/bits.deBruijn64tab", laid_math_bits_deBruijn64tab)], narrowed := true }
def WordFieldsUptoSaid : Prop := wordFieldsUptoRow.holds Tryd.pinned (OpenSpec.upto wordFieldsSpec)

/-- 'laceworklaw01.WordReach', WHERE WHAT IT READS IS OF BULK AT MOST 1048576: true; the input reads as it did. -/
def wordReachUptoRow : OpenClaim := { program := "ytdhokioiloggeaadoor", sum := "4f5f6d91d0d42d62bd04b962cb22bfa6582f62cdc4258ecfd67a5c67c13b7291", func := "lacework/laceworklaw01.WordReach", spec := "wordReach", named := ["math/bits.deBruijn64tab"], apart := false, laid := [("math/bits.deBruijn64tab", laid_math_bits_deBruijn64tab)], narrowed := true }
def WordReachUptoSaid : Prop := wordReachUptoRow.holds Tryd.pinned (OpenSpec.upto wordReachSpec)

/-- 'laceworklaw01.WordFinds', WHERE WHAT IT READS IS OF BULK AT MOST 1048576: true; the input reads as it did. -/
def wordFindsUptoRow : OpenClaim := { program := "ytdhokioiloggeaadoor", sum := "4f5f6d91d0d42d62bd04b962cb22bfa6582f62cdc4258ecfd67a5c67c13b7291", func := "lacework/laceworklaw01.WordFinds", spec := "wordFinds", named := ["math/bits.deBruijn64tab"], apart := false, laid := [("math/bits.deBruijn64tab", laid_math_bits_deBruijn64tab)], narrowed := true }
def WordFindsUptoSaid : Prop := wordFindsUptoRow.holds Tryd.pinned (OpenSpec.upto wordFindsSpec)

/-- 'laceworklaw01.WordCounts', WHERE WHAT IT READS IS OF BULK AT MOST 1048576: true; the input reads as it did. -/
def wordCountsUptoRow : OpenClaim := { program := "ytdhokioiloggeaadoor", sum := "4f5f6d91d0d42d62bd04b962cb22bfa6582f62cdc4258ecfd67a5c67c13b7291", func := "lacework/laceworklaw01.WordCounts", spec := "wordCounts", named := ["math/bits.deBruijn64tab"], apart := false, laid := [("math/bits.deBruijn64tab", laid_math_bits_deBruijn64tab)], narrowed := true }
def WordCountsUptoSaid : Prop := wordCountsUptoRow.holds Tryd.pinned (OpenSpec.upto wordCountsSpec)

/-- 'laceworklaw01.WordParts', WHERE WHAT IT READS IS OF BULK AT MOST 1048576: true; the input reads as it did. -/
def wordPartsUptoRow : OpenClaim := { program := "ytdhokioiloggeaadoor", sum := "4f5f6d91d0d42d62bd04b962cb22bfa6582f62cdc4258ecfd67a5c67c13b7291", func := "lacework/laceworklaw01.WordParts", spec := "wordParts", named := ["math/bits.deBruijn64tab"], apart := false, laid := [("math/bits.deBruijn64tab", laid_math_bits_deBruijn64tab)], narrowed := true }
def WordPartsUptoSaid : Prop := wordPartsUptoRow.holds Tryd.pinned (OpenSpec.upto wordPartsSpec)

/-- 'laceworklaw01.WordEach', WHERE WHAT IT READS IS OF BULK AT MOST 1048576: true; the input reads as it did. -/
def wordEachUptoRow : OpenClaim := { program := "ytdhokioiloggeaadoor", sum := "4f5f6d91d0d42d62bd04b962cb22bfa6582f62cdc4258ecfd67a5c67c13b7291", func := "lacework/laceworklaw01.WordEach", spec := "wordEach", named := ["math/bits.deBruijn64tab"], apart := false, laid := [("math/bits.deBruijn64tab", laid_math_bits_deBruijn64tab)], narrowed := true }
def WordEachUptoSaid : Prop := wordEachUptoRow.holds Tryd.pinned (OpenSpec.upto wordEachSpec)

/-- 'laceworklaw04.ChooseLong', WHERE WHAT IT READS IS OF BULK AT MOST 1048576: true; the input reads as it did. -/
def chooseLongUptoRow : OpenClaim := { program := "ytdhokioiloggeaadoor", sum := "4f5f6d91d0d42d62bd04b962cb22bfa6582f62cdc4258ecfd67a5c67c13b7291", func := "lacework/laceworklaw04.ChooseLong", spec := "chooseLong", unfollowed := true, recurses := true, named := ["math/bits.deBruijn64tab"], apart := false, laid := [("math/bits.deBruijn64tab", laid_math_bits_deBruijn64tab)], narrowed := true }
def ChooseLongUptoSaid : Prop := chooseLongUptoRow.holds Tryd.pinned (OpenSpec.upto chooseLongSpec)

/-- 'laceworklaw04.ChooseEach', WHERE WHAT IT READS IS OF BULK AT MOST 1048576: true; the input reads as it did. -/
def chooseEachUptoRow : OpenClaim := { program := "ytdhokioiloggeaadoor", sum := "4f5f6d91d0d42d62bd04b962cb22bfa6582f62cdc4258ecfd67a5c67c13b7291", func := "lacework/laceworklaw04.ChooseEach", spec := "chooseEach", unfollowed := true, recurses := true, named := ["math/bits.deBruijn64tab"], apart := false, laid := [("math/bits.deBruijn64tab", laid_math_bits_deBruijn64tab)], narrowed := true }
def ChooseEachUptoSaid : Prop := chooseEachUptoRow.holds Tryd.pinned (OpenSpec.upto chooseEachSpec)

/-- 'laceworklaw04.ChooseTurned', WHERE WHAT IT READS IS OF BULK AT MOST 1048576: true; the input reads as it did. -/
def chooseTurnedUptoRow : OpenClaim := { program := "ytdhokioiloggeaadoor", sum := "4f5f6d91d0d42d62bd04b962cb22bfa6582f62cdc4258ecfd67a5c67c13b7291", func := "lacework/laceworklaw04.ChooseTurned", spec := "chooseTurned", unfollowed := true, recurses := true, named := ["math/bits.deBruijn64tab"], apart := false, laid := [("math/bits.deBruijn64tab", laid_math_bits_deBruijn64tab)], narrowed := true }
def ChooseTurnedUptoSaid : Prop := chooseTurnedUptoRow.holds Tryd.pinned (OpenSpec.upto chooseTurnedSpec)

/-- 'laceworklaw04.ChooseFinds', WHERE WHAT IT READS IS OF BULK AT MOST 1048576: true; the input reads as it did. -/
def chooseFindsUptoRow : OpenClaim := { program := "ytdhokioiloggeaadoor", sum := "4f5f6d91d0d42d62bd04b962cb22bfa6582f62cdc4258ecfd67a5c67c13b7291", func := "lacework/laceworklaw04.ChooseFinds", spec := "chooseFinds", unfollowed := true, recurses := true, named := ["math/bits.deBruijn64tab"], apart := false, laid := [("math/bits.deBruijn64tab", laid_math_bits_deBruijn64tab)], narrowed := true }
def ChooseFindsUptoSaid : Prop := chooseFindsUptoRow.holds Tryd.pinned (OpenSpec.upto chooseFindsSpec)

end Rows
end Go.Proofs.YtdhokioiloggeaaDoor
