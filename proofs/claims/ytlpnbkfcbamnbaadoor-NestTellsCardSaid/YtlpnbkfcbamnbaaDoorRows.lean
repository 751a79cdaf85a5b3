/-
  NARROWER THAN 'FOR EVERY INPUT', by the rows' own cells (each row's printed sentence says how): FanoMakes: laid · FanoMore: laid · FanoBetween: laid · FanoAsks: laid · FanoEach: laid · NestSums: laid · FanoBytes: laid · FanoOf: laid · NestInside: laid · NestWalks: laid · NestTells: laid.
  DERIVED. THE GIVEN ROWS OF THIS SEAT. 11 by the template 'for every input the law returns true; each argument reads behind the call as it read before'; 0 by the template 'total and deterministic' (their statements: YtlpnbkfcbamnbaaDoorTotals.lean).
  GIVEN WITH THE SEED: the statements are not yours to turn. If you find one false, say at which input.
  Laid BY PROGRAM, IN A SANDBOX (cutbox-rows.mjs): the forced cells as the released guide's own fill.sh prints them over the translation d0ccfdd8ec55b1bc… (all of the seat's roots in one cut). By AI agents, Wed Nov 11 2026. No macro, syntax, notation, axiom, sorry.
-/
import Derived.Test.YtlpnbkfcbamnbaaDoorChecked
import GoSem.Claim
import GoSem.ClaimJoined
import GoSem.ClaimMapViews
import Derived.JoinedTies
import Derived.KernelRfl
namespace Go.Proofs.YtlpnbkfcbamnbaaDoor
/- THE CELL 'sum', in the pinned program and in every row, IS THE sha256 OF THE DUMP (.gsa) THAT YtlpnbkfcbamnbaaDoorProg.lean LOADS. Nothing in Lean hashes anything: it is a label: what it is worth is what the hold of that sum in a sandbox is worth. -/
noncomputable def Tryd.pinned : Pinned := { name := "ytlpnbkfcbamnbaadoor", sum := "d0ccfdd8ec55b1bc922ec31b0b7d0b0c3697ec1c8cd44bb81cc139008ba27d6a", checked := Tryd.checked }
namespace Rows
def none {H : Type} : Left H := { results := [], args := [] }

/- WHAT THE LISTED PACKAGE-LEVEL VARIABLES READ AS WHEN THE CALL BEGINS. Each datum BY PROGRAM (the guide's laid-datum.mjs) off the statement by which the dump's own 'gosem.cut.vars' lays the variable. In a bare row this is a premise. The card (YtlpnbkfcbamnbaaDoorCards.lean) ties it to the program's text. -/
def laid_math_bits_deBruijn64tab {H : Type} : DataW H := .agg [.lit (.int .u8 0), .lit (.int .u8 1), .lit (.int .u8 56), .lit (.int .u8 2), .lit (.int .u8 57), .lit (.int .u8 49), .lit (.int .u8 28), .lit (.int .u8 3), .lit (.int .u8 61), .lit (.int .u8 58), .lit (.int .u8 42), .lit (.int .u8 50), .lit (.int .u8 38), .lit (.int .u8 29), .lit (.int .u8 17), .lit (.int .u8 4), .lit (.int .u8 62), .lit (.int .u8 47), .lit (.int .u8 59), .lit (.int .u8 36), .lit (.int .u8 45), .lit (.int .u8 43), .lit (.int .u8 51), .lit (.int .u8 22), .lit (.int .u8 53), .lit (.int .u8 39), .lit (.int .u8 33), .lit (.int .u8 30), .lit (.int .u8 24), .lit (.int .u8 18), .lit (.int .u8 12), .lit (.int .u8 5), .lit (.int .u8 63), .lit (.int .u8 55), .lit (.int .u8 48), .lit (.int .u8 27), .lit (.int .u8 60), .lit (.int .u8 41), .lit (.int .u8 37), .lit (.int .u8 16), .lit (.int .u8 46), .lit (.int .u8 35), .lit (.int .u8 44), .lit (.int .u8 21), .lit (.int .u8 52), .lit (.int .u8 32), .lit (.int .u8 23), .lit (.int .u8 11), .lit (.int .u8 54), .lit (.int .u8 26), .lit (.int .u8 40), .lit (.int .u8 15), .lit (.int .u8 34), .lit (.int .u8 20), .lit (.int .u8 31), .lit (.int .u8 10), .lit (.int .u8 25), .lit (.int .u8 14), .lit (.int .u8 19), .lit (.int .u8 9), .lit (.int .u8 13), .lit (.int .u8 8), .lit (.int .u8 7), .lit (.int .u8 6)]

/-- 'laceworklaw05.FanoMakes': WHATEVER THE INPUT: true; the input reads as it did. -/
def fanoMakesSpec : ChangeSpec := { name := "fanoMakes", fn := fun _ => fun
  | [d1, d2] => { results := [.lit (.bool true)], args := [d1, d2] }
  | _ => none }
def fanoMakesRow : OpenClaim := { program := "ytlpnbkfcbamnbaadoor", sum := "d0ccfdd8ec55b1bc922ec31b0b7d0b0c3697ec1c8cd44bb81cc139008ba27d6a", func := "lacework/laceworklaw05.FanoMakes", spec := "fanoMakes", unfollowed := true, recurses := true, named := ["math/bits.deBruijn64tab"], apart := false, laid := [("math/bits.deBruijn64tab", laid_math_bits_deBruijn64tab)] }
def FanoMakesSaid : Prop := fanoMakesRow.holds Tryd.pinned (OpenSpec.ofChange fanoMakesSpec)

/-- ITS FALSE NEIGHBOUR: 'it returns false'. Refute it at one input. -/
def fanoMakesWrong : ChangeSpec := { name := "fanoMakes", fn := fun _ => fun
  | [d1, d2] => { results := [.lit (.bool false)], args := [d1, d2] }
  | _ => none }
def FanoMakesWrongFalsely : Prop := fanoMakesRow.holds Tryd.pinned (OpenSpec.ofChange fanoMakesWrong)

/-- 'laceworklaw05.FanoMore': WHATEVER THE INPUT: true; the input reads as it did. -/
def fanoMoreSpec : ChangeSpec := { name := "fanoMore", fn := fun _ => fun
  | [d1, d2, d3] => { results := [.lit (.bool true)], args := [d1, d2, d3] }
  | _ => none }
def fanoMoreRow : OpenClaim := { program := "ytlpnbkfcbamnbaadoor", sum := "d0ccfdd8ec55b1bc922ec31b0b7d0b0c3697ec1c8cd44bb81cc139008ba27d6a", func := "lacework/laceworklaw05.FanoMore", spec := "fanoMore", unfollowed := true, recurses := true, named := ["math/bits.deBruijn64tab"], apart := false, laid := [("math/bits.deBruijn64tab", laid_math_bits_deBruijn64tab)] }
def FanoMoreSaid : Prop := fanoMoreRow.holds Tryd.pinned (OpenSpec.ofChange fanoMoreSpec)

/-- ITS FALSE NEIGHBOUR: 'it returns false'. Refute it at one input. -/
def fanoMoreWrong : ChangeSpec := { name := "fanoMore", fn := fun _ => fun
  | [d1, d2, d3] => { results := [.lit (.bool false)], args := [d1, d2, d3] }
  | _ => none }
def FanoMoreWrongFalsely : Prop := fanoMoreRow.holds Tryd.pinned (OpenSpec.ofChange fanoMoreWrong)

/-- 'laceworklaw05.FanoBetween': WHATEVER THE INPUT: true; the input reads as it did. -/
def fanoBetweenSpec : ChangeSpec := { name := "fanoBetween", fn := fun _ => fun
  | [d1, d2, d3] => { results := [.lit (.bool true)], args := [d1, d2, d3] }
  | _ => none }
def fanoBetweenRow : OpenClaim := { program := "ytlpnbkfcbamnbaadoor", sum := "d0ccfdd8ec55b1bc922ec31b0b7d0b0c3697ec1c8cd44bb81cc139008ba27d6a", func := "lacework/laceworklaw05.FanoBetween", spec := "fanoBetween", unfollowed := true, recurses := true, named := ["math/bits.deBruijn64tab"], apart := false, laid := [("math/bits.deBruijn64tab", laid_math_bits_deBruijn64tab)] }
def FanoBetweenSaid : Prop := fanoBetweenRow.holds Tryd.pinned (OpenSpec.ofChange fanoBetweenSpec)

/-- ITS FALSE NEIGHBOUR: 'it returns false'. Refute it at one input. -/
def fanoBetweenWrong : ChangeSpec := { name := "fanoBetween", fn := fun _ => fun
  | [d1, d2, d3] => { results := [.lit (.bool false)], args := [d1, d2, d3] }
  | _ => none }
def FanoBetweenWrongFalsely : Prop := fanoBetweenRow.holds Tryd.pinned (OpenSpec.ofChange fanoBetweenWrong)

/-- 'laceworklaw05.FanoAsks': WHATEVER THE INPUT: true; the input reads as it did. -/
def fanoAsksSpec : ChangeSpec := { name := "fanoAsks", fn := fun _ => fun
  | [d1, d2, d3] => { results := [.lit (.bool true)], args := [d1, d2, d3] }
  | _ => none }
def fanoAsksRow : OpenClaim := { program := "ytlpnbkfcbamnbaadoor", sum := "d0ccfdd8ec55b1bc922ec31b0b7d0b0c3697ec1c8cd44bb81cc139008ba27d6a", func := "lacework/laceworklaw05.FanoAsks", spec := "fanoAsks", unfollowed := true, recurses := true, named := ["math/bits.deBruijn64tab"], apart := false, laid := [("math/bits.deBruijn64tab", laid_math_bits_deBruijn64tab)] }
def FanoAsksSaid : Prop := fanoAsksRow.holds Tryd.pinned (OpenSpec.ofChange fanoAsksSpec)

/-- ITS FALSE NEIGHBOUR: 'it returns false'. Refute it at one input. -/
def fanoAsksWrong : ChangeSpec := { name := "fanoAsks", fn := fun _ => fun
  | [d1, d2, d3] => { results := [.lit (.bool false)], args := [d1, d2, d3] }
  | _ => none }
def FanoAsksWrongFalsely : Prop := fanoAsksRow.holds Tryd.pinned (OpenSpec.ofChange fanoAsksWrong)

/-- 'laceworklaw05.FanoEach': WHATEVER THE INPUT: true; the input reads as it did. -/
def fanoEachSpec : ChangeSpec := { name := "fanoEach", fn := fun _ => fun
  | [d1, d2] => { results := [.lit (.bool true)], args := [d1, d2] }
  | _ => none }
def fanoEachRow : OpenClaim := { program := "ytlpnbkfcbamnbaadoor", sum := "d0ccfdd8ec55b1bc922ec31b0b7d0b0c3697ec1c8cd44bb81cc139008ba27d6a", func := "lacework/laceworklaw05.FanoEach", spec := "fanoEach", unfollowed := true, recurses := true, named := ["math/bits.deBruijn64tab"], apart := false, laid := [("math/bits.deBruijn64tab", laid_math_bits_deBruijn64tab)] }
def FanoEachSaid : Prop := fanoEachRow.holds Tryd.pinned (OpenSpec.ofChange fanoEachSpec)

/-- ITS FALSE NEIGHBOUR: 'it returns false'. Refute it at one input. -/
def fanoEachWrong : ChangeSpec := { name := "fanoEach", fn := fun _ => fun
  | [d1, d2] => { results := [.lit (.bool false)], args := [d1, d2] }
  | _ => none }
def FanoEachWrongFalsely : Prop := fanoEachRow.holds Tryd.pinned (OpenSpec.ofChange fanoEachWrong)

/-- 'laceworklaw08.NestSums': WHATEVER THE INPUT: true; the input reads as it did. -/
def nestSumsSpec : ChangeSpec := { name := "nestSums", fn := fun _ => fun
  | [d] => { results := [.lit (.bool true)], args := [d] }
  | _ => none }
def nestSumsRow : OpenClaim := { program := "ytlpnbkfcbamnbaadoor", sum := "d0ccfdd8ec55b1bc922ec31b0b7d0b0c3697ec1c8cd44bb81cc139008ba27d6a", func := "lacework/laceworklaw08.NestSums", spec := "nestSums", inPlace := ["math.Float64frombits"], unfollowed := true, recurses := true, named := ["math/bits.deBruijn64tab"], apart := false, laid := [("math/bits.deBruijn64tab", laid_math_bits_deBruijn64tab)] }
def NestSumsSaid : Prop := nestSumsRow.holds Tryd.pinned (OpenSpec.ofChange nestSumsSpec)

/-- ITS FALSE NEIGHBOUR: 'it returns false'. Refute it at one input. -/
def nestSumsWrong : ChangeSpec := { name := "nestSums", fn := fun _ => fun
  | [d] => { results := [.lit (.bool false)], args := [d] }
  | _ => none }
def NestSumsWrongFalsely : Prop := nestSumsRow.holds Tryd.pinned (OpenSpec.ofChange nestSumsWrong)

/-- 'laceworklaw05.FanoBytes': WHATEVER THE INPUT: true; the input reads as it did. -/
def fanoBytesSpec : ChangeSpec := { name := "fanoBytes", fn := fun _ => fun
  | [d1, d2] => { results := [.lit (.bool true)], args := [d1, d2] }
  | _ => none }
def fanoBytesRow : OpenClaim := { program := "ytlpnbkfcbamnbaadoor", sum := "d0ccfdd8ec55b1bc922ec31b0b7d0b0c3697ec1c8cd44bb81cc139008ba27d6a", func := "lacework/laceworklaw05.FanoBytes", spec := "fanoBytes", inPlace := ["internal/abi.NoEscape"], unfollowed := true, recurses := true, named := ["math/bits.deBruijn64tab"], apart := false, laid := [("math/bits.deBruijn64tab", laid_math_bits_deBruijn64tab)] }
def FanoBytesSaid : Prop := fanoBytesRow.holds Tryd.pinned (OpenSpec.ofChange fanoBytesSpec)

/-- ITS FALSE NEIGHBOUR: 'it returns false'. Refute it at one input. -/
def fanoBytesWrong : ChangeSpec := { name := "fanoBytes", fn := fun _ => fun
  | [d1, d2] => { results := [.lit (.bool false)], args := [d1, d2] }
  | _ => none }
def FanoBytesWrongFalsely : Prop := fanoBytesRow.holds Tryd.pinned (OpenSpec.ofChange fanoBytesWrong)

/-- 'laceworklaw05.FanoOf': WHATEVER THE INPUT: true; the input reads as it did. -/
def fanoOfSpec : ChangeSpec := { name := "fanoOf", fn := fun _ => fun
  | [d] => { results := [.lit (.bool true)], args := [d] }
  | _ => none }
def fanoOfRow : OpenClaim := { program := "ytlpnbkfcbamnbaadoor", sum := "d0ccfdd8ec55b1bc922ec31b0b7d0b0c3697ec1c8cd44bb81cc139008ba27d6a", func := "lacework/laceworklaw05.FanoOf", spec := "fanoOf", inPlace := ["internal/abi.NoEscape"], unfollowed := true, recurses := true, named := ["math/bits.deBruijn64tab"], apart := false, laid := [("math/bits.deBruijn64tab", laid_math_bits_deBruijn64tab)] }
def FanoOfSaid : Prop := fanoOfRow.holds Tryd.pinned (OpenSpec.ofChange fanoOfSpec)

/-- ITS FALSE NEIGHBOUR: 'it returns false'. Refute it at one input. -/
def fanoOfWrong : ChangeSpec := { name := "fanoOf", fn := fun _ => fun
  | [d] => { results := [.lit (.bool false)], args := [d] }
  | _ => none }
def FanoOfWrongFalsely : Prop := fanoOfRow.holds Tryd.pinned (OpenSpec.ofChange fanoOfWrong)

/-- 'laceworklaw08.NestInside': WHATEVER THE INPUT: true; the input reads as it did. -/
def nestInsideSpec : ChangeSpec := { name := "nestInside", fn := fun _ => fun
  | [d1, d2, d3] => { results := [.lit (.bool true)], args := [d1, d2, d3] }
  | _ => none }
def nestInsideRow : OpenClaim := { program := "ytlpnbkfcbamnbaadoor", sum := "d0ccfdd8ec55b1bc922ec31b0b7d0b0c3697ec1c8cd44bb81cc139008ba27d6a", func := "lacework/laceworklaw08.NestInside", spec := "nestInside", inPlace := ["math.Float64frombits"], unfollowed := true, recurses := true, named := ["math/bits.deBruijn64tab"], apart := false, laid := [("math/bits.deBruijn64tab", laid_math_bits_deBruijn64tab)] }
def NestInsideSaid : Prop := nestInsideRow.holds Tryd.pinned (OpenSpec.ofChange nestInsideSpec)

/-- ITS FALSE NEIGHBOUR: 'it returns false'. Refute it at one input. -/
def nestInsideWrong : ChangeSpec := { name := "nestInside", fn := fun _ => fun
  | [d1, d2, d3] => { results := [.lit (.bool false)], args := [d1, d2, d3] }
  | _ => none }
def NestInsideWrongFalsely : Prop := nestInsideRow.holds Tryd.pinned (OpenSpec.ofChange nestInsideWrong)

/-- 'laceworklaw08.NestWalks': WHATEVER THE INPUT: true; the input reads as it did. -/
def nestWalksSpec : ChangeSpec := { name := "nestWalks", fn := fun _ => fun
  | [d] => { results := [.lit (.bool true)], args := [d] }
  | _ => none }
def nestWalksRow : OpenClaim := { program := "ytlpnbkfcbamnbaadoor", sum := "d0ccfdd8ec55b1bc922ec31b0b7d0b0c3697ec1c8cd44bb81cc139008ba27d6a", func := "lacework/laceworklaw08.NestWalks", spec := "nestWalks", inPlace := ["math.Float64frombits"], unfollowed := true, recurses := true, named := ["math/bits.deBruijn64tab"], apart := false, laid := [("math/bits.deBruijn64tab", laid_math_bits_deBruijn64tab)] }
def NestWalksSaid : Prop := nestWalksRow.holds Tryd.pinned (OpenSpec.ofChange nestWalksSpec)

/-- ITS FALSE NEIGHBOUR: 'it returns false'. Refute it at one input. -/
def nestWalksWrong : ChangeSpec := { name := "nestWalks", fn := fun _ => fun
  | [d] => { results := [.lit (.bool false)], args := [d] }
  | _ => none }
def NestWalksWrongFalsely : Prop := nestWalksRow.holds Tryd.pinned (OpenSpec.ofChange nestWalksWrong)

/-- 'laceworklaw08.NestTells': WHATEVER THE INPUT: true; the input reads as it did. -/
def nestTellsSpec : ChangeSpec := { name := "nestTells", fn := fun _ => fun
  | [d1, d2, d3] => { results := [.lit (.bool true)], args := [d1, d2, d3] }
  | _ => none }
def nestTellsRow : OpenClaim := { program := "ytlpnbkfcbamnbaadoor", sum := "d0ccfdd8ec55b1bc922ec31b0b7d0b0c3697ec1c8cd44bb81cc139008ba27d6a", func := "lacework/laceworklaw08.NestTells", spec := "nestTells", inPlace := ["math.Float64frombits"], unfollowed := true, recurses := true, named := ["math/bits.deBruijn64tab"], apart := false, laid := [("math/bits.deBruijn64tab", laid_math_bits_deBruijn64tab)] }
def NestTellsSaid : Prop := nestTellsRow.holds Tryd.pinned (OpenSpec.ofChange nestTellsSpec)

/-- ITS FALSE NEIGHBOUR: 'it returns false'. Refute it at one input. -/
def nestTellsWrong : ChangeSpec := { name := "nestTells", fn := fun _ => fun
  | [d1, d2, d3] => { results := [.lit (.bool false)], args := [d1, d2, d3] }
  | _ => none }
def NestTellsWrongFalsely : Prop := nestTellsRow.holds Tryd.pinned (OpenSpec.ofChange nestTellsWrong)

/- THE SECOND FORM. 'bulk': how many values and letters a reading holds, each counted each time it is reached (what is shared counts as often as it is met; a slice's spare places count too). A statement '..UptoSaid' is the law's where the arguments, and the package variables that the reading takes, are together of bulk at most 1048576: NARROWER than '..Said'. Prove '..Said' where nothing that the law and all that it calls make is longer than what came in: it says more and counts as full. Else prove '..UptoSaid'. A law counts once. -/
mutual
def uptoBulk {H : Type} : DataW H → Nat
  | .lit (.string bytes) => bytes.length + 1
  | .lit _ => 1
  | .nil => 1
  | .ptr d => uptoBulk d + 1
  | .slice elems spare => uptoBulkAll elems + uptoBulkAll spare + 1
  | .agg parts => uptoBulkAll parts + 1
  | .iface _ d => uptoBulk d + 1
  | .map entries => uptoBulkEntries entries + 1
  | .held _ => 1
def uptoBulkAll {H : Type} : List (DataW H) → Nat
  | [] => 0
  | d :: r => uptoBulk d + uptoBulkAll r
def uptoBulkEntries {H : Type} : List (Lit × DataW H) → Nat
  | [] => 0
  | x :: r => uptoBulkEntry x + uptoBulkEntries r
def uptoBulkEntry {H : Type} : Lit × DataW H → Nat
  | (.string bytes, d) => bytes.length + uptoBulk d + 1
  | (_, d) => uptoBulk d + 1
 end
def uptoSmall : (H : Type) → List (DataW H) → Bool := fun _ ds => decide (uptoBulkAll ds ≤ 1048576)
def OpenSpec.upto (s : _root_.Go.ChangeSpec) : _root_.Go.OpenSpec := { _root_.Go.OpenSpec.ofChange s with cond := some uptoSmall }

/-- 'laceworklaw05.FanoMakes', WHERE WHAT IT READS IS OF BULK AT MOST 1048576: true; the input reads as it did. -/
def fanoMakesUptoRow : OpenClaim := { program := "ytlpnbkfcbamnbaadoor", sum := "d0ccfdd8ec55b1bc922ec31b0b7d0b0c3697ec1c8cd44bb81cc139008ba27d6a", func := "lacework/laceworklaw05.FanoMakes", spec := "fanoMakes", unfollowed := true, recurses := true, named := ["math/bits.deBruijn64tab"], apart := false, laid := [("math/bits.deBruijn64tab", laid_math_bits_deBruijn64tab)], narrowed := true }
def FanoMakesUptoSaid : Prop := fanoMakesUptoRow.holds Tryd.pinned (OpenSpec.upto fanoMakesSpec)

/-- 'laceworklaw05.FanoMore', WHERE WHAT IT READS IS OF BULK AT MOST 1048576: true; the input reads as it did. -/
def fanoMoreUptoRow : OpenClaim := { program := "ytlpnbkfcbamnbaadoor", sum := "d0ccfdd8ec55b1bc922ec31b0b7d0b0c3697ec1c8cd44bb81cc139008ba27d6a", func := "lacework/laceworklaw05.FanoMore", spec := "fanoMore", unfollowed := true, recurses := true, named := ["math/bits.deBruijn64tab"], apart := false, laid := [("math/bits.deBruijn64tab", laid_math_bits_deBruijn64tab)], narrowed := true }
def FanoMoreUptoSaid : Prop := fanoMoreUptoRow.holds Tryd.pinned (OpenSpec.upto fanoMoreSpec)

/-- 'laceworklaw05.FanoBetween', WHERE WHAT IT READS IS OF BULK AT MOST 1048576: true; the input reads as it did. -/
def fanoBetweenUptoRow : OpenClaim := { program := "ytlpnbkfcbamnbaadoor", sum := "d0ccfdd8ec55b1bc922ec31b0b7d0b0c3697ec1c8cd44bb81cc139008ba27d6a", func := "lacework/laceworklaw05.FanoBetween", spec := "fanoBetween", unfollowed := true, recurses := true, named := ["math/bits.deBruijn64tab"], apart := false, laid := [("math/bits.deBruijn64tab", laid_math_bits_deBruijn64tab)], narrowed := true }
def FanoBetweenUptoSaid : Prop := fanoBetweenUptoRow.holds Tryd.pinned (OpenSpec.upto fanoBetweenSpec)

/-- 'laceworklaw05.FanoAsks', WHERE WHAT IT READS IS OF BULK AT MOST 1048576: true; the input reads as it did. -/
def fanoAsksUptoRow : OpenClaim := { program := "ytlpnbkfcbamnbaadoor", sum := "d0ccfdd8ec55b1bc922ec31b0b7d0b0c3697ec1c8cd44bb81cc139008ba27d6a", func := "lacework/laceworklaw05.FanoAsks", spec := "fanoAsks", unfollowed := true, recurses := true, named := ["math/bits.deBruijn64tab"], apart := false, laid := [("math/bits.deBruijn64tab", laid_math_bits_deBruijn64tab)], narrowed := true }
def FanoAsksUptoSaid : Prop := fanoAsksUptoRow.holds Tryd.pinned (OpenSpec.upto fanoAsksSpec)

/-- 'laceworklaw05.FanoEach', WHERE WHAT IT READS IS OF BULK AT MOST 1048576: true; the input reads as it did. -/
def fanoEachUptoRow : OpenClaim := { program := "ytlpnbkfcbamnbaadoor", sum := "d0ccfdd8ec55b1bc922ec31b0b7d0b0c3697ec1c8cd44bb81cc139008ba27d6a", func := "lacework/laceworklaw05.FanoEach", spec := "fanoEach", unfollowed := true, recurses := true, named := ["math/bits.deBruijn64tab"], apart := false, laid := [("math/bits.deBruijn64tab", laid_math_bits_deBruijn64tab)], narrowed := true }
def FanoEachUptoSaid : Prop := fanoEachUptoRow.holds Tryd.pinned (OpenSpec.upto fanoEachSpec)

/-- 'laceworklaw08.NestSums', WHERE WHAT IT READS IS OF BULK AT MOST 1048576: true; the input reads as it did. -/
def nestSumsUptoRow : OpenClaim := { program := "ytlpnbkfcbamnbaadoor", sum := "d0ccfdd8ec55b1bc922ec31b0b7d0b0c3697ec1c8cd44bb81cc139008ba27d6a", func := "lacework/laceworklaw08.NestSums", spec := "nestSums", inPlace := ["math.Float64frombits"], unfollowed := true, recurses := true, named := ["math/bits.deBruijn64tab"], apart := false, laid := [("math/bits.deBruijn64tab", laid_math_bits_deBruijn64tab)], narrowed := true }
def NestSumsUptoSaid : Prop := nestSumsUptoRow.holds Tryd.pinned (OpenSpec.upto nestSumsSpec)

/-- 'laceworklaw05.FanoBytes', WHERE WHAT IT READS IS OF BULK AT MOST 1048576: true; the input reads as it did. -/
def fanoBytesUptoRow : OpenClaim := { program := "ytlpnbkfcbamnbaadoor", sum := "d0ccfdd8ec55b1bc922ec31b0b7d0b0c3697ec1c8cd44bb81cc139008ba27d6a", func := "lacework/laceworklaw05.FanoBytes", spec := "fanoBytes", inPlace := ["internal/abi.NoEscape"], unfollowed := true, recurses := true, named := ["math/bits.deBruijn64tab"], apart := false, laid := [("math/bits.deBruijn64tab", laid_math_bits_deBruijn64tab)], narrowed := true }
def FanoBytesUptoSaid : Prop := fanoBytesUptoRow.holds Tryd.pinned (OpenSpec.upto fanoBytesSpec)

/-- 'laceworklaw05.FanoOf', WHERE WHAT IT READS IS OF BULK AT MOST 1048576: true; the input reads as it did. -/
def fanoOfUptoRow : OpenClaim := { program := "ytlpnbkfcbamnbaadoor", sum := "d0ccfdd8ec55b1bc922ec31b0b7d0b0c3697ec1c8cd44bb81cc139008ba27d6a", func := "lacework/laceworklaw05.FanoOf", spec := "fanoOf", inPlace := ["internal/abi.NoEscape"], unfollowed := true, recurses := true, named := ["math/bits.deBruijn64tab"], apart := false, laid := [("math/bits.deBruijn64tab", laid_math_bits_deBruijn64tab)], narrowed := true }
def FanoOfUptoSaid : Prop := fanoOfUptoRow.holds Tryd.pinned (OpenSpec.upto fanoOfSpec)

/-- 'laceworklaw08.NestInside', WHERE WHAT IT READS IS OF BULK AT MOST 1048576: true; the input reads as it did. -/
def nestInsideUptoRow : OpenClaim := { program := "ytlpnbkfcbamnbaadoor", sum := "d0ccfdd8ec55b1bc922ec31b0b7d0b0c3697ec1c8cd44bb81cc139008ba27d6a", func := "lacework/laceworklaw08.NestInside", spec := "nestInside", inPlace := ["math.Float64frombits"], unfollowed := true, recurses := true, named := ["math/bits.deBruijn64tab"], apart := false, laid := [("math/bits.deBruijn64tab", laid_math_bits_deBruijn64tab)], narrowed := true }
def NestInsideUptoSaid : Prop := nestInsideUptoRow.holds Tryd.pinned (OpenSpec.upto nestInsideSpec)

/-- 'laceworklaw08.NestWalks', WHERE WHAT IT READS IS OF BULK AT MOST 1048576: true; the input reads as it did. -/
def nestWalksUptoRow : OpenClaim := { program := "ytlpnbkfcbamnbaadoor", sum := "d0ccfdd8ec55b1bc922ec31b0b7d0b0c3697ec1c8cd44bb81cc139008ba27d6a", func := "lacework/laceworklaw08.NestWalks", spec := "nestWalks", inPlace := ["math.Float64frombits"], unfollowed := true, recurses := true, named := ["math/bits.deBruijn64tab"], apart := false, laid := [("math/bits.deBruijn64tab", laid_math_bits_deBruijn64tab)], narrowed := true }
def NestWalksUptoSaid : Prop := nestWalksUptoRow.holds Tryd.pinned (OpenSpec.upto nestWalksSpec)

/-- 'laceworklaw08.NestTells', WHERE WHAT IT READS IS OF BULK AT MOST 1048576: true; the input reads as it did. -/
def nestTellsUptoRow : OpenClaim := { program := "ytlpnbkfcbamnbaadoor", sum := "d0ccfdd8ec55b1bc922ec31b0b7d0b0c3697ec1c8cd44bb81cc139008ba27d6a", func := "lacework/laceworklaw08.NestTells", spec := "nestTells", inPlace := ["math.Float64frombits"], unfollowed := true, recurses := true, named := ["math/bits.deBruijn64tab"], apart := false, laid := [("math/bits.deBruijn64tab", laid_math_bits_deBruijn64tab)], narrowed := true }
def NestTellsUptoSaid : Prop := nestTellsUptoRow.holds Tryd.pinned (OpenSpec.upto nestTellsSpec)

end Rows
end Go.Proofs.YtlpnbkfcbamnbaaDoor
