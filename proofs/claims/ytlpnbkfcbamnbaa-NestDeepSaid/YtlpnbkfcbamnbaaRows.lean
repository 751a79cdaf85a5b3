/-
  No cell of these rows narrows 'for every input' (looked for: loops, veiled, ifaces, maps, wideKeys, modest, calm, conditions, laid).
  DERIVED. THE GIVEN ROWS OF THIS SEAT. 5 by the template 'for every input the law returns true; each argument reads behind the call as it read before'; 0 by the template 'total and deterministic' (their statements: YtlpnbkfcbamnbaaTotals.lean).
  GIVEN WITH THE SEED: the statements are not yours to turn. If you find one false, say at which input.
  Laid BY PROGRAM, IN A SANDBOX (cutbox-rows.mjs): the forced cells as the released guide's own fill.sh prints them over the translation 7076c9547b81352b… (all of the seat's roots in one cut). By AI agents, Wed Nov 11 2026. No macro, syntax, notation, axiom, sorry.
-/
import Derived.Test.YtlpnbkfcbamnbaaChecked
import GoSem.Claim
import GoSem.ClaimJoined
import GoSem.ClaimMapViews
import Derived.JoinedTies
import Derived.KernelRfl
namespace Go.Proofs.Ytlpnbkfcbamnbaa
/- THE CELL 'sum', in the pinned program and in every row, IS THE sha256 OF THE DUMP (.gsa) THAT YtlpnbkfcbamnbaaProg.lean LOADS. Nothing in Lean hashes anything: it is a label: what it is worth is what the hold of that sum in a sandbox is worth. -/
noncomputable def Try.pinned : Pinned := { name := "ytlpnbkfcbamnbaa", sum := "7076c9547b81352b04da64fd08e16474cc3c3580db636a63a3c46814acf7b893", checked := Try.checked }
namespace Rows
def none {H : Type} : Left H := { results := [], args := [] }

/-- 'laceworklaw07.MinmaxBetween': WHATEVER THE INPUT: true; the input reads as it did. -/
def minmaxBetweenSpec : ChangeSpec := { name := "minmaxBetween", fn := fun _ => fun
  | [d1, d2] => { results := [.lit (.bool true)], args := [d1, d2] }
  | _ => none }
def minmaxBetweenRow : OpenClaim := { program := "ytlpnbkfcbamnbaa", sum := "7076c9547b81352b04da64fd08e16474cc3c3580db636a63a3c46814acf7b893", func := "lacework/laceworklaw07.MinmaxBetween", spec := "minmaxBetween", inPlace := ["math.Float64frombits"], apart := false }
def MinmaxBetweenSaid : Prop := minmaxBetweenRow.holds Try.pinned (OpenSpec.ofChange minmaxBetweenSpec)

/-- ITS FALSE NEIGHBOUR: 'it returns false'. Refute it at one input. -/
def minmaxBetweenWrong : ChangeSpec := { name := "minmaxBetween", fn := fun _ => fun
  | [d1, d2] => { results := [.lit (.bool false)], args := [d1, d2] }
  | _ => none }
def MinmaxBetweenWrongFalsely : Prop := minmaxBetweenRow.holds Try.pinned (OpenSpec.ofChange minmaxBetweenWrong)

/-- 'laceworklaw07.MinmaxBack': WHATEVER THE INPUT: true; the input reads as it did. -/
def minmaxBackSpec : ChangeSpec := { name := "minmaxBack", fn := fun _ => fun
  | [d1, d2] => { results := [.lit (.bool true)], args := [d1, d2] }
  | _ => none }
def minmaxBackRow : OpenClaim := { program := "ytlpnbkfcbamnbaa", sum := "7076c9547b81352b04da64fd08e16474cc3c3580db636a63a3c46814acf7b893", func := "lacework/laceworklaw07.MinmaxBack", spec := "minmaxBack", inPlace := ["math.Float64frombits"], apart := false }
def MinmaxBackSaid : Prop := minmaxBackRow.holds Try.pinned (OpenSpec.ofChange minmaxBackSpec)

/-- ITS FALSE NEIGHBOUR: 'it returns false'. Refute it at one input. -/
def minmaxBackWrong : ChangeSpec := { name := "minmaxBack", fn := fun _ => fun
  | [d1, d2] => { results := [.lit (.bool false)], args := [d1, d2] }
  | _ => none }
def MinmaxBackWrongFalsely : Prop := minmaxBackRow.holds Try.pinned (OpenSpec.ofChange minmaxBackWrong)

/-- 'laceworklaw07.MinmaxPairs': WHATEVER THE INPUT: true; the input reads as it did. -/
def minmaxPairsSpec : ChangeSpec := { name := "minmaxPairs", fn := fun _ => fun
  | [d1, d2] => { results := [.lit (.bool true)], args := [d1, d2] }
  | _ => none }
def minmaxPairsRow : OpenClaim := { program := "ytlpnbkfcbamnbaa", sum := "7076c9547b81352b04da64fd08e16474cc3c3580db636a63a3c46814acf7b893", func := "lacework/laceworklaw07.MinmaxPairs", spec := "minmaxPairs", inPlace := ["math.Float64frombits"], apart := false }
def MinmaxPairsSaid : Prop := minmaxPairsRow.holds Try.pinned (OpenSpec.ofChange minmaxPairsSpec)

/-- ITS FALSE NEIGHBOUR: 'it returns false'. Refute it at one input. -/
def minmaxPairsWrong : ChangeSpec := { name := "minmaxPairs", fn := fun _ => fun
  | [d1, d2] => { results := [.lit (.bool false)], args := [d1, d2] }
  | _ => none }
def MinmaxPairsWrongFalsely : Prop := minmaxPairsRow.holds Try.pinned (OpenSpec.ofChange minmaxPairsWrong)

/-- 'laceworklaw07.MinmaxFinds': WHATEVER THE INPUT: true; the input reads as it did. -/
def minmaxFindsSpec : ChangeSpec := { name := "minmaxFinds", fn := fun _ => fun
  | [d1, d2] => { results := [.lit (.bool true)], args := [d1, d2] }
  | _ => none }
def minmaxFindsRow : OpenClaim := { program := "ytlpnbkfcbamnbaa", sum := "7076c9547b81352b04da64fd08e16474cc3c3580db636a63a3c46814acf7b893", func := "lacework/laceworklaw07.MinmaxFinds", spec := "minmaxFinds", inPlace := ["math.Float64frombits"], apart := false }
def MinmaxFindsSaid : Prop := minmaxFindsRow.holds Try.pinned (OpenSpec.ofChange minmaxFindsSpec)

/-- ITS FALSE NEIGHBOUR: 'it returns false'. Refute it at one input. -/
def minmaxFindsWrong : ChangeSpec := { name := "minmaxFinds", fn := fun _ => fun
  | [d1, d2] => { results := [.lit (.bool false)], args := [d1, d2] }
  | _ => none }
def MinmaxFindsWrongFalsely : Prop := minmaxFindsRow.holds Try.pinned (OpenSpec.ofChange minmaxFindsWrong)

/-- 'laceworklaw08.NestDeep': WHATEVER THE INPUT: true; the input reads as it did. -/
def nestDeepSpec : ChangeSpec := { name := "nestDeep", fn := fun _ => fun
  | [d1, d2] => { results := [.lit (.bool true)], args := [d1, d2] }
  | _ => none }
def nestDeepRow : OpenClaim := { program := "ytlpnbkfcbamnbaa", sum := "7076c9547b81352b04da64fd08e16474cc3c3580db636a63a3c46814acf7b893", func := "lacework/laceworklaw08.NestDeep", spec := "nestDeep", inPlace := ["math.Float64frombits"], apart := false }
def NestDeepSaid : Prop := nestDeepRow.holds Try.pinned (OpenSpec.ofChange nestDeepSpec)

/-- ITS FALSE NEIGHBOUR: 'it returns false'. Refute it at one input. -/
def nestDeepWrong : ChangeSpec := { name := "nestDeep", fn := fun _ => fun
  | [d1, d2] => { results := [.lit (.bool false)], args := [d1, d2] }
  | _ => none }
def NestDeepWrongFalsely : Prop := nestDeepRow.holds Try.pinned (OpenSpec.ofChange nestDeepWrong)

/- THE SECOND FORM. 'bulk': how many values and letters a reading holds, each counted each time it is reached (what is shared counts as often as it is met; a slice's spare places count too). A statement '..UptoSaid' is the law's where the arguments, and the package variables that the reading takes, are together of bulk at most 1048576: NARROWER than '..Said'. Prove '..Said' where nothing that the law and all that it calls make is longer than what came in: it says more and counts as full. Else prove '..UptoSaid'. A law counts once. -/
mutual
def uptoBulk {H : Type} : DataW H → Nat
  | .lit (.string bytes) => bytes.length + 1
  | .lit _ => 1
  | .nil => 1
  | .ptr d => uptoBulk d + 1
  | .slice elems spare => uptoBulkAll elems + uptoBulkAll spare + 1
  | .agg parts => uptoBulkAll parts + 1
  | .iface _ d => uptoBulk d + 1
  | .map entries => uptoBulkEntries entries + 1
  | .held _ => 1
def uptoBulkAll {H : Type} : List (DataW H) → Nat
  | [] => 0
  | d :: r => uptoBulk d + uptoBulkAll r
def uptoBulkEntries {H : Type} : List (Lit × DataW H) → Nat
  | [] => 0
  | x :: r => uptoBulkEntry x + uptoBulkEntries r
def uptoBulkEntry {H : Type} : Lit × DataW H → Nat
  | (.string bytes, d) => bytes.length + uptoBulk d + 1
  | (_, d) => uptoBulk d + 1
 end
def uptoSmall : (H : Type) → List (DataW H) → Bool := fun _ ds => decide (uptoBulkAll ds ≤ 1048576)
def OpenSpec.upto (s : _root_.Go.ChangeSpec) : _root_.Go.OpenSpec := { _root_.Go.OpenSpec.ofChange s with cond := some uptoSmall }

/-- 'laceworklaw07.MinmaxBetween', WHERE WHAT IT READS IS OF BULK AT MOST 1048576: true; the input reads as it did. -/
def minmaxBetweenUptoRow : OpenClaim := { program := "ytlpnbkfcbamnbaa", sum := "7076c9547b81352b04da64fd08e16474cc3c3580db636a63a3c46814acf7b893", func := "lacework/laceworklaw07.MinmaxBetween", spec := "minmaxBetween", inPlace := ["math.Float64frombits"], apart := false, narrowed := true }
def MinmaxBetweenUptoSaid : Prop := minmaxBetweenUptoRow.holds Try.pinned (OpenSpec.upto minmaxBetweenSpec)

/-- 'laceworklaw07.MinmaxBack', WHERE WHAT IT READS IS OF BULK AT MOST 1048576: true; the input reads as it did. -/
def minmaxBackUptoRow : OpenClaim := { program := "ytlpnbkfcbamnbaa", sum := "7076c9547b81352b04da64fd08e16474cc3c3580db636a63a3c46814acf7b893", func := "lacework/laceworklaw07.MinmaxBack", spec := "minmaxBack", inPlace := ["math.Float64frombits"], apart := false, narrowed := true }
def MinmaxBackUptoSaid : Prop := minmaxBackUptoRow.holds Try.pinned (OpenSpec.upto minmaxBackSpec)

/-- 'laceworklaw07.MinmaxPairs', WHERE WHAT IT READS IS OF BULK AT MOST 1048576: true; the input reads as it did. -/
def minmaxPairsUptoRow : OpenClaim := { program := "ytlpnbkfcbamnbaa", sum := "7076c9547b81352b04da64fd08e16474cc3c3580db636a63a3c46814acf7b893", func := "lacework/laceworklaw07.MinmaxPairs", spec := "minmaxPairs", inPlace := ["math.Float64frombits"], apart := false, narrowed := true }
def MinmaxPairsUptoSaid : Prop := minmaxPairsUptoRow.holds Try.pinned (OpenSpec.upto minmaxPairsSpec)

/-- 'laceworklaw07.MinmaxFinds', WHERE WHAT IT READS IS OF BULK AT MOST 1048576: true; the input reads as it did. -/
def minmaxFindsUptoRow : OpenClaim := { program := "ytlpnbkfcbamnbaa", sum := "7076c9547b81352b04da64fd08e16474cc3c3580db636a63a3c46814acf7b893", func := "lacework/laceworklaw07.MinmaxFinds", spec := "minmaxFinds", inPlace := ["math.Float64frombits"], apart := false, narrowed := true }
def MinmaxFindsUptoSaid : Prop := minmaxFindsUptoRow.holds Try.pinned (OpenSpec.upto minmaxFindsSpec)

/-- 'laceworklaw08.NestDeep', WHERE WHAT IT READS IS OF BULK AT MOST 1048576: true; the input reads as it did. -/
def nestDeepUptoRow : OpenClaim := { program := "ytlpnbkfcbamnbaa", sum := "7076c9547b81352b04da64fd08e16474cc3c3580db636a63a3c46814acf7b893", func := "lacework/laceworklaw08.NestDeep", spec := "nestDeep", inPlace := ["math.Float64frombits"], apart := false, narrowed := true }
def NestDeepUptoSaid : Prop := nestDeepUptoRow.holds Try.pinned (OpenSpec.upto nestDeepSpec)

end Rows
end Go.Proofs.Ytlpnbkfcbamnbaa
