/-
  No cell of these rows narrows 'for every input' (looked for: loops, veiled, ifaces, maps, wideKeys, modest, calm, conditions, laid).
  DERIVED. THE GIVEN ROWS OF THIS SEAT. 16 by the template 'for every input the law returns true; each argument reads behind the call as it read before'; 0 by the template 'total and deterministic' (their statements: YtdhokioiloggeaaTotals.lean).
  GIVEN WITH THE SEED: the statements are not yours to turn. If you find one false, say at which input.
  Laid BY PROGRAM, IN A SANDBOX (cutbox-rows.mjs): the forced cells as the released guide's own fill.sh prints them over the translation 7d855fcacec4347e… (all of the seat's roots in one cut). By AI agents, Wed Nov 11 2026. No macro, syntax, notation, axiom, sorry.
-/
import Derived.Test.YtdhokioiloggeaaChecked
import GoSem.Claim
import GoSem.ClaimJoined
import GoSem.ClaimMapViews
import Derived.JoinedTies
import Derived.KernelRfl
namespace Go.Proofs.Ytdhokioiloggeaa
/- THE CELL 'sum', in the pinned program and in every row, IS THE sha256 OF THE DUMP (.gsa) THAT YtdhokioiloggeaaProg.lean LOADS. Nothing in Lean hashes anything: it is a label: what it is worth is what the hold of that sum in a sandbox is worth. -/
noncomputable def Try.pinned : Pinned := { name := "ytdhokioiloggeaa", sum := "7d855fcacec4347e2e5239aadbe1204d4286b6c7efa12a3acbb8a37fbdf26bc8", checked := Try.checked }
namespace Rows
def none {H : Type} : Left H := { results := [], args := [] }

/-- 'laceworklaw02.BitsPut': WHATEVER THE INPUT: true; the input reads as it did. -/
def bitsPutSpec : ChangeSpec := { name := "bitsPut", fn := fun _ => fun
  | [d1, d2] => { results := [.lit (.bool true)], args := [d1, d2] }
  | _ => none }
def bitsPutRow : OpenClaim := { program := "ytdhokioiloggeaa", sum := "7d855fcacec4347e2e5239aadbe1204d4286b6c7efa12a3acbb8a37fbdf26bc8", func := "lacework/laceworklaw02.BitsPut", spec := "bitsPut", apart := false }
def BitsPutSaid : Prop := bitsPutRow.holds Try.pinned (OpenSpec.ofChange bitsPutSpec)

/-- ITS FALSE NEIGHBOUR: 'it returns false'. Refute it at one input. -/
def bitsPutWrong : ChangeSpec := { name := "bitsPut", fn := fun _ => fun
  | [d1, d2] => { results := [.lit (.bool false)], args := [d1, d2] }
  | _ => none }
def BitsPutWrongFalsely : Prop := bitsPutRow.holds Try.pinned (OpenSpec.ofChange bitsPutWrong)

/-- 'laceworklaw02.BitsOf': WHATEVER THE INPUT: true; the input reads as it did. -/
def bitsOfSpec : ChangeSpec := { name := "bitsOf", fn := fun _ => fun
  | [d] => { results := [.lit (.bool true)], args := [d] }
  | _ => none }
def bitsOfRow : OpenClaim := { program := "ytdhokioiloggeaa", sum := "7d855fcacec4347e2e5239aadbe1204d4286b6c7efa12a3acbb8a37fbdf26bc8", func := "lacework/laceworklaw02.BitsOf", spec := "bitsOf", apart := false }
def BitsOfSaid : Prop := bitsOfRow.holds Try.pinned (OpenSpec.ofChange bitsOfSpec)

/-- ITS FALSE NEIGHBOUR: 'it returns false'. Refute it at one input. -/
def bitsOfWrong : ChangeSpec := { name := "bitsOf", fn := fun _ => fun
  | [d] => { results := [.lit (.bool false)], args := [d] }
  | _ => none }
def BitsOfWrongFalsely : Prop := bitsOfRow.holds Try.pinned (OpenSpec.ofChange bitsOfWrong)

/-- 'laceworklaw02.BitsEach': WHATEVER THE INPUT: true; the input reads as it did. -/
def bitsEachSpec : ChangeSpec := { name := "bitsEach", fn := fun _ => fun
  | [d] => { results := [.lit (.bool true)], args := [d] }
  | _ => none }
def bitsEachRow : OpenClaim := { program := "ytdhokioiloggeaa", sum := "7d855fcacec4347e2e5239aadbe1204d4286b6c7efa12a3acbb8a37fbdf26bc8", func := "lacework/laceworklaw02.BitsEach", spec := "bitsEach", inPlace := ["internal/abi.NoEscape"], apart := false }
def BitsEachSaid : Prop := bitsEachRow.holds Try.pinned (OpenSpec.ofChange bitsEachSpec)

/-- ITS FALSE NEIGHBOUR: 'it returns false'. Refute it at one input. -/
def bitsEachWrong : ChangeSpec := { name := "bitsEach", fn := fun _ => fun
  | [d] => { results := [.lit (.bool false)], args := [d] }
  | _ => none }
def BitsEachWrongFalsely : Prop := bitsEachRow.holds Try.pinned (OpenSpec.ofChange bitsEachWrong)

/-- 'laceworklaw02.BitsReads': WHATEVER THE INPUT: true; the input reads as it did. -/
def bitsReadsSpec : ChangeSpec := { name := "bitsReads", fn := fun _ => fun
  | [d1, d2, d3] => { results := [.lit (.bool true)], args := [d1, d2, d3] }
  | _ => none }
def bitsReadsRow : OpenClaim := { program := "ytdhokioiloggeaa", sum := "7d855fcacec4347e2e5239aadbe1204d4286b6c7efa12a3acbb8a37fbdf26bc8", func := "lacework/laceworklaw02.BitsReads", spec := "bitsReads", apart := false }
def BitsReadsSaid : Prop := bitsReadsRow.holds Try.pinned (OpenSpec.ofChange bitsReadsSpec)

/-- ITS FALSE NEIGHBOUR: 'it returns false'. Refute it at one input. -/
def bitsReadsWrong : ChangeSpec := { name := "bitsReads", fn := fun _ => fun
  | [d1, d2, d3] => { results := [.lit (.bool false)], args := [d1, d2, d3] }
  | _ => none }
def BitsReadsWrongFalsely : Prop := bitsReadsRow.holds Try.pinned (OpenSpec.ofChange bitsReadsWrong)

/-- 'laceworklaw02.BitsBytes': WHATEVER THE INPUT: true; the input reads as it did. -/
def bitsBytesSpec : ChangeSpec := { name := "bitsBytes", fn := fun _ => fun
  | [d] => { results := [.lit (.bool true)], args := [d] }
  | _ => none }
def bitsBytesRow : OpenClaim := { program := "ytdhokioiloggeaa", sum := "7d855fcacec4347e2e5239aadbe1204d4286b6c7efa12a3acbb8a37fbdf26bc8", func := "lacework/laceworklaw02.BitsBytes", spec := "bitsBytes", inPlace := ["internal/abi.NoEscape"], apart := false }
def BitsBytesSaid : Prop := bitsBytesRow.holds Try.pinned (OpenSpec.ofChange bitsBytesSpec)

/-- ITS FALSE NEIGHBOUR: 'it returns false'. Refute it at one input. -/
def bitsBytesWrong : ChangeSpec := { name := "bitsBytes", fn := fun _ => fun
  | [d] => { results := [.lit (.bool false)], args := [d] }
  | _ => none }
def BitsBytesWrongFalsely : Prop := bitsBytesRow.holds Try.pinned (OpenSpec.ofChange bitsBytesWrong)

/-- 'laceworklaw02.BitsParts': WHATEVER THE INPUT: true; the input reads as it did. -/
def bitsPartsSpec : ChangeSpec := { name := "bitsParts", fn := fun _ => fun
  | [d1, d2] => { results := [.lit (.bool true)], args := [d1, d2] }
  | _ => none }
def bitsPartsRow : OpenClaim := { program := "ytdhokioiloggeaa", sum := "7d855fcacec4347e2e5239aadbe1204d4286b6c7efa12a3acbb8a37fbdf26bc8", func := "lacework/laceworklaw02.BitsParts", spec := "bitsParts", inPlace := ["internal/abi.NoEscape"], apart := false }
def BitsPartsSaid : Prop := bitsPartsRow.holds Try.pinned (OpenSpec.ofChange bitsPartsSpec)

/-- ITS FALSE NEIGHBOUR: 'it returns false'. Refute it at one input. -/
def bitsPartsWrong : ChangeSpec := { name := "bitsParts", fn := fun _ => fun
  | [d1, d2] => { results := [.lit (.bool false)], args := [d1, d2] }
  | _ => none }
def BitsPartsWrongFalsely : Prop := bitsPartsRow.holds Try.pinned (OpenSpec.ofChange bitsPartsWrong)

/-- 'laceworklaw03.RankEach': WHATEVER THE INPUT: true; the input reads as it did. -/
def rankEachSpec : ChangeSpec := { name := "rankEach", fn := fun _ => fun
  | [d] => { results := [.lit (.bool true)], args := [d] }
  | _ => none }
def rankEachRow : OpenClaim := { program := "ytdhokioiloggeaa", sum := "7d855fcacec4347e2e5239aadbe1204d4286b6c7efa12a3acbb8a37fbdf26bc8", func := "lacework/laceworklaw03.RankEach", spec := "rankEach", apart := false }
def RankEachSaid : Prop := rankEachRow.holds Try.pinned (OpenSpec.ofChange rankEachSpec)

/-- ITS FALSE NEIGHBOUR: 'it returns false'. Refute it at one input. -/
def rankEachWrong : ChangeSpec := { name := "rankEach", fn := fun _ => fun
  | [d] => { results := [.lit (.bool false)], args := [d] }
  | _ => none }
def RankEachWrongFalsely : Prop := rankEachRow.holds Try.pinned (OpenSpec.ofChange rankEachWrong)

/-- 'laceworklaw03.RankTurned': WHATEVER THE INPUT: true; the input reads as it did. -/
def rankTurnedSpec : ChangeSpec := { name := "rankTurned", fn := fun _ => fun
  | [d1, d2] => { results := [.lit (.bool true)], args := [d1, d2] }
  | _ => none }
def rankTurnedRow : OpenClaim := { program := "ytdhokioiloggeaa", sum := "7d855fcacec4347e2e5239aadbe1204d4286b6c7efa12a3acbb8a37fbdf26bc8", func := "lacework/laceworklaw03.RankTurned", spec := "rankTurned", apart := false }
def RankTurnedSaid : Prop := rankTurnedRow.holds Try.pinned (OpenSpec.ofChange rankTurnedSpec)

/-- ITS FALSE NEIGHBOUR: 'it returns false'. Refute it at one input. -/
def rankTurnedWrong : ChangeSpec := { name := "rankTurned", fn := fun _ => fun
  | [d1, d2] => { results := [.lit (.bool false)], args := [d1, d2] }
  | _ => none }
def RankTurnedWrongFalsely : Prop := rankTurnedRow.holds Try.pinned (OpenSpec.ofChange rankTurnedWrong)

/-- 'laceworklaw03.RankLong': WHATEVER THE INPUT: true; the input reads as it did. -/
def rankLongSpec : ChangeSpec := { name := "rankLong", fn := fun _ => fun
  | [d1, d2, d3] => { results := [.lit (.bool true)], args := [d1, d2, d3] }
  | _ => none }
def rankLongRow : OpenClaim := { program := "ytdhokioiloggeaa", sum := "7d855fcacec4347e2e5239aadbe1204d4286b6c7efa12a3acbb8a37fbdf26bc8", func := "lacework/laceworklaw03.RankLong", spec := "rankLong", apart := false }
def RankLongSaid : Prop := rankLongRow.holds Try.pinned (OpenSpec.ofChange rankLongSpec)

/-- ITS FALSE NEIGHBOUR: 'it returns false'. Refute it at one input. -/
def rankLongWrong : ChangeSpec := { name := "rankLong", fn := fun _ => fun
  | [d1, d2, d3] => { results := [.lit (.bool false)], args := [d1, d2, d3] }
  | _ => none }
def RankLongWrongFalsely : Prop := rankLongRow.holds Try.pinned (OpenSpec.ofChange rankLongWrong)

/-- 'laceworklaw03.RankCounts': WHATEVER THE INPUT: true; the input reads as it did. -/
def rankCountsSpec : ChangeSpec := { name := "rankCounts", fn := fun _ => fun
  | [d1, d2] => { results := [.lit (.bool true)], args := [d1, d2] }
  | _ => none }
def rankCountsRow : OpenClaim := { program := "ytdhokioiloggeaa", sum := "7d855fcacec4347e2e5239aadbe1204d4286b6c7efa12a3acbb8a37fbdf26bc8", func := "lacework/laceworklaw03.RankCounts", spec := "rankCounts", apart := false }
def RankCountsSaid : Prop := rankCountsRow.holds Try.pinned (OpenSpec.ofChange rankCountsSpec)

/-- ITS FALSE NEIGHBOUR: 'it returns false'. Refute it at one input. -/
def rankCountsWrong : ChangeSpec := { name := "rankCounts", fn := fun _ => fun
  | [d1, d2] => { results := [.lit (.bool false)], args := [d1, d2] }
  | _ => none }
def RankCountsWrongFalsely : Prop := rankCountsRow.holds Try.pinned (OpenSpec.ofChange rankCountsWrong)

/-- 'laceworklaw03.RankParts': WHATEVER THE INPUT: true; the input reads as it did. -/
def rankPartsSpec : ChangeSpec := { name := "rankParts", fn := fun _ => fun
  | [d1, d2, d3] => { results := [.lit (.bool true)], args := [d1, d2, d3] }
  | _ => none }
def rankPartsRow : OpenClaim := { program := "ytdhokioiloggeaa", sum := "7d855fcacec4347e2e5239aadbe1204d4286b6c7efa12a3acbb8a37fbdf26bc8", func := "lacework/laceworklaw03.RankParts", spec := "rankParts", apart := false }
def RankPartsSaid : Prop := rankPartsRow.holds Try.pinned (OpenSpec.ofChange rankPartsSpec)

/-- ITS FALSE NEIGHBOUR: 'it returns false'. Refute it at one input. -/
def rankPartsWrong : ChangeSpec := { name := "rankParts", fn := fun _ => fun
  | [d1, d2, d3] => { results := [.lit (.bool false)], args := [d1, d2, d3] }
  | _ => none }
def RankPartsWrongFalsely : Prop := rankPartsRow.holds Try.pinned (OpenSpec.ofChange rankPartsWrong)

/-- 'laceworklaw06.ParenCounts': WHATEVER THE INPUT: true; the input reads as it did. -/
def parenCountsSpec : ChangeSpec := { name := "parenCounts", fn := fun _ => fun
  | [d1, d2, d3] => { results := [.lit (.bool true)], args := [d1, d2, d3] }
  | _ => none }
def parenCountsRow : OpenClaim := { program := "ytdhokioiloggeaa", sum := "7d855fcacec4347e2e5239aadbe1204d4286b6c7efa12a3acbb8a37fbdf26bc8", func := "lacework/laceworklaw06.ParenCounts", spec := "parenCounts", apart := false }
def ParenCountsSaid : Prop := parenCountsRow.holds Try.pinned (OpenSpec.ofChange parenCountsSpec)

/-- ITS FALSE NEIGHBOUR: 'it returns false'. Refute it at one input. -/
def parenCountsWrong : ChangeSpec := { name := "parenCounts", fn := fun _ => fun
  | [d1, d2, d3] => { results := [.lit (.bool false)], args := [d1, d2, d3] }
  | _ => none }
def ParenCountsWrongFalsely : Prop := parenCountsRow.holds Try.pinned (OpenSpec.ofChange parenCountsWrong)

/-- 'laceworklaw06.ParenBalanced': WHATEVER THE INPUT: true; the input reads as it did. -/
def parenBalancedSpec : ChangeSpec := { name := "parenBalanced", fn := fun _ => fun
  | [d] => { results := [.lit (.bool true)], args := [d] }
  | _ => none }
def parenBalancedRow : OpenClaim := { program := "ytdhokioiloggeaa", sum := "7d855fcacec4347e2e5239aadbe1204d4286b6c7efa12a3acbb8a37fbdf26bc8", func := "lacework/laceworklaw06.ParenBalanced", spec := "parenBalanced", apart := false }
def ParenBalancedSaid : Prop := parenBalancedRow.holds Try.pinned (OpenSpec.ofChange parenBalancedSpec)

/-- ITS FALSE NEIGHBOUR: 'it returns false'. Refute it at one input. -/
def parenBalancedWrong : ChangeSpec := { name := "parenBalanced", fn := fun _ => fun
  | [d] => { results := [.lit (.bool false)], args := [d] }
  | _ => none }
def ParenBalancedWrongFalsely : Prop := parenBalancedRow.holds Try.pinned (OpenSpec.ofChange parenBalancedWrong)

/-- 'laceworklaw06.ParenTwo': WHATEVER THE INPUT: true; the input reads as it did. -/
def parenTwoSpec : ChangeSpec := { name := "parenTwo", fn := fun _ => fun
  | [d1, d2, d3] => { results := [.lit (.bool true)], args := [d1, d2, d3] }
  | _ => none }
def parenTwoRow : OpenClaim := { program := "ytdhokioiloggeaa", sum := "7d855fcacec4347e2e5239aadbe1204d4286b6c7efa12a3acbb8a37fbdf26bc8", func := "lacework/laceworklaw06.ParenTwo", spec := "parenTwo", apart := false }
def ParenTwoSaid : Prop := parenTwoRow.holds Try.pinned (OpenSpec.ofChange parenTwoSpec)

/-- ITS FALSE NEIGHBOUR: 'it returns false'. Refute it at one input. -/
def parenTwoWrong : ChangeSpec := { name := "parenTwo", fn := fun _ => fun
  | [d1, d2, d3] => { results := [.lit (.bool false)], args := [d1, d2, d3] }
  | _ => none }
def ParenTwoWrongFalsely : Prop := parenTwoRow.holds Try.pinned (OpenSpec.ofChange parenTwoWrong)

/-- 'laceworklaw06.ParenFinds': WHATEVER THE INPUT: true; the input reads as it did. -/
def parenFindsSpec : ChangeSpec := { name := "parenFinds", fn := fun _ => fun
  | [d1, d2] => { results := [.lit (.bool true)], args := [d1, d2] }
  | _ => none }
def parenFindsRow : OpenClaim := { program := "ytdhokioiloggeaa", sum := "7d855fcacec4347e2e5239aadbe1204d4286b6c7efa12a3acbb8a37fbdf26bc8", func := "lacework/laceworklaw06.ParenFinds", spec := "parenFinds", apart := false }
def ParenFindsSaid : Prop := parenFindsRow.holds Try.pinned (OpenSpec.ofChange parenFindsSpec)

/-- ITS FALSE NEIGHBOUR: 'it returns false'. Refute it at one input. -/
def parenFindsWrong : ChangeSpec := { name := "parenFinds", fn := fun _ => fun
  | [d1, d2] => { results := [.lit (.bool false)], args := [d1, d2] }
  | _ => none }
def ParenFindsWrongFalsely : Prop := parenFindsRow.holds Try.pinned (OpenSpec.ofChange parenFindsWrong)

/-- 'laceworklaw06.ParenTurned': WHATEVER THE INPUT: true; the input reads as it did. -/
def parenTurnedSpec : ChangeSpec := { name := "parenTurned", fn := fun _ => fun
  | [d1, d2] => { results := [.lit (.bool true)], args := [d1, d2] }
  | _ => none }
def parenTurnedRow : OpenClaim := { program := "ytdhokioiloggeaa", sum := "7d855fcacec4347e2e5239aadbe1204d4286b6c7efa12a3acbb8a37fbdf26bc8", func := "lacework/laceworklaw06.ParenTurned", spec := "parenTurned", apart := false }
def ParenTurnedSaid : Prop := parenTurnedRow.holds Try.pinned (OpenSpec.ofChange parenTurnedSpec)

/-- ITS FALSE NEIGHBOUR: 'it returns false'. Refute it at one input. -/
def parenTurnedWrong : ChangeSpec := { name := "parenTurned", fn := fun _ => fun
  | [d1, d2] => { results := [.lit (.bool false)], args := [d1, d2] }
  | _ => none }
def ParenTurnedWrongFalsely : Prop := parenTurnedRow.holds Try.pinned (OpenSpec.ofChange parenTurnedWrong)

/- THE SECOND FORM. 'bulk': how many values and letters a reading holds, each counted each time it is reached (what is shared counts as often as it is met; a slice's spare places count too). A statement '..UptoSaid' is the law's where the arguments, and the package variables that the reading takes, are together of bulk at most 1048576: NARROWER than '..Said'. Prove '..Said' where nothing that the law and all that it calls make is longer than what came in: it says more and counts as full. Else prove '..UptoSaid'. A law counts once. -/
mutual
def uptoBulk {H : Type} : DataW H → Nat
  | .lit (.string bytes) => bytes.length + 1
  | .lit _ => 1
  | .nil => 1
  | .ptr d => uptoBulk d + 1
  | .slice elems spare => uptoBulkAll elems + uptoBulkAll spare + 1
  | .agg parts => uptoBulkAll parts + 1
  | .iface _ d => uptoBulk d + 1
  | .map entries => uptoBulkEntries entries + 1
  | .held _ => 1
def uptoBulkAll {H : Type} : List (DataW H) → Nat
  | [] => 0
  | d :: r => uptoBulk d + uptoBulkAll r
def uptoBulkEntries {H : Type} : List (Lit × DataW H) → Nat
  | [] => 0
  | x :: r => uptoBulkEntry x + uptoBulkEntries r
def uptoBulkEntry {H : Type} : Lit × DataW H → Nat
  | (.string bytes, d) => bytes.length + uptoBulk d + 1
  | (_, d) => uptoBulk d + 1
 end
def uptoSmall : (H : Type) → List (DataW H) → Bool := fun _ ds => decide (uptoBulkAll ds ≤ 1048576)
def OpenSpec.upto (s : _root_.Go.ChangeSpec) : _root_.Go.OpenSpec := { _root_.Go.OpenSpec.ofChange s with cond := some uptoSmall }

/-- 'laceworklaw02.BitsPut', WHERE WHAT IT READS IS OF BULK AT MOST 1048576: true; the input reads as it did. -/
def bitsPutUptoRow : OpenClaim := { program := "ytdhokioiloggeaa", sum := "7d855fcacec4347e2e5239aadbe1204d4286b6c7efa12a3acbb8a37fbdf26bc8", func := "lacework/laceworklaw02.BitsPut", spec := "bitsPut", apart := false, narrowed := true }
def BitsPutUptoSaid : Prop := bitsPutUptoRow.holds Try.pinned (OpenSpec.upto bitsPutSpec)

/-- 'laceworklaw02.BitsOf', WHERE WHAT IT READS IS OF BULK AT MOST 1048576: true; the input reads as it did. -/
def bitsOfUptoRow : OpenClaim := { program := "ytdhokioiloggeaa", sum := "7d855fcacec4347e2e5239aadbe1204d4286b6c7efa12a3acbb8a37fbdf26bc8", func := "lacework/laceworklaw02.BitsOf", spec := "bitsOf", apart := false, narrowed := true }
def BitsOfUptoSaid : Prop := bitsOfUptoRow.holds Try.pinned (OpenSpec.upto bitsOfSpec)

/-- 'laceworklaw02.BitsEach', WHERE WHAT IT READS IS OF BULK AT MOST 1048576: true; the input reads as it did. -/
def bitsEachUptoRow : OpenClaim := { program := "ytdhokioiloggeaa", sum := "7d855fcacec4347e2e5239aadbe1204d4286b6c7efa12a3acbb8a37fbdf26bc8", func := "lacework/laceworklaw02.BitsEach", spec := "bitsEach", inPlace := ["internal/abi.NoEscape"], apart := false, narrowed := true }
def BitsEachUptoSaid : Prop := bitsEachUptoRow.holds Try.pinned (OpenSpec.upto bitsEachSpec)

/-- 'laceworklaw02.BitsReads', WHERE WHAT IT READS IS OF BULK AT MOST 1048576: true; the input reads as it did. -/
def bitsReadsUptoRow : OpenClaim := { program := "ytdhokioiloggeaa", sum := "7d855fcacec4347e2e5239aadbe1204d4286b6c7efa12a3acbb8a37fbdf26bc8", func := "lacework/laceworklaw02.BitsReads", spec := "bitsReads", apart := false, narrowed := true }
def BitsReadsUptoSaid : Prop := bitsReadsUptoRow.holds Try.pinned (OpenSpec.upto bitsReadsSpec)

/-- 'laceworklaw02.BitsBytes', WHERE WHAT IT READS IS OF BULK AT MOST 1048576: true; the input reads as it did. -/
def bitsBytesUptoRow : OpenClaim := { program := "ytdhokioiloggeaa", sum := "7d855fcacec4347e2e5239aadbe1204d4286b6c7efa12a3acbb8a37fbdf26bc8", func := "lacework/laceworklaw02.BitsBytes", spec := "bitsBytes", inPlace := ["internal/abi.NoEscape"], apart := false, narrowed := true }
def BitsBytesUptoSaid : Prop := bitsBytesUptoRow.holds Try.pinned (OpenSpec.upto bitsBytesSpec)

/-- 'laceworklaw02.BitsParts', WHERE WHAT IT READS IS OF BULK AT MOST 1048576: true; the input reads as it did. -/
def bitsPartsUptoRow : OpenClaim := { program := "ytdhokioiloggeaa", sum := "7d855fcacec4347e2e5239aadbe1204d4286b6c7efa12a3acbb8a37fbdf26bc8", func := "lacework/laceworklaw02.BitsParts", spec := "bitsParts", inPlace := ["internal/abi.NoEscape"], apart := false, narrowed := true }
def BitsPartsUptoSaid : Prop := bitsPartsUptoRow.holds Try.pinned (OpenSpec.upto bitsPartsSpec)

/-- 'laceworklaw03.RankEach', WHERE WHAT IT READS IS OF BULK AT MOST 1048576: true; the input reads as it did. -/
def rankEachUptoRow : OpenClaim := { program := "ytdhokioiloggeaa", sum := "7d855fcacec4347e2e5239aadbe1204d4286b6c7efa12a3acbb8a37fbdf26bc8", func := "lacework/laceworklaw03.RankEach", spec := "rankEach", apart := false, narrowed := true }
def RankEachUptoSaid : Prop := rankEachUptoRow.holds Try.pinned (OpenSpec.upto rankEachSpec)

/-- 'laceworklaw03.RankTurned', WHERE WHAT IT READS IS OF BULK AT MOST 1048576: true; the input reads as it did. -/
def rankTurnedUptoRow : OpenClaim := { program := "ytdhokioiloggeaa", sum := "7d855fcacec4347e2e5239aadbe1204d4286b6c7efa12a3acbb8a37fbdf26bc8", func := "lacework/laceworklaw03.RankTurned", spec := "rankTurned", apart := false, narrowed := true }
def RankTurnedUptoSaid : Prop := rankTurnedUptoRow.holds Try.pinned (OpenSpec.upto rankTurnedSpec)

/-- 'laceworklaw03.RankLong', WHERE WHAT IT READS IS OF BULK AT MOST 1048576: true; the input reads as it did. -/
def rankLongUptoRow : OpenClaim := { program := "ytdhokioiloggeaa", sum := "7d855fcacec4347e2e5239aadbe1204d4286b6c7efa12a3acbb8a37fbdf26bc8", func := "lacework/laceworklaw03.RankLong", spec := "rankLong", apart := false, narrowed := true }
def RankLongUptoSaid : Prop := rankLongUptoRow.holds Try.pinned (OpenSpec.upto rankLongSpec)

/-- 'laceworklaw03.RankCounts', WHERE WHAT IT READS IS OF BULK AT MOST 1048576: true; the input reads as it did. -/
def rankCountsUptoRow : OpenClaim := { program := "ytdhokioiloggeaa", sum := "7d855fcacec4347e2e5239aadbe1204d4286b6c7efa12a3acbb8a37fbdf26bc8", func := "lacework/laceworklaw03.RankCounts", spec := "rankCounts", apart := false, narrowed := true }
def RankCountsUptoSaid : Prop := rankCountsUptoRow.holds Try.pinned (OpenSpec.upto rankCountsSpec)

/-- 'laceworklaw03.RankParts', WHERE WHAT IT READS IS OF BULK AT MOST 1048576: true; the input reads as it did. -/
def rankPartsUptoRow : OpenClaim := { program := "ytdhokioiloggeaa", sum := "7d855fcacec4347e2e5239aadbe1204d4286b6c7efa12a3acbb8a37fbdf26bc8", func := "lacework/laceworklaw03.RankParts", spec := "rankParts", apart := false, narrowed := true }
def RankPartsUptoSaid : Prop := rankPartsUptoRow.holds Try.pinned (OpenSpec.upto rankPartsSpec)

/-- 'laceworklaw06.ParenCounts', WHERE WHAT IT READS IS OF BULK AT MOST 1048576: true; the input reads as it did. -/
def parenCountsUptoRow : OpenClaim := { program := "ytdhokioiloggeaa", sum := "7d855fcacec4347e2e5239aadbe1204d4286b6c7efa12a3acbb8a37fbdf26bc8", func := "lacework/laceworklaw06.ParenCounts", spec := "parenCounts", apart := false, narrowed := true }
def ParenCountsUptoSaid : Prop := parenCountsUptoRow.holds Try.pinned (OpenSpec.upto parenCountsSpec)

/-- 'laceworklaw06.ParenBalanced', WHERE WHAT IT READS IS OF BULK AT MOST 1048576: true; the input reads as it did. -/
def parenBalancedUptoRow : OpenClaim := { program := "ytdhokioiloggeaa", sum := "7d855fcacec4347e2e5239aadbe1204d4286b6c7efa12a3acbb8a37fbdf26bc8", func := "lacework/laceworklaw06.ParenBalanced", spec := "parenBalanced", apart := false, narrowed := true }
def ParenBalancedUptoSaid : Prop := parenBalancedUptoRow.holds Try.pinned (OpenSpec.upto parenBalancedSpec)

/-- 'laceworklaw06.ParenTwo', WHERE WHAT IT READS IS OF BULK AT MOST 1048576: true; the input reads as it did. -/
def parenTwoUptoRow : OpenClaim := { program := "ytdhokioiloggeaa", sum := "7d855fcacec4347e2e5239aadbe1204d4286b6c7efa12a3acbb8a37fbdf26bc8", func := "lacework/laceworklaw06.ParenTwo", spec := "parenTwo", apart := false, narrowed := true }
def ParenTwoUptoSaid : Prop := parenTwoUptoRow.holds Try.pinned (OpenSpec.upto parenTwoSpec)

/-- 'laceworklaw06.ParenFinds', WHERE WHAT IT READS IS OF BULK AT MOST 1048576: true; the input reads as it did. -/
def parenFindsUptoRow : OpenClaim := { program := "ytdhokioiloggeaa", sum := "7d855fcacec4347e2e5239aadbe1204d4286b6c7efa12a3acbb8a37fbdf26bc8", func := "lacework/laceworklaw06.ParenFinds", spec := "parenFinds", apart := false, narrowed := true }
def ParenFindsUptoSaid : Prop := parenFindsUptoRow.holds Try.pinned (OpenSpec.upto parenFindsSpec)

/-- 'laceworklaw06.ParenTurned', WHERE WHAT IT READS IS OF BULK AT MOST 1048576: true; the input reads as it did. -/
def parenTurnedUptoRow : OpenClaim := { program := "ytdhokioiloggeaa", sum := "7d855fcacec4347e2e5239aadbe1204d4286b6c7efa12a3acbb8a37fbdf26bc8", func := "lacework/laceworklaw06.ParenTurned", spec := "parenTurned", apart := false, narrowed := true }
def ParenTurnedUptoSaid : Prop := parenTurnedUptoRow.holds Try.pinned (OpenSpec.upto parenTurnedSpec)

end Rows
end Go.Proofs.Ytdhokioiloggeaa
