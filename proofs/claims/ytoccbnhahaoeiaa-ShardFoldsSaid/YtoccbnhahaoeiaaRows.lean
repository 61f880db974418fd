/-
  No cell of these rows narrows 'for every input' (looked for: loops, veiled, ifaces, maps, wideKeys, modest, calm, conditions, laid).
  DERIVED. THE GIVEN ROWS OF THIS SEAT. 9 by the template 'for every input the law returns true; each argument reads behind the call as it read before'; 0 by the template 'total and deterministic' (their statements: YtoccbnhahaoeiaaTotals.lean).
  GIVEN WITH THE SEED: the statements are not yours to turn. If you find one false, say at which input.
  Laid BY PROGRAM, IN A SANDBOX (cutbox-rows.mjs): the forced cells as the released guide's own fill.sh prints them over the translation b0f2cdcb51d67700… (all of the seat's roots in one cut). By AI agents, Wed Nov 11 2026. No macro, syntax, notation, axiom, sorry.
-/
import Derived.Test.YtoccbnhahaoeiaaChecked
import GoSem.Claim
import GoSem.ClaimJoined
import GoSem.ClaimMapViews
import Derived.JoinedTies
import Derived.KernelRfl
namespace Go.Proofs.Ytoccbnhahaoeiaa
/- THE CELL 'sum', in the pinned program and in every row, IS THE sha256 OF THE DUMP (.gsa) THAT YtoccbnhahaoeiaaProg.lean LOADS. Nothing in Lean hashes anything: it is a label: what it is worth is what the hold of that sum in a sandbox is worth. -/
noncomputable def Try.pinned : Pinned := { name := "ytoccbnhahaoeiaa", sum := "b0f2cdcb51d677003311f9d9df27289c28a0b06290e9f2483f10e2dcc8079108", checked := Try.checked }
namespace Rows
def none {H : Type} : Left H := { results := [], args := [] }

/-- 'spatelaw7.ShardNames': WHATEVER THE INPUT: true; the input reads as it did. -/
def shardNamesSpec : ChangeSpec := { name := "shardNames", fn := fun _ => fun
  | [] => { results := [.lit (.bool true)], args := [] }
  | _ => none }
def shardNamesRow : OpenClaim := { program := "ytoccbnhahaoeiaa", sum := "b0f2cdcb51d677003311f9d9df27289c28a0b06290e9f2483f10e2dcc8079108", func := "spate/spatelaw7.ShardNames", spec := "shardNames", inPlace := ["math/bits.Add64"], unfollowed := true, recurses := true, apart := false }
def ShardNamesSaid : Prop := shardNamesRow.holds Try.pinned (OpenSpec.ofChange shardNamesSpec)

/-- ITS FALSE NEIGHBOUR: 'it returns false'. Refute it at one input. -/
def shardNamesWrong : ChangeSpec := { name := "shardNames", fn := fun _ => fun
  | [] => { results := [.lit (.bool false)], args := [] }
  | _ => none }
def ShardNamesWrongFalsely : Prop := shardNamesRow.holds Try.pinned (OpenSpec.ofChange shardNamesWrong)

/-- 'spatelaw7.ShardFolds': WHATEVER THE INPUT: true; the input reads as it did. -/
def shardFoldsSpec : ChangeSpec := { name := "shardFolds", fn := fun _ => fun
  | [d1, d2, d3] => { results := [.lit (.bool true)], args := [d1, d2, d3] }
  | _ => none }
def shardFoldsRow : OpenClaim := { program := "ytoccbnhahaoeiaa", sum := "b0f2cdcb51d677003311f9d9df27289c28a0b06290e9f2483f10e2dcc8079108", func := "spate/spatelaw7.ShardFolds", spec := "shardFolds", inPlace := ["math/bits.Add64"], unfollowed := true, recurses := true, apart := false }
def ShardFoldsSaid : Prop := shardFoldsRow.holds Try.pinned (OpenSpec.ofChange shardFoldsSpec)

/-- ITS FALSE NEIGHBOUR: 'it returns false'. Refute it at one input. -/
def shardFoldsWrong : ChangeSpec := { name := "shardFolds", fn := fun _ => fun
  | [d1, d2, d3] => { results := [.lit (.bool false)], args := [d1, d2, d3] }
  | _ => none }
def ShardFoldsWrongFalsely : Prop := shardFoldsRow.holds Try.pinned (OpenSpec.ofChange shardFoldsWrong)

/-- 'spatelaw7.ShardEdges': WHATEVER THE INPUT: true; the input reads as it did. -/
def shardEdgesSpec : ChangeSpec := { name := "shardEdges", fn := fun _ => fun
  | [d1, d2, d3, d4] => { results := [.lit (.bool true)], args := [d1, d2, d3, d4] }
  | _ => none }
def shardEdgesRow : OpenClaim := { program := "ytoccbnhahaoeiaa", sum := "b0f2cdcb51d677003311f9d9df27289c28a0b06290e9f2483f10e2dcc8079108", func := "spate/spatelaw7.ShardEdges", spec := "shardEdges", inPlace := ["math/bits.Add64"], unfollowed := true, recurses := true, apart := false }
def ShardEdgesSaid : Prop := shardEdgesRow.holds Try.pinned (OpenSpec.ofChange shardEdgesSpec)

/-- ITS FALSE NEIGHBOUR: 'it returns false'. Refute it at one input. -/
def shardEdgesWrong : ChangeSpec := { name := "shardEdges", fn := fun _ => fun
  | [d1, d2, d3, d4] => { results := [.lit (.bool false)], args := [d1, d2, d3, d4] }
  | _ => none }
def ShardEdgesWrongFalsely : Prop := shardEdgesRow.holds Try.pinned (OpenSpec.ofChange shardEdgesWrong)

/-- 'spatelaw7.ShardDeep': WHATEVER THE INPUT: true; the input reads as it did. -/
def shardDeepSpec : ChangeSpec := { name := "shardDeep", fn := fun _ => fun
  | [d1, d2, d3] => { results := [.lit (.bool true)], args := [d1, d2, d3] }
  | _ => none }
def shardDeepRow : OpenClaim := { program := "ytoccbnhahaoeiaa", sum := "b0f2cdcb51d677003311f9d9df27289c28a0b06290e9f2483f10e2dcc8079108", func := "spate/spatelaw7.ShardDeep", spec := "shardDeep", inPlace := ["math/bits.Add64"], unfollowed := true, recurses := true, apart := false }
def ShardDeepSaid : Prop := shardDeepRow.holds Try.pinned (OpenSpec.ofChange shardDeepSpec)

/-- ITS FALSE NEIGHBOUR: 'it returns false'. Refute it at one input. -/
def shardDeepWrong : ChangeSpec := { name := "shardDeep", fn := fun _ => fun
  | [d1, d2, d3] => { results := [.lit (.bool false)], args := [d1, d2, d3] }
  | _ => none }
def ShardDeepWrongFalsely : Prop := shardDeepRow.holds Try.pinned (OpenSpec.ofChange shardDeepWrong)

/-- 'spatelaw7.ShardGrows': WHATEVER THE INPUT: true; the input reads as it did. -/
def shardGrowsSpec : ChangeSpec := { name := "shardGrows", fn := fun _ => fun
  | [d1, d2] => { results := [.lit (.bool true)], args := [d1, d2] }
  | _ => none }
def shardGrowsRow : OpenClaim := { program := "ytoccbnhahaoeiaa", sum := "b0f2cdcb51d677003311f9d9df27289c28a0b06290e9f2483f10e2dcc8079108", func := "spate/spatelaw7.ShardGrows", spec := "shardGrows", inPlace := ["math/bits.Add64", "internal/bytealg.abigen_runtime_cmpstring"], unfollowed := true, recurses := true, apart := false }
def ShardGrowsSaid : Prop := shardGrowsRow.holds Try.pinned (OpenSpec.ofChange shardGrowsSpec)

/-- ITS FALSE NEIGHBOUR: 'it returns false'. Refute it at one input. -/
def shardGrowsWrong : ChangeSpec := { name := "shardGrows", fn := fun _ => fun
  | [d1, d2] => { results := [.lit (.bool false)], args := [d1, d2] }
  | _ => none }
def ShardGrowsWrongFalsely : Prop := shardGrowsRow.holds Try.pinned (OpenSpec.ofChange shardGrowsWrong)

/-- 'spatelaw7.ShardPast': WHATEVER THE INPUT: true; the input reads as it did. -/
def shardPastSpec : ChangeSpec := { name := "shardPast", fn := fun _ => fun
  | [d1, d2] => { results := [.lit (.bool true)], args := [d1, d2] }
  | _ => none }
def shardPastRow : OpenClaim := { program := "ytoccbnhahaoeiaa", sum := "b0f2cdcb51d677003311f9d9df27289c28a0b06290e9f2483f10e2dcc8079108", func := "spate/spatelaw7.ShardPast", spec := "shardPast", inPlace := ["internal/bytealg.abigen_runtime_cmpstring", "math/bits.Add64"], unfollowed := true, recurses := true, apart := false }
def ShardPastSaid : Prop := shardPastRow.holds Try.pinned (OpenSpec.ofChange shardPastSpec)

/-- ITS FALSE NEIGHBOUR: 'it returns false'. Refute it at one input. -/
def shardPastWrong : ChangeSpec := { name := "shardPast", fn := fun _ => fun
  | [d1, d2] => { results := [.lit (.bool false)], args := [d1, d2] }
  | _ => none }
def ShardPastWrongFalsely : Prop := shardPastRow.holds Try.pinned (OpenSpec.ofChange shardPastWrong)

/-- 'spatelaw7.ShardPieces': WHATEVER THE INPUT: true; the input reads as it did. -/
def shardPiecesSpec : ChangeSpec := { name := "shardPieces", fn := fun _ => fun
  | [d1, d2, d3, d4, d5] => { results := [.lit (.bool true)], args := [d1, d2, d3, d4, d5] }
  | _ => none }
def shardPiecesRow : OpenClaim := { program := "ytoccbnhahaoeiaa", sum := "b0f2cdcb51d677003311f9d9df27289c28a0b06290e9f2483f10e2dcc8079108", func := "spate/spatelaw7.ShardPieces", spec := "shardPieces", inPlace := ["math/bits.Add64", "internal/bytealg.abigen_runtime_cmpstring"], unfollowed := true, recurses := true, apart := false }
def ShardPiecesSaid : Prop := shardPiecesRow.holds Try.pinned (OpenSpec.ofChange shardPiecesSpec)

/-- ITS FALSE NEIGHBOUR: 'it returns false'. Refute it at one input. -/
def shardPiecesWrong : ChangeSpec := { name := "shardPieces", fn := fun _ => fun
  | [d1, d2, d3, d4, d5] => { results := [.lit (.bool false)], args := [d1, d2, d3, d4, d5] }
  | _ => none }
def ShardPiecesWrongFalsely : Prop := shardPiecesRow.holds Try.pinned (OpenSpec.ofChange shardPiecesWrong)

/-- 'spatelaw7.ShardOwn': WHATEVER THE INPUT: true; the input reads as it did. -/
def shardOwnSpec : ChangeSpec := { name := "shardOwn", fn := fun _ => fun
  | [d] => { results := [.lit (.bool true)], args := [d] }
  | _ => none }
def shardOwnRow : OpenClaim := { program := "ytoccbnhahaoeiaa", sum := "b0f2cdcb51d677003311f9d9df27289c28a0b06290e9f2483f10e2dcc8079108", func := "spate/spatelaw7.ShardOwn", spec := "shardOwn", inPlace := ["math/bits.Add64", "internal/bytealg.abigen_runtime_cmpstring"], unfollowed := true, recurses := true, apart := false }
def ShardOwnSaid : Prop := shardOwnRow.holds Try.pinned (OpenSpec.ofChange shardOwnSpec)

/-- ITS FALSE NEIGHBOUR: 'it returns false'. Refute it at one input. -/
def shardOwnWrong : ChangeSpec := { name := "shardOwn", fn := fun _ => fun
  | [d] => { results := [.lit (.bool false)], args := [d] }
  | _ => none }
def ShardOwnWrongFalsely : Prop := shardOwnRow.holds Try.pinned (OpenSpec.ofChange shardOwnWrong)

/-- 'spatelaw7.ShardAnswers': WHATEVER THE INPUT: true; the input reads as it did. -/
def shardAnswersSpec : ChangeSpec := { name := "shardAnswers", fn := fun _ => fun
  | [d] => { results := [.lit (.bool true)], args := [d] }
  | _ => none }
def shardAnswersRow : OpenClaim := { program := "ytoccbnhahaoeiaa", sum := "b0f2cdcb51d677003311f9d9df27289c28a0b06290e9f2483f10e2dcc8079108", func := "spate/spatelaw7.ShardAnswers", spec := "shardAnswers", inPlace := ["math/bits.Add64", "internal/bytealg.abigen_runtime_cmpstring"], unfollowed := true, recurses := true, apart := false }
def ShardAnswersSaid : Prop := shardAnswersRow.holds Try.pinned (OpenSpec.ofChange shardAnswersSpec)

/-- ITS FALSE NEIGHBOUR: 'it returns false'. Refute it at one input. -/
def shardAnswersWrong : ChangeSpec := { name := "shardAnswers", fn := fun _ => fun
  | [d] => { results := [.lit (.bool false)], args := [d] }
  | _ => none }
def ShardAnswersWrongFalsely : Prop := shardAnswersRow.holds Try.pinned (OpenSpec.ofChange shardAnswersWrong)

/- THE SECOND FORM. 'bulk': how many values and letters a reading holds, each counted each time it is reached (what is shared counts as often as it is met; a slice's spare places count too). A statement '..UptoSaid' is the law's where the arguments, and the package variables that the reading takes, are together of bulk at most 1048576: NARROWER than '..Said'. Prove '..Said' where nothing that the law and all that it calls make is longer than what came in: it says more and counts as full. Else prove '..UptoSaid'. A law counts once. -/
mutual
def uptoBulk {H : Type} : DataW H → Nat
  | .lit (.string bytes) => bytes.length + 1
  | .lit _ => 1
  | .nil => 1
  | .ptr d => uptoBulk d + 1
  | .slice elems spare => uptoBulkAll elems + uptoBulkAll spare + 1
  | .agg parts => uptoBulkAll parts + 1
  | .iface _ d => uptoBulk d + 1
  | .map entries => uptoBulkEntries entries + 1
  | .held _ => 1
def uptoBulkAll {H : Type} : List (DataW H) → Nat
  | [] => 0
  | d :: r => uptoBulk d + uptoBulkAll r
def uptoBulkEntries {H : Type} : List (Lit × DataW H) → Nat
  | [] => 0
  | x :: r => uptoBulkEntry x + uptoBulkEntries r
def uptoBulkEntry {H : Type} : Lit × DataW H → Nat
  | (.string bytes, d) => bytes.length + uptoBulk d + 1
  | (_, d) => uptoBulk d + 1
 end
def uptoSmall : (H : Type) → List (DataW H) → Bool := fun _ ds => decide (uptoBulkAll ds ≤ 1048576)
def OpenSpec.upto (s : _root_.Go.ChangeSpec) : _root_.Go.OpenSpec := { _root_.Go.OpenSpec.ofChange s with cond := some uptoSmall }

/-- 'spatelaw7.ShardNames', WHERE WHAT IT READS IS OF BULK AT MOST 1048576: true; the input reads as it did. -/
def shardNamesUptoRow : OpenClaim := { program := "ytoccbnhahaoeiaa", sum := "b0f2cdcb51d677003311f9d9df27289c28a0b06290e9f2483f10e2dcc8079108", func := "spate/spatelaw7.ShardNames", spec := "shardNames", inPlace := ["math/bits.Add64"], unfollowed := true, recurses := true, apart := false, narrowed := true }
def ShardNamesUptoSaid : Prop := shardNamesUptoRow.holds Try.pinned (OpenSpec.upto shardNamesSpec)

/-- 'spatelaw7.ShardFolds', WHERE WHAT IT READS IS OF BULK AT MOST 1048576: true; the input reads as it did. -/
def shardFoldsUptoRow : OpenClaim := { program := "ytoccbnhahaoeiaa", sum := "b0f2cdcb51d677003311f9d9df27289c28a0b06290e9f2483f10e2dcc8079108", func := "spate/spatelaw7.ShardFolds", spec := "shardFolds", inPlace := ["math/bits.Add64"], unfollowed := true, recurses := true, apart := false, narrowed := true }
def ShardFoldsUptoSaid : Prop := shardFoldsUptoRow.holds Try.pinned (OpenSpec.upto shardFoldsSpec)

/-- 'spatelaw7.ShardEdges', WHERE WHAT IT READS IS OF BULK AT MOST 1048576: true; the input reads as it did. -/
def shardEdgesUptoRow : OpenClaim := { program := "ytoccbnhahaoeiaa", sum := "b0f2cdcb51d677003311f9d9df27289c28a0b06290e9f2483f10e2dcc8079108", func := "spate/spatelaw7.ShardEdges", spec := "shardEdges", inPlace := ["math/bits.Add64"], unfollowed := true, recurses := true, apart := false, narrowed := true }
def ShardEdgesUptoSaid : Prop := shardEdgesUptoRow.holds Try.pinned (OpenSpec.upto shardEdgesSpec)

/-- 'spatelaw7.ShardDeep', WHERE WHAT IT READS IS OF BULK AT MOST 1048576: true; the input reads as it did. -/
def shardDeepUptoRow : OpenClaim := { program := "ytoccbnhahaoeiaa", sum := "b0f2cdcb51d677003311f9d9df27289c28a0b06290e9f2483f10e2dcc8079108", func := "spate/spatelaw7.ShardDeep", spec := "shardDeep", inPlace := ["math/bits.Add64"], unfollowed := true, recurses := true, apart := false, narrowed := true }
def ShardDeepUptoSaid : Prop := shardDeepUptoRow.holds Try.pinned (OpenSpec.upto shardDeepSpec)

/-- 'spatelaw7.ShardGrows', WHERE WHAT IT READS IS OF BULK AT MOST 1048576: true; the input reads as it did. -/
def shardGrowsUptoRow : OpenClaim := { program := "ytoccbnhahaoeiaa", sum := "b0f2cdcb51d677003311f9d9df27289c28a0b06290e9f2483f10e2dcc8079108", func := "spate/spatelaw7.ShardGrows", spec := "shardGrows", inPlace := ["math/bits.Add64", "internal/bytealg.abigen_runtime_cmpstring"], unfollowed := true, recurses := true, apart := false, narrowed := true }
def ShardGrowsUptoSaid : Prop := shardGrowsUptoRow.holds Try.pinned (OpenSpec.upto shardGrowsSpec)

/-- 'spatelaw7.ShardPast', WHERE WHAT IT READS IS OF BULK AT MOST 1048576: true; the input reads as it did. -/
def shardPastUptoRow : OpenClaim := { program := "ytoccbnhahaoeiaa", sum := "b0f2cdcb51d677003311f9d9df27289c28a0b06290e9f2483f10e2dcc8079108", func := "spate/spatelaw7.ShardPast", spec := "shardPast", inPlace := ["internal/bytealg.abigen_runtime_cmpstring", "math/bits.Add64"], unfollowed := true, recurses := true, apart := false, narrowed := true }
def ShardPastUptoSaid : Prop := shardPastUptoRow.holds Try.pinned (OpenSpec.upto shardPastSpec)

/-- 'spatelaw7.ShardPieces', WHERE WHAT IT READS IS OF BULK AT MOST 1048576: true; the input reads as it did. -/
def shardPiecesUptoRow : OpenClaim := { program := "ytoccbnhahaoeiaa", sum := "b0f2cdcb51d677003311f9d9df27289c28a0b06290e9f2483f10e2dcc8079108", func := "spate/spatelaw7.ShardPieces", spec := "shardPieces", inPlace := ["math/bits.Add64", "internal/bytealg.abigen_runtime_cmpstring"], unfollowed := true, recurses := true, apart := false, narrowed := true }
def ShardPiecesUptoSaid : Prop := shardPiecesUptoRow.holds Try.pinned (OpenSpec.upto shardPiecesSpec)

/-- 'spatelaw7.ShardOwn', WHERE WHAT IT READS IS OF BULK AT MOST 1048576: true; the input reads as it did. -/
def shardOwnUptoRow : OpenClaim := { program := "ytoccbnhahaoeiaa", sum := "b0f2cdcb51d677003311f9d9df27289c28a0b06290e9f2483f10e2dcc8079108", func := "spate/spatelaw7.ShardOwn", spec := "shardOwn", inPlace := ["math/bits.Add64", "internal/bytealg.abigen_runtime_cmpstring"], unfollowed := true, recurses := true, apart := false, narrowed := true }
def ShardOwnUptoSaid : Prop := shardOwnUptoRow.holds Try.pinned (OpenSpec.upto shardOwnSpec)

/-- 'spatelaw7.ShardAnswers', WHERE WHAT IT READS IS OF BULK AT MOST 1048576: true; the input reads as it did. -/
def shardAnswersUptoRow : OpenClaim := { program := "ytoccbnhahaoeiaa", sum := "b0f2cdcb51d677003311f9d9df27289c28a0b06290e9f2483f10e2dcc8079108", func := "spate/spatelaw7.ShardAnswers", spec := "shardAnswers", inPlace := ["math/bits.Add64", "internal/bytealg.abigen_runtime_cmpstring"], unfollowed := true, recurses := true, apart := false, narrowed := true }
def ShardAnswersUptoSaid : Prop := shardAnswersUptoRow.holds Try.pinned (OpenSpec.upto shardAnswersSpec)

end Rows
end Go.Proofs.Ytoccbnhahaoeiaa
