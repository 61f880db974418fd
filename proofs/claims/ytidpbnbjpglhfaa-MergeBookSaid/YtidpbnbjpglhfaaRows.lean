/-
  No cell of these rows narrows 'for every input' (looked for: loops, veiled, ifaces, maps, wideKeys, modest, calm, conditions, laid).
  DERIVED. THE GIVEN ROWS OF THIS SEAT. 12 by the template 'for every input the law returns true; each argument reads behind the call as it read before'; 0 by the template 'total and deterministic' (their statements: YtidpbnbjpglhfaaTotals.lean).
  GIVEN WITH THE SEED: the statements are not yours to turn. If you find one false, say at which input.
  Laid BY PROGRAM, IN A SANDBOX (cutbox-rows.mjs): the forced cells as the released guide's own fill.sh prints them over the translation 3f47e1d2f8b1c5a0… (all of the seat's roots in one cut). By AI agents, Wed Nov 11 2026. No macro, syntax, notation, axiom, sorry.
-/
import Derived.Test.YtidpbnbjpglhfaaChecked
import GoSem.Claim
import GoSem.ClaimJoined
import GoSem.ClaimMapViews
import Derived.JoinedTies
import Derived.KernelRfl
namespace Go.Proofs.Ytidpbnbjpglhfaa
/- THE CELL 'sum', in the pinned program and in every row, IS THE sha256 OF THE DUMP (.gsa) THAT YtidpbnbjpglhfaaProg.lean LOADS. Nothing in Lean hashes anything: it is a label: what it is worth is what the hold of that sum in a sandbox is worth. -/
noncomputable def Try.pinned : Pinned := { name := "ytidpbnbjpglhfaa", sum := "3f47e1d2f8b1c5a0336a2532e4f9db231fdaded39f0754041f8bcffd5f78523f", checked := Try.checked }
namespace Rows
def none {H : Type} : Left H := { results := [], args := [] }

/-- 'spatelaw8.MergeNames': WHATEVER THE INPUT: true; the input reads as it did. -/
def mergeNamesSpec : ChangeSpec := { name := "mergeNames", fn := fun _ => fun
  | [] => { results := [.lit (.bool true)], args := [] }
  | _ => none }
def mergeNamesRow : OpenClaim := { program := "ytidpbnbjpglhfaa", sum := "3f47e1d2f8b1c5a0336a2532e4f9db231fdaded39f0754041f8bcffd5f78523f", func := "spate/spatelaw8.MergeNames", spec := "mergeNames", apart := false }
def MergeNamesSaid : Prop := mergeNamesRow.holds Try.pinned (OpenSpec.ofChange mergeNamesSpec)

/-- ITS FALSE NEIGHBOUR: 'it returns false'. Refute it at one input. -/
def mergeNamesWrong : ChangeSpec := { name := "mergeNames", fn := fun _ => fun
  | [] => { results := [.lit (.bool false)], args := [] }
  | _ => none }
def MergeNamesWrongFalsely : Prop := mergeNamesRow.holds Try.pinned (OpenSpec.ofChange mergeNamesWrong)

/-- 'spatelaw8.MergeLists': WHATEVER THE INPUT: true; the input reads as it did. -/
def mergeListsSpec : ChangeSpec := { name := "mergeLists", fn := fun _ => fun
  | [d1, d2, d3] => { results := [.lit (.bool true)], args := [d1, d2, d3] }
  | _ => none }
def mergeListsRow : OpenClaim := { program := "ytidpbnbjpglhfaa", sum := "3f47e1d2f8b1c5a0336a2532e4f9db231fdaded39f0754041f8bcffd5f78523f", func := "spate/spatelaw8.MergeLists", spec := "mergeLists", recurses := true, apart := false }
def MergeListsSaid : Prop := mergeListsRow.holds Try.pinned (OpenSpec.ofChange mergeListsSpec)

/-- ITS FALSE NEIGHBOUR: 'it returns false'. Refute it at one input. -/
def mergeListsWrong : ChangeSpec := { name := "mergeLists", fn := fun _ => fun
  | [d1, d2, d3] => { results := [.lit (.bool false)], args := [d1, d2, d3] }
  | _ => none }
def MergeListsWrongFalsely : Prop := mergeListsRow.holds Try.pinned (OpenSpec.ofChange mergeListsWrong)

/-- 'spatelaw8.MergeBack': WHATEVER THE INPUT: true; the input reads as it did. -/
def mergeBackSpec : ChangeSpec := { name := "mergeBack", fn := fun _ => fun
  | [d] => { results := [.lit (.bool true)], args := [d] }
  | _ => none }
def mergeBackRow : OpenClaim := { program := "ytidpbnbjpglhfaa", sum := "3f47e1d2f8b1c5a0336a2532e4f9db231fdaded39f0754041f8bcffd5f78523f", func := "spate/spatelaw8.MergeBack", spec := "mergeBack", recurses := true, apart := false }
def MergeBackSaid : Prop := mergeBackRow.holds Try.pinned (OpenSpec.ofChange mergeBackSpec)

/-- ITS FALSE NEIGHBOUR: 'it returns false'. Refute it at one input. -/
def mergeBackWrong : ChangeSpec := { name := "mergeBack", fn := fun _ => fun
  | [d] => { results := [.lit (.bool false)], args := [d] }
  | _ => none }
def MergeBackWrongFalsely : Prop := mergeBackRow.holds Try.pinned (OpenSpec.ofChange mergeBackWrong)

/-- 'spatelaw8.MergeKeys': WHATEVER THE INPUT: true; the input reads as it did. -/
def mergeKeysSpec : ChangeSpec := { name := "mergeKeys", fn := fun _ => fun
  | [d1, d2, d3] => { results := [.lit (.bool true)], args := [d1, d2, d3] }
  | _ => none }
def mergeKeysRow : OpenClaim := { program := "ytidpbnbjpglhfaa", sum := "3f47e1d2f8b1c5a0336a2532e4f9db231fdaded39f0754041f8bcffd5f78523f", func := "spate/spatelaw8.MergeKeys", spec := "mergeKeys", inPlace := ["internal/bytealg.abigen_runtime_cmpstring"], recurses := true, apart := false }
def MergeKeysSaid : Prop := mergeKeysRow.holds Try.pinned (OpenSpec.ofChange mergeKeysSpec)

/-- ITS FALSE NEIGHBOUR: 'it returns false'. Refute it at one input. -/
def mergeKeysWrong : ChangeSpec := { name := "mergeKeys", fn := fun _ => fun
  | [d1, d2, d3] => { results := [.lit (.bool false)], args := [d1, d2, d3] }
  | _ => none }
def MergeKeysWrongFalsely : Prop := mergeKeysRow.holds Try.pinned (OpenSpec.ofChange mergeKeysWrong)

/-- 'spatelaw8.MergeTurns': WHATEVER THE INPUT: true; the input reads as it did. -/
def mergeTurnsSpec : ChangeSpec := { name := "mergeTurns", fn := fun _ => fun
  | [d1, d2, d3, d4, d5] => { results := [.lit (.bool true)], args := [d1, d2, d3, d4, d5] }
  | _ => none }
def mergeTurnsRow : OpenClaim := { program := "ytidpbnbjpglhfaa", sum := "3f47e1d2f8b1c5a0336a2532e4f9db231fdaded39f0754041f8bcffd5f78523f", func := "spate/spatelaw8.MergeTurns", spec := "mergeTurns", inPlace := ["internal/bytealg.abigen_runtime_cmpstring"], recurses := true, apart := false }
def MergeTurnsSaid : Prop := mergeTurnsRow.holds Try.pinned (OpenSpec.ofChange mergeTurnsSpec)

/-- ITS FALSE NEIGHBOUR: 'it returns false'. Refute it at one input. -/
def mergeTurnsWrong : ChangeSpec := { name := "mergeTurns", fn := fun _ => fun
  | [d1, d2, d3, d4, d5] => { results := [.lit (.bool false)], args := [d1, d2, d3, d4, d5] }
  | _ => none }
def MergeTurnsWrongFalsely : Prop := mergeTurnsRow.holds Try.pinned (OpenSpec.ofChange mergeTurnsWrong)

/-- 'spatelaw8.MergeOrder': WHATEVER THE INPUT: true; the input reads as it did. -/
def mergeOrderSpec : ChangeSpec := { name := "mergeOrder", fn := fun _ => fun
  | [d1, d2, d3] => { results := [.lit (.bool true)], args := [d1, d2, d3] }
  | _ => none }
def mergeOrderRow : OpenClaim := { program := "ytidpbnbjpglhfaa", sum := "3f47e1d2f8b1c5a0336a2532e4f9db231fdaded39f0754041f8bcffd5f78523f", func := "spate/spatelaw8.MergeOrder", spec := "mergeOrder", inPlace := ["internal/bytealg.abigen_runtime_cmpstring"], recurses := true, apart := false }
def MergeOrderSaid : Prop := mergeOrderRow.holds Try.pinned (OpenSpec.ofChange mergeOrderSpec)

/-- ITS FALSE NEIGHBOUR: 'it returns false'. Refute it at one input. -/
def mergeOrderWrong : ChangeSpec := { name := "mergeOrder", fn := fun _ => fun
  | [d1, d2, d3] => { results := [.lit (.bool false)], args := [d1, d2, d3] }
  | _ => none }
def MergeOrderWrongFalsely : Prop := mergeOrderRow.holds Try.pinned (OpenSpec.ofChange mergeOrderWrong)

/-- 'spatelaw8.MergeRows': WHATEVER THE INPUT: true; the input reads as it did. -/
def mergeRowsSpec : ChangeSpec := { name := "mergeRows", fn := fun _ => fun
  | [d1, d2, d3, d4] => { results := [.lit (.bool true)], args := [d1, d2, d3, d4] }
  | _ => none }
def mergeRowsRow : OpenClaim := { program := "ytidpbnbjpglhfaa", sum := "3f47e1d2f8b1c5a0336a2532e4f9db231fdaded39f0754041f8bcffd5f78523f", func := "spate/spatelaw8.MergeRows", spec := "mergeRows", unfollowed := true, recurses := true, apart := false }
def MergeRowsSaid : Prop := mergeRowsRow.holds Try.pinned (OpenSpec.ofChange mergeRowsSpec)

/-- ITS FALSE NEIGHBOUR: 'it returns false'. Refute it at one input. -/
def mergeRowsWrong : ChangeSpec := { name := "mergeRows", fn := fun _ => fun
  | [d1, d2, d3, d4] => { results := [.lit (.bool false)], args := [d1, d2, d3, d4] }
  | _ => none }
def MergeRowsWrongFalsely : Prop := mergeRowsRow.holds Try.pinned (OpenSpec.ofChange mergeRowsWrong)

/-- 'spatelaw8.MergeParts': WHATEVER THE INPUT: true; the input reads as it did. -/
def mergePartsSpec : ChangeSpec := { name := "mergeParts", fn := fun _ => fun
  | [d1, d2, d3, d4] => { results := [.lit (.bool true)], args := [d1, d2, d3, d4] }
  | _ => none }
def mergePartsRow : OpenClaim := { program := "ytidpbnbjpglhfaa", sum := "3f47e1d2f8b1c5a0336a2532e4f9db231fdaded39f0754041f8bcffd5f78523f", func := "spate/spatelaw8.MergeParts", spec := "mergeParts", inPlace := ["internal/bytealg.abigen_runtime_cmpstring"], unfollowed := true, recurses := true, apart := false }
def MergePartsSaid : Prop := mergePartsRow.holds Try.pinned (OpenSpec.ofChange mergePartsSpec)

/-- ITS FALSE NEIGHBOUR: 'it returns false'. Refute it at one input. -/
def mergePartsWrong : ChangeSpec := { name := "mergeParts", fn := fun _ => fun
  | [d1, d2, d3, d4] => { results := [.lit (.bool false)], args := [d1, d2, d3, d4] }
  | _ => none }
def MergePartsWrongFalsely : Prop := mergePartsRow.holds Try.pinned (OpenSpec.ofChange mergePartsWrong)

/-- 'spatelaw8.MergeOwn': WHATEVER THE INPUT: true; the input reads as it did. -/
def mergeOwnSpec : ChangeSpec := { name := "mergeOwn", fn := fun _ => fun
  | [d1, d2, d3, d4] => { results := [.lit (.bool true)], args := [d1, d2, d3, d4] }
  | _ => none }
def mergeOwnRow : OpenClaim := { program := "ytidpbnbjpglhfaa", sum := "3f47e1d2f8b1c5a0336a2532e4f9db231fdaded39f0754041f8bcffd5f78523f", func := "spate/spatelaw8.MergeOwn", spec := "mergeOwn", unfollowed := true, recurses := true, apart := false }
def MergeOwnSaid : Prop := mergeOwnRow.holds Try.pinned (OpenSpec.ofChange mergeOwnSpec)

/-- ITS FALSE NEIGHBOUR: 'it returns false'. Refute it at one input. -/
def mergeOwnWrong : ChangeSpec := { name := "mergeOwn", fn := fun _ => fun
  | [d1, d2, d3, d4] => { results := [.lit (.bool false)], args := [d1, d2, d3, d4] }
  | _ => none }
def MergeOwnWrongFalsely : Prop := mergeOwnRow.holds Try.pinned (OpenSpec.ofChange mergeOwnWrong)

/-- 'spatelaw8.MergeMany': WHATEVER THE INPUT: true; the input reads as it did. -/
def mergeManySpec : ChangeSpec := { name := "mergeMany", fn := fun _ => fun
  | [d1, d2, d3] => { results := [.lit (.bool true)], args := [d1, d2, d3] }
  | _ => none }
def mergeManyRow : OpenClaim := { program := "ytidpbnbjpglhfaa", sum := "3f47e1d2f8b1c5a0336a2532e4f9db231fdaded39f0754041f8bcffd5f78523f", func := "spate/spatelaw8.MergeMany", spec := "mergeMany", unfollowed := true, recurses := true, apart := false }
def MergeManySaid : Prop := mergeManyRow.holds Try.pinned (OpenSpec.ofChange mergeManySpec)

/-- ITS FALSE NEIGHBOUR: 'it returns false'. Refute it at one input. -/
def mergeManyWrong : ChangeSpec := { name := "mergeMany", fn := fun _ => fun
  | [d1, d2, d3] => { results := [.lit (.bool false)], args := [d1, d2, d3] }
  | _ => none }
def MergeManyWrongFalsely : Prop := mergeManyRow.holds Try.pinned (OpenSpec.ofChange mergeManyWrong)

/-- 'spatelaw8.MergeLong': WHATEVER THE INPUT: true; the input reads as it did. -/
def mergeLongSpec : ChangeSpec := { name := "mergeLong", fn := fun _ => fun
  | [d1, d2, d3] => { results := [.lit (.bool true)], args := [d1, d2, d3] }
  | _ => none }
def mergeLongRow : OpenClaim := { program := "ytidpbnbjpglhfaa", sum := "3f47e1d2f8b1c5a0336a2532e4f9db231fdaded39f0754041f8bcffd5f78523f", func := "spate/spatelaw8.MergeLong", spec := "mergeLong", unfollowed := true, recurses := true, apart := false }
def MergeLongSaid : Prop := mergeLongRow.holds Try.pinned (OpenSpec.ofChange mergeLongSpec)

/-- ITS FALSE NEIGHBOUR: 'it returns false'. Refute it at one input. -/
def mergeLongWrong : ChangeSpec := { name := "mergeLong", fn := fun _ => fun
  | [d1, d2, d3] => { results := [.lit (.bool false)], args := [d1, d2, d3] }
  | _ => none }
def MergeLongWrongFalsely : Prop := mergeLongRow.holds Try.pinned (OpenSpec.ofChange mergeLongWrong)

/-- 'spatelaw8.MergeBook': WHATEVER THE INPUT: true; the input reads as it did. -/
def mergeBookSpec : ChangeSpec := { name := "mergeBook", fn := fun _ => fun
  | [d1, d2, d3, d4, d5] => { results := [.lit (.bool true)], args := [d1, d2, d3, d4, d5] }
  | _ => none }
def mergeBookRow : OpenClaim := { program := "ytidpbnbjpglhfaa", sum := "3f47e1d2f8b1c5a0336a2532e4f9db231fdaded39f0754041f8bcffd5f78523f", func := "spate/spatelaw8.MergeBook", spec := "mergeBook", unfollowed := true, recurses := true, apart := false }
def MergeBookSaid : Prop := mergeBookRow.holds Try.pinned (OpenSpec.ofChange mergeBookSpec)

/-- ITS FALSE NEIGHBOUR: 'it returns false'. Refute it at one input. -/
def mergeBookWrong : ChangeSpec := { name := "mergeBook", fn := fun _ => fun
  | [d1, d2, d3, d4, d5] => { results := [.lit (.bool false)], args := [d1, d2, d3, d4, d5] }
  | _ => none }
def MergeBookWrongFalsely : Prop := mergeBookRow.holds Try.pinned (OpenSpec.ofChange mergeBookWrong)

/- THE SECOND FORM. 'bulk': how many values and letters a reading holds, each counted each time it is reached (what is shared counts as often as it is met; a slice's spare places count too). A statement '..UptoSaid' is the law's where the arguments, and the package variables that the reading takes, are together of bulk at most 1048576: NARROWER than '..Said'. Prove '..Said' where nothing that the law and all that it calls make is longer than what came in: it says more and counts as full. Else prove '..UptoSaid'. A law counts once. -/
mutual
def uptoBulk {H : Type} : DataW H → Nat
  | .lit (.string bytes) => bytes.length + 1
  | .lit _ => 1
  | .nil => 1
  | .ptr d => uptoBulk d + 1
  | .slice elems spare => uptoBulkAll elems + uptoBulkAll spare + 1
  | .agg parts => uptoBulkAll parts + 1
  | .iface _ d => uptoBulk d + 1
  | .map entries => uptoBulkEntries entries + 1
  | .held _ => 1
def uptoBulkAll {H : Type} : List (DataW H) → Nat
  | [] => 0
  | d :: r => uptoBulk d + uptoBulkAll r
def uptoBulkEntries {H : Type} : List (Lit × DataW H) → Nat
  | [] => 0
  | x :: r => uptoBulkEntry x + uptoBulkEntries r
def uptoBulkEntry {H : Type} : Lit × DataW H → Nat
  | (.string bytes, d) => bytes.length + uptoBulk d + 1
  | (_, d) => uptoBulk d + 1
 end
def uptoSmall : (H : Type) → List (DataW H) → Bool := fun _ ds => decide (uptoBulkAll ds ≤ 1048576)
def OpenSpec.upto (s : _root_.Go.ChangeSpec) : _root_.Go.OpenSpec := { _root_.Go.OpenSpec.ofChange s with cond := some uptoSmall }

/-- 'spatelaw8.MergeNames', WHERE WHAT IT READS IS OF BULK AT MOST 1048576: true; the input reads as it did. -/
def mergeNamesUptoRow : OpenClaim := { program := "ytidpbnbjpglhfaa", sum := "3f47e1d2f8b1c5a0336a2532e4f9db231fdaded39f0754041f8bcffd5f78523f", func := "spate/spatelaw8.MergeNames", spec := "mergeNames", apart := false, narrowed := true }
def MergeNamesUptoSaid : Prop := mergeNamesUptoRow.holds Try.pinned (OpenSpec.upto mergeNamesSpec)

/-- 'spatelaw8.MergeLists', WHERE WHAT IT READS IS OF BULK AT MOST 1048576: true; the input reads as it did. -/
def mergeListsUptoRow : OpenClaim := { program := "ytidpbnbjpglhfaa", sum := "3f47e1d2f8b1c5a0336a2532e4f9db231fdaded39f0754041f8bcffd5f78523f", func := "spate/spatelaw8.MergeLists", spec := "mergeLists", recurses := true, apart := false, narrowed := true }
def MergeListsUptoSaid : Prop := mergeListsUptoRow.holds Try.pinned (OpenSpec.upto mergeListsSpec)

/-- 'spatelaw8.MergeBack', WHERE WHAT IT READS IS OF BULK AT MOST 1048576: true; the input reads as it did. -/
def mergeBackUptoRow : OpenClaim := { program := "ytidpbnbjpglhfaa", sum := "3f47e1d2f8b1c5a0336a2532e4f9db231fdaded39f0754041f8bcffd5f78523f", func := "spate/spatelaw8.MergeBack", spec := "mergeBack", recurses := true, apart := false, narrowed := true }
def MergeBackUptoSaid : Prop := mergeBackUptoRow.holds Try.pinned (OpenSpec.upto mergeBackSpec)

/-- 'spatelaw8.MergeKeys', WHERE WHAT IT READS IS OF BULK AT MOST 1048576: true; the input reads as it did. -/
def mergeKeysUptoRow : OpenClaim := { program := "ytidpbnbjpglhfaa", sum := "3f47e1d2f8b1c5a0336a2532e4f9db231fdaded39f0754041f8bcffd5f78523f", func := "spate/spatelaw8.MergeKeys", spec := "mergeKeys", inPlace := ["internal/bytealg.abigen_runtime_cmpstring"], recurses := true, apart := false, narrowed := true }
def MergeKeysUptoSaid : Prop := mergeKeysUptoRow.holds Try.pinned (OpenSpec.upto mergeKeysSpec)

/-- 'spatelaw8.MergeTurns', WHERE WHAT IT READS IS OF BULK AT MOST 1048576: true; the input reads as it did. -/
def mergeTurnsUptoRow : OpenClaim := { program := "ytidpbnbjpglhfaa", sum := "3f47e1d2f8b1c5a0336a2532e4f9db231fdaded39f0754041f8bcffd5f78523f", func := "spate/spatelaw8.MergeTurns", spec := "mergeTurns", inPlace := ["internal/bytealg.abigen_runtime_cmpstring"], recurses := true, apart := false, narrowed := true }
def MergeTurnsUptoSaid : Prop := mergeTurnsUptoRow.holds Try.pinned (OpenSpec.upto mergeTurnsSpec)

/-- 'spatelaw8.MergeOrder', WHERE WHAT IT READS IS OF BULK AT MOST 1048576: true; the input reads as it did. -/
def mergeOrderUptoRow : OpenClaim := { program := "ytidpbnbjpglhfaa", sum := "3f47e1d2f8b1c5a0336a2532e4f9db231fdaded39f0754041f8bcffd5f78523f", func := "spate/spatelaw8.MergeOrder", spec := "mergeOrder", inPlace := ["internal/bytealg.abigen_runtime_cmpstring"], recurses := true, apart := false, narrowed := true }
def MergeOrderUptoSaid : Prop := mergeOrderUptoRow.holds Try.pinned (OpenSpec.upto mergeOrderSpec)

/-- 'spatelaw8.MergeRows', WHERE WHAT IT READS IS OF BULK AT MOST 1048576: true; the input reads as it did. -/
def mergeRowsUptoRow : OpenClaim := { program := "ytidpbnbjpglhfaa", sum := "3f47e1d2f8b1c5a0336a2532e4f9db231fdaded39f0754041f8bcffd5f78523f", func := "spate/spatelaw8.MergeRows", spec := "mergeRows", unfollowed := true, recurses := true, apart := false, narrowed := true }
def MergeRowsUptoSaid : Prop := mergeRowsUptoRow.holds Try.pinned (OpenSpec.upto mergeRowsSpec)

/-- 'spatelaw8.MergeParts', WHERE WHAT IT READS IS OF BULK AT MOST 1048576: true; the input reads as it did. -/
def mergePartsUptoRow : OpenClaim := { program := "ytidpbnbjpglhfaa", sum := "3f47e1d2f8b1c5a0336a2532e4f9db231fdaded39f0754041f8bcffd5f78523f", func := "spate/spatelaw8.MergeParts", spec := "mergeParts", inPlace := ["internal/bytealg.abigen_runtime_cmpstring"], unfollowed := true, recurses := true, apart := false, narrowed := true }
def MergePartsUptoSaid : Prop := mergePartsUptoRow.holds Try.pinned (OpenSpec.upto mergePartsSpec)

/-- 'spatelaw8.MergeOwn', WHERE WHAT IT READS IS OF BULK AT MOST 1048576: true; the input reads as it did. -/
def mergeOwnUptoRow : OpenClaim := { program := "ytidpbnbjpglhfaa", sum := "3f47e1d2f8b1c5a0336a2532e4f9db231fdaded39f0754041f8bcffd5f78523f", func := "spate/spatelaw8.MergeOwn", spec := "mergeOwn", unfollowed := true, recurses := true, apart := false, narrowed := true }
def MergeOwnUptoSaid : Prop := mergeOwnUptoRow.holds Try.pinned (OpenSpec.upto mergeOwnSpec)

/-- 'spatelaw8.MergeMany', WHERE WHAT IT READS IS OF BULK AT MOST 1048576: true; the input reads as it did. -/
def mergeManyUptoRow : OpenClaim := { program := "ytidpbnbjpglhfaa", sum := "3f47e1d2f8b1c5a0336a2532e4f9db231fdaded39f0754041f8bcffd5f78523f", func := "spate/spatelaw8.MergeMany", spec := "mergeMany", unfollowed := true, recurses := true, apart := false, narrowed := true }
def MergeManyUptoSaid : Prop := mergeManyUptoRow.holds Try.pinned (OpenSpec.upto mergeManySpec)

/-- 'spatelaw8.MergeLong', WHERE WHAT IT READS IS OF BULK AT MOST 1048576: true; the input reads as it did. -/
def mergeLongUptoRow : OpenClaim := { program := "ytidpbnbjpglhfaa", sum := "3f47e1d2f8b1c5a0336a2532e4f9db231fdaded39f0754041f8bcffd5f78523f", func := "spate/spatelaw8.MergeLong", spec := "mergeLong", unfollowed := true, recurses := true, apart := false, narrowed := true }
def MergeLongUptoSaid : Prop := mergeLongUptoRow.holds Try.pinned (OpenSpec.upto mergeLongSpec)

/-- 'spatelaw8.MergeBook', WHERE WHAT IT READS IS OF BULK AT MOST 1048576: true; the input reads as it did. -/
def mergeBookUptoRow : OpenClaim := { program := "ytidpbnbjpglhfaa", sum := "3f47e1d2f8b1c5a0336a2532e4f9db231fdaded39f0754041f8bcffd5f78523f", func := "spate/spatelaw8.MergeBook", spec := "mergeBook", unfollowed := true, recurses := true, apart := false, narrowed := true }
def MergeBookUptoSaid : Prop := mergeBookUptoRow.holds Try.pinned (OpenSpec.upto mergeBookSpec)

end Rows
end Go.Proofs.Ytidpbnbjpglhfaa
