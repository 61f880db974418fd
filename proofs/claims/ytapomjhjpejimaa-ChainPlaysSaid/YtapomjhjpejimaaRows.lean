/-
  No cell of these rows narrows 'for every input' (looked for: loops, veiled, ifaces, maps, wideKeys, modest, calm, conditions, laid).
  DERIVED. THE GIVEN ROWS OF THIS SEAT. 8 by the template 'for every input the law returns true; each argument reads behind the call as it read before'; 0 by the template 'total and deterministic' (their statements: YtapomjhjpejimaaTotals.lean).
  GIVEN WITH THE SEED: the statements are not yours to turn. If you find one false, say at which input.
  Laid BY PROGRAM, IN A SANDBOX (cutbox-rows.mjs): the forced cells as the released guide's own fill.sh prints them over the translation 289293e4c28d729b… (all of the seat's roots in one cut). By AI agents, Wed Nov 11 2026. No macro, syntax, notation, axiom, sorry.
-/
import Derived.Test.YtapomjhjpejimaaChecked
import GoSem.Claim
import GoSem.ClaimJoined
import GoSem.ClaimMapViews
import Derived.JoinedTies
import Derived.KernelRfl
namespace Go.Proofs.Ytapomjhjpejimaa
/- THE CELL 'sum', in the pinned program and in every row, IS THE sha256 OF THE DUMP (.gsa) THAT YtapomjhjpejimaaProg.lean LOADS. Nothing in Lean hashes anything: it is a label: what it is worth is what the hold of that sum in a sandbox is worth. -/
noncomputable def Try.pinned : Pinned := { name := "ytapomjhjpejimaa", sum := "289293e4c28d729b18868f29a6ad8b26c7b1e7e1dd6c10e8cfcad5711229f459", checked := Try.checked }
namespace Rows
def none {H : Type} : Left H := { results := [], args := [] }

/-- 'spatelaw5.ChainNames': WHATEVER THE INPUT: true; the input reads as it did. -/
def chainNamesSpec : ChangeSpec := { name := "chainNames", fn := fun _ => fun
  | [] => { results := [.lit (.bool true)], args := [] }
  | _ => none }
def chainNamesRow : OpenClaim := { program := "ytapomjhjpejimaa", sum := "289293e4c28d729b18868f29a6ad8b26c7b1e7e1dd6c10e8cfcad5711229f459", func := "spate/spatelaw5.ChainNames", spec := "chainNames", apart := false }
def ChainNamesSaid : Prop := chainNamesRow.holds Try.pinned (OpenSpec.ofChange chainNamesSpec)

/-- ITS FALSE NEIGHBOUR: 'it returns false'. Refute it at one input. -/
def chainNamesWrong : ChangeSpec := { name := "chainNames", fn := fun _ => fun
  | [] => { results := [.lit (.bool false)], args := [] }
  | _ => none }
def ChainNamesWrongFalsely : Prop := chainNamesRow.holds Try.pinned (OpenSpec.ofChange chainNamesWrong)

/-- 'spatelaw5.ChainPrunes': WHATEVER THE INPUT: true; the input reads as it did. -/
def chainPrunesSpec : ChangeSpec := { name := "chainPrunes", fn := fun _ => fun
  | [d1, d2] => { results := [.lit (.bool true)], args := [d1, d2] }
  | _ => none }
def chainPrunesRow : OpenClaim := { program := "ytapomjhjpejimaa", sum := "289293e4c28d729b18868f29a6ad8b26c7b1e7e1dd6c10e8cfcad5711229f459", func := "spate/spatelaw5.ChainPrunes", spec := "chainPrunes", unfollowed := true, recurses := true, apart := false }
def ChainPrunesSaid : Prop := chainPrunesRow.holds Try.pinned (OpenSpec.ofChange chainPrunesSpec)

/-- ITS FALSE NEIGHBOUR: 'it returns false'. Refute it at one input. -/
def chainPrunesWrong : ChangeSpec := { name := "chainPrunes", fn := fun _ => fun
  | [d1, d2] => { results := [.lit (.bool false)], args := [d1, d2] }
  | _ => none }
def ChainPrunesWrongFalsely : Prop := chainPrunesRow.holds Try.pinned (OpenSpec.ofChange chainPrunesWrong)

/-- 'spatelaw5.ChainOlder': WHATEVER THE INPUT: true; the input reads as it did. -/
def chainOlderSpec : ChangeSpec := { name := "chainOlder", fn := fun _ => fun
  | [d1, d2, d3, d4] => { results := [.lit (.bool true)], args := [d1, d2, d3, d4] }
  | _ => none }
def chainOlderRow : OpenClaim := { program := "ytapomjhjpejimaa", sum := "289293e4c28d729b18868f29a6ad8b26c7b1e7e1dd6c10e8cfcad5711229f459", func := "spate/spatelaw5.ChainOlder", spec := "chainOlder", unfollowed := true, recurses := true, apart := false }
def ChainOlderSaid : Prop := chainOlderRow.holds Try.pinned (OpenSpec.ofChange chainOlderSpec)

/-- ITS FALSE NEIGHBOUR: 'it returns false'. Refute it at one input. -/
def chainOlderWrong : ChangeSpec := { name := "chainOlder", fn := fun _ => fun
  | [d1, d2, d3, d4] => { results := [.lit (.bool false)], args := [d1, d2, d3, d4] }
  | _ => none }
def ChainOlderWrongFalsely : Prop := chainOlderRow.holds Try.pinned (OpenSpec.ofChange chainOlderWrong)

/-- 'spatelaw5.ChainSeqs': WHATEVER THE INPUT: true; the input reads as it did. -/
def chainSeqsSpec : ChangeSpec := { name := "chainSeqs", fn := fun _ => fun
  | [d1, d2, d3] => { results := [.lit (.bool true)], args := [d1, d2, d3] }
  | _ => none }
def chainSeqsRow : OpenClaim := { program := "ytapomjhjpejimaa", sum := "289293e4c28d729b18868f29a6ad8b26c7b1e7e1dd6c10e8cfcad5711229f459", func := "spate/spatelaw5.ChainSeqs", spec := "chainSeqs", unfollowed := true, recurses := true, apart := false }
def ChainSeqsSaid : Prop := chainSeqsRow.holds Try.pinned (OpenSpec.ofChange chainSeqsSpec)

/-- ITS FALSE NEIGHBOUR: 'it returns false'. Refute it at one input. -/
def chainSeqsWrong : ChangeSpec := { name := "chainSeqs", fn := fun _ => fun
  | [d1, d2, d3] => { results := [.lit (.bool false)], args := [d1, d2, d3] }
  | _ => none }
def ChainSeqsWrongFalsely : Prop := chainSeqsRow.holds Try.pinned (OpenSpec.ofChange chainSeqsWrong)

/-- 'spatelaw5.ChainLong': WHATEVER THE INPUT: true; the input reads as it did. -/
def chainLongSpec : ChangeSpec := { name := "chainLong", fn := fun _ => fun
  | [d1, d2, d3, d4, d5] => { results := [.lit (.bool true)], args := [d1, d2, d3, d4, d5] }
  | _ => none }
def chainLongRow : OpenClaim := { program := "ytapomjhjpejimaa", sum := "289293e4c28d729b18868f29a6ad8b26c7b1e7e1dd6c10e8cfcad5711229f459", func := "spate/spatelaw5.ChainLong", spec := "chainLong", unfollowed := true, recurses := true, apart := false }
def ChainLongSaid : Prop := chainLongRow.holds Try.pinned (OpenSpec.ofChange chainLongSpec)

/-- ITS FALSE NEIGHBOUR: 'it returns false'. Refute it at one input. -/
def chainLongWrong : ChangeSpec := { name := "chainLong", fn := fun _ => fun
  | [d1, d2, d3, d4, d5] => { results := [.lit (.bool false)], args := [d1, d2, d3, d4, d5] }
  | _ => none }
def ChainLongWrongFalsely : Prop := chainLongRow.holds Try.pinned (OpenSpec.ofChange chainLongWrong)

/-- 'spatelaw5.ChainBook': WHATEVER THE INPUT: true; the input reads as it did. -/
def chainBookSpec : ChangeSpec := { name := "chainBook", fn := fun _ => fun
  | [d1, d2, d3] => { results := [.lit (.bool true)], args := [d1, d2, d3] }
  | _ => none }
def chainBookRow : OpenClaim := { program := "ytapomjhjpejimaa", sum := "289293e4c28d729b18868f29a6ad8b26c7b1e7e1dd6c10e8cfcad5711229f459", func := "spate/spatelaw5.ChainBook", spec := "chainBook", unfollowed := true, recurses := true, apart := false }
def ChainBookSaid : Prop := chainBookRow.holds Try.pinned (OpenSpec.ofChange chainBookSpec)

/-- ITS FALSE NEIGHBOUR: 'it returns false'. Refute it at one input. -/
def chainBookWrong : ChangeSpec := { name := "chainBook", fn := fun _ => fun
  | [d1, d2, d3] => { results := [.lit (.bool false)], args := [d1, d2, d3] }
  | _ => none }
def ChainBookWrongFalsely : Prop := chainBookRow.holds Try.pinned (OpenSpec.ofChange chainBookWrong)

/-- 'spatelaw5.ChainPlays': WHATEVER THE INPUT: true; the input reads as it did. -/
def chainPlaysSpec : ChangeSpec := { name := "chainPlays", fn := fun _ => fun
  | [d] => { results := [.lit (.bool true)], args := [d] }
  | _ => none }
def chainPlaysRow : OpenClaim := { program := "ytapomjhjpejimaa", sum := "289293e4c28d729b18868f29a6ad8b26c7b1e7e1dd6c10e8cfcad5711229f459", func := "spate/spatelaw5.ChainPlays", spec := "chainPlays", unfollowed := true, recurses := true, apart := false }
def ChainPlaysSaid : Prop := chainPlaysRow.holds Try.pinned (OpenSpec.ofChange chainPlaysSpec)

/-- ITS FALSE NEIGHBOUR: 'it returns false'. Refute it at one input. -/
def chainPlaysWrong : ChangeSpec := { name := "chainPlays", fn := fun _ => fun
  | [d] => { results := [.lit (.bool false)], args := [d] }
  | _ => none }
def ChainPlaysWrongFalsely : Prop := chainPlaysRow.holds Try.pinned (OpenSpec.ofChange chainPlaysWrong)

/-- 'spatelaw5.ChainApart': WHATEVER THE INPUT: true; the input reads as it did. -/
def chainApartSpec : ChangeSpec := { name := "chainApart", fn := fun _ => fun
  | [d1, d2, d3] => { results := [.lit (.bool true)], args := [d1, d2, d3] }
  | _ => none }
def chainApartRow : OpenClaim := { program := "ytapomjhjpejimaa", sum := "289293e4c28d729b18868f29a6ad8b26c7b1e7e1dd6c10e8cfcad5711229f459", func := "spate/spatelaw5.ChainApart", spec := "chainApart", unfollowed := true, recurses := true, apart := false }
def ChainApartSaid : Prop := chainApartRow.holds Try.pinned (OpenSpec.ofChange chainApartSpec)

/-- ITS FALSE NEIGHBOUR: 'it returns false'. Refute it at one input. -/
def chainApartWrong : ChangeSpec := { name := "chainApart", fn := fun _ => fun
  | [d1, d2, d3] => { results := [.lit (.bool false)], args := [d1, d2, d3] }
  | _ => none }
def ChainApartWrongFalsely : Prop := chainApartRow.holds Try.pinned (OpenSpec.ofChange chainApartWrong)

/- THE SECOND FORM. 'bulk': how many values and letters a reading holds, each counted each time it is reached (what is shared counts as often as it is met; a slice's spare places count too). A statement '..UptoSaid' is the law's where the arguments, and the package variables that the reading takes, are together of bulk at most 1048576: NARROWER than '..Said'. Prove '..Said' where nothing that the law and all that it calls make is longer than what came in: it says more and counts as full. Else prove '..UptoSaid'. A law counts once. -/
mutual
def uptoBulk {H : Type} : DataW H → Nat
  | .lit (.string bytes) => bytes.length + 1
  | .lit _ => 1
  | .nil => 1
  | .ptr d => uptoBulk d + 1
  | .slice elems spare => uptoBulkAll elems + uptoBulkAll spare + 1
  | .agg parts => uptoBulkAll parts + 1
  | .iface _ d => uptoBulk d + 1
  | .map entries => uptoBulkEntries entries + 1
  | .held _ => 1
def uptoBulkAll {H : Type} : List (DataW H) → Nat
  | [] => 0
  | d :: r => uptoBulk d + uptoBulkAll r
def uptoBulkEntries {H : Type} : List (Lit × DataW H) → Nat
  | [] => 0
  | x :: r => uptoBulkEntry x + uptoBulkEntries r
def uptoBulkEntry {H : Type} : Lit × DataW H → Nat
  | (.string bytes, d) => bytes.length + uptoBulk d + 1
  | (_, d) => uptoBulk d + 1
 end
def uptoSmall : (H : Type) → List (DataW H) → Bool := fun _ ds => decide (uptoBulkAll ds ≤ 1048576)
def OpenSpec.upto (s : _root_.Go.ChangeSpec) : _root_.Go.OpenSpec := { _root_.Go.OpenSpec.ofChange s with cond := some uptoSmall }

/-- 'spatelaw5.ChainNames', WHERE WHAT IT READS IS OF BULK AT MOST 1048576: true; the input reads as it did. -/
def chainNamesUptoRow : OpenClaim := { program := "ytapomjhjpejimaa", sum := "289293e4c28d729b18868f29a6ad8b26c7b1e7e1dd6c10e8cfcad5711229f459", func := "spate/spatelaw5.ChainNames", spec := "chainNames", apart := false, narrowed := true }
def ChainNamesUptoSaid : Prop := chainNamesUptoRow.holds Try.pinned (OpenSpec.upto chainNamesSpec)

/-- 'spatelaw5.ChainPrunes', WHERE WHAT IT READS IS OF BULK AT MOST 1048576: true; the input reads as it did. -/
def chainPrunesUptoRow : OpenClaim := { program := "ytapomjhjpejimaa", sum := "289293e4c28d729b18868f29a6ad8b26c7b1e7e1dd6c10e8cfcad5711229f459", func := "spate/spatelaw5.ChainPrunes", spec := "chainPrunes", unfollowed := true, recurses := true, apart := false, narrowed := true }
def ChainPrunesUptoSaid : Prop := chainPrunesUptoRow.holds Try.pinned (OpenSpec.upto chainPrunesSpec)

/-- 'spatelaw5.ChainOlder', WHERE WHAT IT READS IS OF BULK AT MOST 1048576: true; the input reads as it did. -/
def chainOlderUptoRow : OpenClaim := { program := "ytapomjhjpejimaa", sum := "289293e4c28d729b18868f29a6ad8b26c7b1e7e1dd6c10e8cfcad5711229f459", func := "spate/spatelaw5.ChainOlder", spec := "chainOlder", unfollowed := true, recurses := true, apart := false, narrowed := true }
def ChainOlderUptoSaid : Prop := chainOlderUptoRow.holds Try.pinned (OpenSpec.upto chainOlderSpec)

/-- 'spatelaw5.ChainSeqs', WHERE WHAT IT READS IS OF BULK AT MOST 1048576: true; the input reads as it did. -/
def chainSeqsUptoRow : OpenClaim := { program := "ytapomjhjpejimaa", sum := "289293e4c28d729b18868f29a6ad8b26c7b1e7e1dd6c10e8cfcad5711229f459", func := "spate/spatelaw5.ChainSeqs", spec := "chainSeqs", unfollowed := true, recurses := true, apart := false, narrowed := true }
def ChainSeqsUptoSaid : Prop := chainSeqsUptoRow.holds Try.pinned (OpenSpec.upto chainSeqsSpec)

/-- 'spatelaw5.ChainLong', WHERE WHAT IT READS IS OF BULK AT MOST 1048576: true; the input reads as it did. -/
def chainLongUptoRow : OpenClaim := { program := "ytapomjhjpejimaa", sum := "289293e4c28d729b18868f29a6ad8b26c7b1e7e1dd6c10e8cfcad5711229f459", func := "spate/spatelaw5.ChainLong", spec := "chainLong", unfollowed := true, recurses := true, apart := false, narrowed := true }
def ChainLongUptoSaid : Prop := chainLongUptoRow.holds Try.pinned (OpenSpec.upto chainLongSpec)

/-- 'spatelaw5.ChainBook', WHERE WHAT IT READS IS OF BULK AT MOST 1048576: true; the input reads as it did. -/
def chainBookUptoRow : OpenClaim := { program := "ytapomjhjpejimaa", sum := "289293e4c28d729b18868f29a6ad8b26c7b1e7e1dd6c10e8cfcad5711229f459", func := "spate/spatelaw5.ChainBook", spec := "chainBook", unfollowed := true, recurses := true, apart := false, narrowed := true }
def ChainBookUptoSaid : Prop := chainBookUptoRow.holds Try.pinned (OpenSpec.upto chainBookSpec)

/-- 'spatelaw5.ChainPlays', WHERE WHAT IT READS IS OF BULK AT MOST 1048576: true; the input reads as it did. -/
def chainPlaysUptoRow : OpenClaim := { program := "ytapomjhjpejimaa", sum := "289293e4c28d729b18868f29a6ad8b26c7b1e7e1dd6c10e8cfcad5711229f459", func := "spate/spatelaw5.ChainPlays", spec := "chainPlays", unfollowed := true, recurses := true, apart := false, narrowed := true }
def ChainPlaysUptoSaid : Prop := chainPlaysUptoRow.holds Try.pinned (OpenSpec.upto chainPlaysSpec)

/-- 'spatelaw5.ChainApart', WHERE WHAT IT READS IS OF BULK AT MOST 1048576: true; the input reads as it did. -/
def chainApartUptoRow : OpenClaim := { program := "ytapomjhjpejimaa", sum := "289293e4c28d729b18868f29a6ad8b26c7b1e7e1dd6c10e8cfcad5711229f459", func := "spate/spatelaw5.ChainApart", spec := "chainApart", unfollowed := true, recurses := true, apart := false, narrowed := true }
def ChainApartUptoSaid : Prop := chainApartUptoRow.holds Try.pinned (OpenSpec.upto chainApartSpec)

end Rows
end Go.Proofs.Ytapomjhjpejimaa
