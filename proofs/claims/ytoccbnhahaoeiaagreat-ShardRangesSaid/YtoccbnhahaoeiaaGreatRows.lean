/-
  No cell of these rows narrows 'for every input' (looked for: loops, veiled, ifaces, maps, wideKeys, modest, calm, conditions, laid).
  DERIVED. THE GIVEN ROWS OF THIS SEAT. 4 by the template 'for every input the law returns true; each argument reads behind the call as it read before'; 0 by the template 'total and deterministic' (their statements: YtoccbnhahaoeiaaGreatTotals.lean).
  GIVEN WITH THE SEED: the statements are not yours to turn. If you find one false, say at which input.
  Laid BY PROGRAM, IN A SANDBOX (cutbox-rows.mjs): the forced cells as the released guide's own fill.sh prints them over the translation a989c658f56046bd… (all of the seat's roots in one cut). By AI agents, Wed Nov 11 2026. No macro, syntax, notation, axiom, sorry.
-/
import Derived.Test.YtoccbnhahaoeiaaGreatChecked
import GoSem.Claim
import GoSem.ClaimJoined
import GoSem.ClaimMapViews
import Derived.JoinedTies
import Derived.KernelRfl
namespace Go.Proofs.YtoccbnhahaoeiaaGreat
/- THE CELL 'sum', in the pinned program and in every row, IS THE sha256 OF THE DUMP (.gsa) THAT YtoccbnhahaoeiaaGreatProg.lean LOADS. Nothing in Lean hashes anything: it is a label: what it is worth is what the hold of that sum in a sandbox is worth. -/
noncomputable def Tryz.pinned : Pinned := { name := "ytoccbnhahaoeiaagreat", sum := "a989c658f56046bde496dbac630b438fb26908eecfcb79e42cef30c2d599fc2c", checked := Tryz.checked }
namespace Rows
def none {H : Type} : Left H := { results := [], args := [] }

/-- 'spatelaw7.ShardTogether': WHATEVER THE INPUT: true; the input reads as it did. -/
def shardTogetherSpec : ChangeSpec := { name := "shardTogether", fn := fun _ => fun
  | [d1, d2, d3] => { results := [.lit (.bool true)], args := [d1, d2, d3] }
  | _ => none }
def shardTogetherRow : OpenClaim := { program := "ytoccbnhahaoeiaagreat", sum := "a989c658f56046bde496dbac630b438fb26908eecfcb79e42cef30c2d599fc2c", func := "spate/spatelaw7.ShardTogether", spec := "shardTogether", inPlace := ["math/bits.Add64", "internal/bytealg.abigen_runtime_cmpstring"], unfollowed := true, recurses := true, apart := false }
def ShardTogetherSaid : Prop := shardTogetherRow.holds Tryz.pinned (OpenSpec.ofChange shardTogetherSpec)

/-- ITS FALSE NEIGHBOUR: 'it returns false'. Refute it at one input. -/
def shardTogetherWrong : ChangeSpec := { name := "shardTogether", fn := fun _ => fun
  | [d1, d2, d3] => { results := [.lit (.bool false)], args := [d1, d2, d3] }
  | _ => none }
def ShardTogetherWrongFalsely : Prop := shardTogetherRow.holds Tryz.pinned (OpenSpec.ofChange shardTogetherWrong)

/-- 'spatelaw7.ShardPlays': WHATEVER THE INPUT: true; the input reads as it did. -/
def shardPlaysSpec : ChangeSpec := { name := "shardPlays", fn := fun _ => fun
  | [d1, d2] => { results := [.lit (.bool true)], args := [d1, d2] }
  | _ => none }
def shardPlaysRow : OpenClaim := { program := "ytoccbnhahaoeiaagreat", sum := "a989c658f56046bde496dbac630b438fb26908eecfcb79e42cef30c2d599fc2c", func := "spate/spatelaw7.ShardPlays", spec := "shardPlays", inPlace := ["math/bits.Add64", "internal/bytealg.abigen_runtime_cmpstring"], unfollowed := true, recurses := true, apart := false }
def ShardPlaysSaid : Prop := shardPlaysRow.holds Tryz.pinned (OpenSpec.ofChange shardPlaysSpec)

/-- ITS FALSE NEIGHBOUR: 'it returns false'. Refute it at one input. -/
def shardPlaysWrong : ChangeSpec := { name := "shardPlays", fn := fun _ => fun
  | [d1, d2] => { results := [.lit (.bool false)], args := [d1, d2] }
  | _ => none }
def ShardPlaysWrongFalsely : Prop := shardPlaysRow.holds Tryz.pinned (OpenSpec.ofChange shardPlaysWrong)

/-- 'spatelaw7.ShardRanges': WHATEVER THE INPUT: true; the input reads as it did. -/
def shardRangesSpec : ChangeSpec := { name := "shardRanges", fn := fun _ => fun
  | [d1, d2, d3] => { results := [.lit (.bool true)], args := [d1, d2, d3] }
  | _ => none }
def shardRangesRow : OpenClaim := { program := "ytoccbnhahaoeiaagreat", sum := "a989c658f56046bde496dbac630b438fb26908eecfcb79e42cef30c2d599fc2c", func := "spate/spatelaw7.ShardRanges", spec := "shardRanges", inPlace := ["math/bits.Add64", "internal/bytealg.abigen_runtime_cmpstring"], unfollowed := true, recurses := true, apart := false }
def ShardRangesSaid : Prop := shardRangesRow.holds Tryz.pinned (OpenSpec.ofChange shardRangesSpec)

/-- ITS FALSE NEIGHBOUR: 'it returns false'. Refute it at one input. -/
def shardRangesWrong : ChangeSpec := { name := "shardRanges", fn := fun _ => fun
  | [d1, d2, d3] => { results := [.lit (.bool false)], args := [d1, d2, d3] }
  | _ => none }
def ShardRangesWrongFalsely : Prop := shardRangesRow.holds Tryz.pinned (OpenSpec.ofChange shardRangesWrong)

/-- 'spatelaw7.ShardRoom': WHATEVER THE INPUT: true; the input reads as it did. -/
def shardRoomSpec : ChangeSpec := { name := "shardRoom", fn := fun _ => fun
  | [d1, d2] => { results := [.lit (.bool true)], args := [d1, d2] }
  | _ => none }
def shardRoomRow : OpenClaim := { program := "ytoccbnhahaoeiaagreat", sum := "a989c658f56046bde496dbac630b438fb26908eecfcb79e42cef30c2d599fc2c", func := "spate/spatelaw7.ShardRoom", spec := "shardRoom", inPlace := ["internal/bytealg.abigen_runtime_cmpstring", "math/bits.Add64"], unfollowed := true, recurses := true, apart := false }
def ShardRoomSaid : Prop := shardRoomRow.holds Tryz.pinned (OpenSpec.ofChange shardRoomSpec)

/-- ITS FALSE NEIGHBOUR: 'it returns false'. Refute it at one input. -/
def shardRoomWrong : ChangeSpec := { name := "shardRoom", fn := fun _ => fun
  | [d1, d2] => { results := [.lit (.bool false)], args := [d1, d2] }
  | _ => none }
def ShardRoomWrongFalsely : Prop := shardRoomRow.holds Tryz.pinned (OpenSpec.ofChange shardRoomWrong)

/- THE SECOND FORM. 'bulk': how many values and letters a reading holds, each counted each time it is reached (what is shared counts as often as it is met; a slice's spare places count too). A statement '..UptoSaid' is the law's where the arguments, and the package variables that the reading takes, are together of bulk at most 1048576: NARROWER than '..Said'. Prove '..Said' where nothing that the law and all that it calls make is longer than what came in: it says more and counts as full. Else prove '..UptoSaid'. A law counts once. -/
mutual
def uptoBulk {H : Type} : DataW H → Nat
  | .lit (.string bytes) => bytes.length + 1
  | .lit _ => 1
  | .nil => 1
  | .ptr d => uptoBulk d + 1
  | .slice elems spare => uptoBulkAll elems + uptoBulkAll spare + 1
  | .agg parts => uptoBulkAll parts + 1
  | .iface _ d => uptoBulk d + 1
  | .map entries => uptoBulkEntries entries + 1
  | .held _ => 1
def uptoBulkAll {H : Type} : List (DataW H) → Nat
  | [] => 0
  | d :: r => uptoBulk d + uptoBulkAll r
def uptoBulkEntries {H : Type} : List (Lit × DataW H) → Nat
  | [] => 0
  | x :: r => uptoBulkEntry x + uptoBulkEntries r
def uptoBulkEntry {H : Type} : Lit × DataW H → Nat
  | (.string bytes, d) => bytes.length + uptoBulk d + 1
  | (_, d) => uptoBulk d + 1
 end
def uptoSmall : (H : Type) → List (DataW H) → Bool := fun _ ds => decide (uptoBulkAll ds ≤ 1048576)
def OpenSpec.upto (s : _root_.Go.ChangeSpec) : _root_.Go.OpenSpec := { _root_.Go.OpenSpec.ofChange s with cond := some uptoSmall }

/-- 'spatelaw7.ShardTogether', WHERE WHAT IT READS IS OF BULK AT MOST 1048576: true; the input reads as it did. -/
def shardTogetherUptoRow : OpenClaim := { program := "ytoccbnhahaoeiaagreat", sum := "a989c658f56046bde496dbac630b438fb26908eecfcb79e42cef30c2d599fc2c", func := "spate/spatelaw7.ShardTogether", spec := "shardTogether", inPlace := ["math/bits.Add64", "internal/bytealg.abigen_runtime_cmpstring"], unfollowed := true, recurses := true, apart := false, narrowed := true }
def ShardTogetherUptoSaid : Prop := shardTogetherUptoRow.holds Tryz.pinned (OpenSpec.upto shardTogetherSpec)

/-- 'spatelaw7.ShardPlays', WHERE WHAT IT READS IS OF BULK AT MOST 1048576: true; the input reads as it did. -/
def shardPlaysUptoRow : OpenClaim := { program := "ytoccbnhahaoeiaagreat", sum := "a989c658f56046bde496dbac630b438fb26908eecfcb79e42cef30c2d599fc2c", func := "spate/spatelaw7.ShardPlays", spec := "shardPlays", inPlace := ["math/bits.Add64", "internal/bytealg.abigen_runtime_cmpstring"], unfollowed := true, recurses := true, apart := false, narrowed := true }
def ShardPlaysUptoSaid : Prop := shardPlaysUptoRow.holds Tryz.pinned (OpenSpec.upto shardPlaysSpec)

/-- 'spatelaw7.ShardRanges', WHERE WHAT IT READS IS OF BULK AT MOST 1048576: true; the input reads as it did. -/
def shardRangesUptoRow : OpenClaim := { program := "ytoccbnhahaoeiaagreat", sum := "a989c658f56046bde496dbac630b438fb26908eecfcb79e42cef30c2d599fc2c", func := "spate/spatelaw7.ShardRanges", spec := "shardRanges", inPlace := ["math/bits.Add64", "internal/bytealg.abigen_runtime_cmpstring"], unfollowed := true, recurses := true, apart := false, narrowed := true }
def ShardRangesUptoSaid : Prop := shardRangesUptoRow.holds Tryz.pinned (OpenSpec.upto shardRangesSpec)

/-- 'spatelaw7.ShardRoom', WHERE WHAT IT READS IS OF BULK AT MOST 1048576: true; the input reads as it did. -/
def shardRoomUptoRow : OpenClaim := { program := "ytoccbnhahaoeiaagreat", sum := "a989c658f56046bde496dbac630b438fb26908eecfcb79e42cef30c2d599fc2c", func := "spate/spatelaw7.ShardRoom", spec := "shardRoom", inPlace := ["internal/bytealg.abigen_runtime_cmpstring", "math/bits.Add64"], unfollowed := true, recurses := true, apart := false, narrowed := true }
def ShardRoomUptoSaid : Prop := shardRoomUptoRow.holds Tryz.pinned (OpenSpec.upto shardRoomSpec)

end Rows
end Go.Proofs.YtoccbnhahaoeiaaGreat
