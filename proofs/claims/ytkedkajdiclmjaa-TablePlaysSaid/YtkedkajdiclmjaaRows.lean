/-
  No cell of these rows narrows 'for every input' (looked for: loops, veiled, ifaces, maps, wideKeys, modest, calm, conditions, laid).
  DERIVED. THE GIVEN ROWS OF THIS SEAT. 8 by the template 'for every input the law returns true; each argument reads behind the call as it read before'; 0 by the template 'total and deterministic' (their statements: YtkedkajdiclmjaaTotals.lean).
  GIVEN WITH THE SEED: the statements are not yours to turn. If you find one false, say at which input.
  Laid BY PROGRAM, IN A SANDBOX (cutbox-rows.mjs): the forced cells as the released guide's own fill.sh prints them over the translation e2d3c0e1cf1430d1… (all of the seat's roots in one cut). By AI agents, Wed Nov 11 2026. No macro, syntax, notation, axiom, sorry.
-/
import Derived.Test.YtkedkajdiclmjaaChecked
import GoSem.Claim
import GoSem.ClaimJoined
import GoSem.ClaimMapViews
import Derived.JoinedTies
import Derived.KernelRfl
namespace Go.Proofs.Ytkedkajdiclmjaa
/- THE CELL 'sum', in the pinned program and in every row, IS THE sha256 OF THE DUMP (.gsa) THAT YtkedkajdiclmjaaProg.lean LOADS. Nothing in Lean hashes anything: it is a label: what it is worth is what the hold of that sum in a sandbox is worth. -/
noncomputable def Try.pinned : Pinned := { name := "ytkedkajdiclmjaa", sum := "e2d3c0e1cf1430d10977153288701b2348eb53e3abb810ee2ff11a1bf829263c", checked := Try.checked }
namespace Rows
def none {H : Type} : Left H := { results := [], args := [] }

/-- 'spatelaw6.TableNames': WHATEVER THE INPUT: true; the input reads as it did. -/
def tableNamesSpec : ChangeSpec := { name := "tableNames", fn := fun _ => fun
  | [] => { results := [.lit (.bool true)], args := [] }
  | _ => none }
def tableNamesRow : OpenClaim := { program := "ytkedkajdiclmjaa", sum := "e2d3c0e1cf1430d10977153288701b2348eb53e3abb810ee2ff11a1bf829263c", func := "spate/spatelaw6.TableNames", spec := "tableNames", apart := false }
def TableNamesSaid : Prop := tableNamesRow.holds Try.pinned (OpenSpec.ofChange tableNamesSpec)

/-- ITS FALSE NEIGHBOUR: 'it returns false'. Refute it at one input. -/
def tableNamesWrong : ChangeSpec := { name := "tableNames", fn := fun _ => fun
  | [] => { results := [.lit (.bool false)], args := [] }
  | _ => none }
def TableNamesWrongFalsely : Prop := tableNamesRow.holds Try.pinned (OpenSpec.ofChange tableNamesWrong)

/-- 'spatelaw6.TableHash': WHATEVER THE INPUT: true; the input reads as it did. -/
def tableHashSpec : ChangeSpec := { name := "tableHash", fn := fun _ => fun
  | [d] => { results := [.lit (.bool true)], args := [d] }
  | _ => none }
def tableHashRow : OpenClaim := { program := "ytkedkajdiclmjaa", sum := "e2d3c0e1cf1430d10977153288701b2348eb53e3abb810ee2ff11a1bf829263c", func := "spate/spatelaw6.TableHash", spec := "tableHash", apart := false }
def TableHashSaid : Prop := tableHashRow.holds Try.pinned (OpenSpec.ofChange tableHashSpec)

/-- ITS FALSE NEIGHBOUR: 'it returns false'. Refute it at one input. -/
def tableHashWrong : ChangeSpec := { name := "tableHash", fn := fun _ => fun
  | [d] => { results := [.lit (.bool false)], args := [d] }
  | _ => none }
def TableHashWrongFalsely : Prop := tableHashRow.holds Try.pinned (OpenSpec.ofChange tableHashWrong)

/-- 'spatelaw6.TableGreat': WHATEVER THE INPUT: true; the input reads as it did. -/
def tableGreatSpec : ChangeSpec := { name := "tableGreat", fn := fun _ => fun
  | [d1, d2, d3] => { results := [.lit (.bool true)], args := [d1, d2, d3] }
  | _ => none }
def tableGreatRow : OpenClaim := { program := "ytkedkajdiclmjaa", sum := "e2d3c0e1cf1430d10977153288701b2348eb53e3abb810ee2ff11a1bf829263c", func := "spate/spatelaw6.TableGreat", spec := "tableGreat", apart := false }
def TableGreatSaid : Prop := tableGreatRow.holds Try.pinned (OpenSpec.ofChange tableGreatSpec)

/-- ITS FALSE NEIGHBOUR: 'it returns false'. Refute it at one input. -/
def tableGreatWrong : ChangeSpec := { name := "tableGreat", fn := fun _ => fun
  | [d1, d2, d3] => { results := [.lit (.bool false)], args := [d1, d2, d3] }
  | _ => none }
def TableGreatWrongFalsely : Prop := tableGreatRow.holds Try.pinned (OpenSpec.ofChange tableGreatWrong)

/-- 'spatelaw6.TableSteps': WHATEVER THE INPUT: true; the input reads as it did. -/
def tableStepsSpec : ChangeSpec := { name := "tableSteps", fn := fun _ => fun
  | [d1, d2] => { results := [.lit (.bool true)], args := [d1, d2] }
  | _ => none }
def tableStepsRow : OpenClaim := { program := "ytkedkajdiclmjaa", sum := "e2d3c0e1cf1430d10977153288701b2348eb53e3abb810ee2ff11a1bf829263c", func := "spate/spatelaw6.TableSteps", spec := "tableSteps", unfollowed := true, recurses := true, apart := false }
def TableStepsSaid : Prop := tableStepsRow.holds Try.pinned (OpenSpec.ofChange tableStepsSpec)

/-- ITS FALSE NEIGHBOUR: 'it returns false'. Refute it at one input. -/
def tableStepsWrong : ChangeSpec := { name := "tableSteps", fn := fun _ => fun
  | [d1, d2] => { results := [.lit (.bool false)], args := [d1, d2] }
  | _ => none }
def TableStepsWrongFalsely : Prop := tableStepsRow.holds Try.pinned (OpenSpec.ofChange tableStepsWrong)

/-- 'spatelaw6.TableWalks': WHATEVER THE INPUT: true; the input reads as it did. -/
def tableWalksSpec : ChangeSpec := { name := "tableWalks", fn := fun _ => fun
  | [d1, d2] => { results := [.lit (.bool true)], args := [d1, d2] }
  | _ => none }
def tableWalksRow : OpenClaim := { program := "ytkedkajdiclmjaa", sum := "e2d3c0e1cf1430d10977153288701b2348eb53e3abb810ee2ff11a1bf829263c", func := "spate/spatelaw6.TableWalks", spec := "tableWalks", unfollowed := true, recurses := true, apart := false }
def TableWalksSaid : Prop := tableWalksRow.holds Try.pinned (OpenSpec.ofChange tableWalksSpec)

/-- ITS FALSE NEIGHBOUR: 'it returns false'. Refute it at one input. -/
def tableWalksWrong : ChangeSpec := { name := "tableWalks", fn := fun _ => fun
  | [d1, d2] => { results := [.lit (.bool false)], args := [d1, d2] }
  | _ => none }
def TableWalksWrongFalsely : Prop := tableWalksRow.holds Try.pinned (OpenSpec.ofChange tableWalksWrong)

/-- 'spatelaw6.TableKeeps': WHATEVER THE INPUT: true; the input reads as it did. -/
def tableKeepsSpec : ChangeSpec := { name := "tableKeeps", fn := fun _ => fun
  | [d] => { results := [.lit (.bool true)], args := [d] }
  | _ => none }
def tableKeepsRow : OpenClaim := { program := "ytkedkajdiclmjaa", sum := "e2d3c0e1cf1430d10977153288701b2348eb53e3abb810ee2ff11a1bf829263c", func := "spate/spatelaw6.TableKeeps", spec := "tableKeeps", unfollowed := true, recurses := true, apart := false }
def TableKeepsSaid : Prop := tableKeepsRow.holds Try.pinned (OpenSpec.ofChange tableKeepsSpec)

/-- ITS FALSE NEIGHBOUR: 'it returns false'. Refute it at one input. -/
def tableKeepsWrong : ChangeSpec := { name := "tableKeeps", fn := fun _ => fun
  | [d] => { results := [.lit (.bool false)], args := [d] }
  | _ => none }
def TableKeepsWrongFalsely : Prop := tableKeepsRow.holds Try.pinned (OpenSpec.ofChange tableKeepsWrong)

/-- 'spatelaw6.TablePlays': WHATEVER THE INPUT: true; the input reads as it did. -/
def tablePlaysSpec : ChangeSpec := { name := "tablePlays", fn := fun _ => fun
  | [d] => { results := [.lit (.bool true)], args := [d] }
  | _ => none }
def tablePlaysRow : OpenClaim := { program := "ytkedkajdiclmjaa", sum := "e2d3c0e1cf1430d10977153288701b2348eb53e3abb810ee2ff11a1bf829263c", func := "spate/spatelaw6.TablePlays", spec := "tablePlays", unfollowed := true, recurses := true, apart := false }
def TablePlaysSaid : Prop := tablePlaysRow.holds Try.pinned (OpenSpec.ofChange tablePlaysSpec)

/-- ITS FALSE NEIGHBOUR: 'it returns false'. Refute it at one input. -/
def tablePlaysWrong : ChangeSpec := { name := "tablePlays", fn := fun _ => fun
  | [d] => { results := [.lit (.bool false)], args := [d] }
  | _ => none }
def TablePlaysWrongFalsely : Prop := tablePlaysRow.holds Try.pinned (OpenSpec.ofChange tablePlaysWrong)

/-- 'spatelaw6.TableTwins': WHATEVER THE INPUT: true; the input reads as it did. -/
def tableTwinsSpec : ChangeSpec := { name := "tableTwins", fn := fun _ => fun
  | [d1, d2, d3] => { results := [.lit (.bool true)], args := [d1, d2, d3] }
  | _ => none }
def tableTwinsRow : OpenClaim := { program := "ytkedkajdiclmjaa", sum := "e2d3c0e1cf1430d10977153288701b2348eb53e3abb810ee2ff11a1bf829263c", func := "spate/spatelaw6.TableTwins", spec := "tableTwins", unfollowed := true, recurses := true, apart := false }
def TableTwinsSaid : Prop := tableTwinsRow.holds Try.pinned (OpenSpec.ofChange tableTwinsSpec)

/-- ITS FALSE NEIGHBOUR: 'it returns false'. Refute it at one input. -/
def tableTwinsWrong : ChangeSpec := { name := "tableTwins", fn := fun _ => fun
  | [d1, d2, d3] => { results := [.lit (.bool false)], args := [d1, d2, d3] }
  | _ => none }
def TableTwinsWrongFalsely : Prop := tableTwinsRow.holds Try.pinned (OpenSpec.ofChange tableTwinsWrong)

/- THE SECOND FORM. 'bulk': how many values and letters a reading holds, each counted each time it is reached (what is shared counts as often as it is met; a slice's spare places count too). A statement '..UptoSaid' is the law's where the arguments, and the package variables that the reading takes, are together of bulk at most 1048576: NARROWER than '..Said'. Prove '..Said' where nothing that the law and all that it calls make is longer than what came in: it says more and counts as full. Else prove '..UptoSaid'. A law counts once. -/
mutual
def uptoBulk {H : Type} : DataW H → Nat
  | .lit (.string bytes) => bytes.length + 1
  | .lit _ => 1
  | .nil => 1
  | .ptr d => uptoBulk d + 1
  | .slice elems spare => uptoBulkAll elems + uptoBulkAll spare + 1
  | .agg parts => uptoBulkAll parts + 1
  | .iface _ d => uptoBulk d + 1
  | .map entries => uptoBulkEntries entries + 1
  | .held _ => 1
def uptoBulkAll {H : Type} : List (DataW H) → Nat
  | [] => 0
  | d :: r => uptoBulk d + uptoBulkAll r
def uptoBulkEntries {H : Type} : List (Lit × DataW H) → Nat
  | [] => 0
  | x :: r => uptoBulkEntry x + uptoBulkEntries r
def uptoBulkEntry {H : Type} : Lit × DataW H → Nat
  | (.string bytes, d) => bytes.length + uptoBulk d + 1
  | (_, d) => uptoBulk d + 1
 end
def uptoSmall : (H : Type) → List (DataW H) → Bool := fun _ ds => decide (uptoBulkAll ds ≤ 1048576)
def OpenSpec.upto (s : _root_.Go.ChangeSpec) : _root_.Go.OpenSpec := { _root_.Go.OpenSpec.ofChange s with cond := some uptoSmall }

/-- 'spatelaw6.TableNames', WHERE WHAT IT READS IS OF BULK AT MOST 1048576: true; the input reads as it did. -/
def tableNamesUptoRow : OpenClaim := { program := "ytkedkajdiclmjaa", sum := "e2d3c0e1cf1430d10977153288701b2348eb53e3abb810ee2ff11a1bf829263c", func := "spate/spatelaw6.TableNames", spec := "tableNames", apart := false, narrowed := true }
def TableNamesUptoSaid : Prop := tableNamesUptoRow.holds Try.pinned (OpenSpec.upto tableNamesSpec)

/-- 'spatelaw6.TableHash', WHERE WHAT IT READS IS OF BULK AT MOST 1048576: true; the input reads as it did. -/
def tableHashUptoRow : OpenClaim := { program := "ytkedkajdiclmjaa", sum := "e2d3c0e1cf1430d10977153288701b2348eb53e3abb810ee2ff11a1bf829263c", func := "spate/spatelaw6.TableHash", spec := "tableHash", apart := false, narrowed := true }
def TableHashUptoSaid : Prop := tableHashUptoRow.holds Try.pinned (OpenSpec.upto tableHashSpec)

/-- 'spatelaw6.TableGreat', WHERE WHAT IT READS IS OF BULK AT MOST 1048576: true; the input reads as it did. -/
def tableGreatUptoRow : OpenClaim := { program := "ytkedkajdiclmjaa", sum := "e2d3c0e1cf1430d10977153288701b2348eb53e3abb810ee2ff11a1bf829263c", func := "spate/spatelaw6.TableGreat", spec := "tableGreat", apart := false, narrowed := true }
def TableGreatUptoSaid : Prop := tableGreatUptoRow.holds Try.pinned (OpenSpec.upto tableGreatSpec)

/-- 'spatelaw6.TableSteps', WHERE WHAT IT READS IS OF BULK AT MOST 1048576: true; the input reads as it did. -/
def tableStepsUptoRow : OpenClaim := { program := "ytkedkajdiclmjaa", sum := "e2d3c0e1cf1430d10977153288701b2348eb53e3abb810ee2ff11a1bf829263c", func := "spate/spatelaw6.TableSteps", spec := "tableSteps", unfollowed := true, recurses := true, apart := false, narrowed := true }
def TableStepsUptoSaid : Prop := tableStepsUptoRow.holds Try.pinned (OpenSpec.upto tableStepsSpec)

/-- 'spatelaw6.TableWalks', WHERE WHAT IT READS IS OF BULK AT MOST 1048576: true; the input reads as it did. -/
def tableWalksUptoRow : OpenClaim := { program := "ytkedkajdiclmjaa", sum := "e2d3c0e1cf1430d10977153288701b2348eb53e3abb810ee2ff11a1bf829263c", func := "spate/spatelaw6.TableWalks", spec := "tableWalks", unfollowed := true, recurses := true, apart := false, narrowed := true }
def TableWalksUptoSaid : Prop := tableWalksUptoRow.holds Try.pinned (OpenSpec.upto tableWalksSpec)

/-- 'spatelaw6.TableKeeps', WHERE WHAT IT READS IS OF BULK AT MOST 1048576: true; the input reads as it did. -/
def tableKeepsUptoRow : OpenClaim := { program := "ytkedkajdiclmjaa", sum := "e2d3c0e1cf1430d10977153288701b2348eb53e3abb810ee2ff11a1bf829263c", func := "spate/spatelaw6.TableKeeps", spec := "tableKeeps", unfollowed := true, recurses := true, apart := false, narrowed := true }
def TableKeepsUptoSaid : Prop := tableKeepsUptoRow.holds Try.pinned (OpenSpec.upto tableKeepsSpec)

/-- 'spatelaw6.TablePlays', WHERE WHAT IT READS IS OF BULK AT MOST 1048576: true; the input reads as it did. -/
def tablePlaysUptoRow : OpenClaim := { program := "ytkedkajdiclmjaa", sum := "e2d3c0e1cf1430d10977153288701b2348eb53e3abb810ee2ff11a1bf829263c", func := "spate/spatelaw6.TablePlays", spec := "tablePlays", unfollowed := true, recurses := true, apart := false, narrowed := true }
def TablePlaysUptoSaid : Prop := tablePlaysUptoRow.holds Try.pinned (OpenSpec.upto tablePlaysSpec)

/-- 'spatelaw6.TableTwins', WHERE WHAT IT READS IS OF BULK AT MOST 1048576: true; the input reads as it did. -/
def tableTwinsUptoRow : OpenClaim := { program := "ytkedkajdiclmjaa", sum := "e2d3c0e1cf1430d10977153288701b2348eb53e3abb810ee2ff11a1bf829263c", func := "spate/spatelaw6.TableTwins", spec := "tableTwins", unfollowed := true, recurses := true, apart := false, narrowed := true }
def TableTwinsUptoSaid : Prop := tableTwinsUptoRow.holds Try.pinned (OpenSpec.upto tableTwinsSpec)

end Rows
end Go.Proofs.Ytkedkajdiclmjaa
