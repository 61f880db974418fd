/-
  No cell of these rows narrows 'for every input' (looked for: loops, veiled, ifaces, maps, wideKeys, modest, calm, conditions, laid).
  DERIVED. THE GIVEN ROWS OF THIS SEAT. 5 by the template 'for every input the law returns true; each argument reads behind the call as it read before'; 0 by the template 'total and deterministic' (their statements: YtjjchpaomgmmdaaGreatTotals.lean).
  GIVEN WITH THE SEED: the statements are not yours to turn. If you find one false, say at which input.
  Laid BY PROGRAM, IN A SANDBOX (cutbox-rows.mjs): the forced cells as the released guide's own fill.sh prints them over the translation ed29697e7a724682… (all of the seat's roots in one cut). By AI agents, Wed Nov 11 2026. No macro, syntax, notation, axiom, sorry.
-/
import Derived.Test.YtjjchpaomgmmdaaGreatChecked
import GoSem.Claim
import GoSem.ClaimJoined
import GoSem.ClaimMapViews
import Derived.JoinedTies
import Derived.KernelRfl
namespace Go.Proofs.YtjjchpaomgmmdaaGreat
/- THE CELL 'sum', in the pinned program and in every row, IS THE sha256 OF THE DUMP (.gsa) THAT YtjjchpaomgmmdaaGreatProg.lean LOADS. Nothing in Lean hashes anything: it is a label: what it is worth is what the hold of that sum in a sandbox is worth. -/
noncomputable def Tryz.pinned : Pinned := { name := "ytjjchpaomgmmdaagreat", sum := "ed29697e7a7246822920b5776cb415e777437e5463a15691a6a220b619b10a60", checked := Tryz.checked }
namespace Rows
def none {H : Type} : Left H := { results := [], args := [] }

/-- 'spatelaw10.StoreRoutes': WHATEVER THE INPUT: true; the input reads as it did. -/
def storeRoutesSpec : ChangeSpec := { name := "storeRoutes", fn := fun _ => fun
  | [d1, d2] => { results := [.lit (.bool true)], args := [d1, d2] }
  | _ => none }
def storeRoutesRow : OpenClaim := { program := "ytjjchpaomgmmdaagreat", sum := "ed29697e7a7246822920b5776cb415e777437e5463a15691a6a220b619b10a60", func := "spate/spatelaw10.StoreRoutes", spec := "storeRoutes", inPlace := ["math/bits.Add64", "internal/bytealg.abigen_runtime_cmpstring"], unfollowed := true, recurses := true, apart := false }
def StoreRoutesSaid : Prop := storeRoutesRow.holds Tryz.pinned (OpenSpec.ofChange storeRoutesSpec)

/-- ITS FALSE NEIGHBOUR: 'it returns false'. Refute it at one input. -/
def storeRoutesWrong : ChangeSpec := { name := "storeRoutes", fn := fun _ => fun
  | [d1, d2] => { results := [.lit (.bool false)], args := [d1, d2] }
  | _ => none }
def StoreRoutesWrongFalsely : Prop := storeRoutesRow.holds Tryz.pinned (OpenSpec.ofChange storeRoutesWrong)

/-- 'spatelaw10.StoreScans': WHATEVER THE INPUT: true; the input reads as it did. -/
def storeScansSpec : ChangeSpec := { name := "storeScans", fn := fun _ => fun
  | [d1, d2, d3, d4, d5, d6] => { results := [.lit (.bool true)], args := [d1, d2, d3, d4, d5, d6] }
  | _ => none }
def storeScansRow : OpenClaim := { program := "ytjjchpaomgmmdaagreat", sum := "ed29697e7a7246822920b5776cb415e777437e5463a15691a6a220b619b10a60", func := "spate/spatelaw10.StoreScans", spec := "storeScans", inPlace := ["math/bits.Add64", "internal/bytealg.abigen_runtime_cmpstring"], unfollowed := true, recurses := true, apart := false }
def StoreScansSaid : Prop := storeScansRow.holds Tryz.pinned (OpenSpec.ofChange storeScansSpec)

/-- ITS FALSE NEIGHBOUR: 'it returns false'. Refute it at one input. -/
def storeScansWrong : ChangeSpec := { name := "storeScans", fn := fun _ => fun
  | [d1, d2, d3, d4, d5, d6] => { results := [.lit (.bool false)], args := [d1, d2, d3, d4, d5, d6] }
  | _ => none }
def StoreScansWrongFalsely : Prop := storeScansRow.holds Tryz.pinned (OpenSpec.ofChange storeScansWrong)

/-- 'spatelaw10.StoreApart': WHATEVER THE INPUT: true; the input reads as it did. -/
def storeApartSpec : ChangeSpec := { name := "storeApart", fn := fun _ => fun
  | [d1, d2] => { results := [.lit (.bool true)], args := [d1, d2] }
  | _ => none }
def storeApartRow : OpenClaim := { program := "ytjjchpaomgmmdaagreat", sum := "ed29697e7a7246822920b5776cb415e777437e5463a15691a6a220b619b10a60", func := "spate/spatelaw10.StoreApart", spec := "storeApart", inPlace := ["internal/bytealg.abigen_runtime_cmpstring", "math/bits.Add64"], unfollowed := true, recurses := true, apart := false }
def StoreApartSaid : Prop := storeApartRow.holds Tryz.pinned (OpenSpec.ofChange storeApartSpec)

/-- ITS FALSE NEIGHBOUR: 'it returns false'. Refute it at one input. -/
def storeApartWrong : ChangeSpec := { name := "storeApart", fn := fun _ => fun
  | [d1, d2] => { results := [.lit (.bool false)], args := [d1, d2] }
  | _ => none }
def StoreApartWrongFalsely : Prop := storeApartRow.holds Tryz.pinned (OpenSpec.ofChange storeApartWrong)

/-- 'spatelaw10.StoreWhole': WHATEVER THE INPUT: true; the input reads as it did. -/
def storeWholeSpec : ChangeSpec := { name := "storeWhole", fn := fun _ => fun
  | [d1, d2, d3] => { results := [.lit (.bool true)], args := [d1, d2, d3] }
  | _ => none }
def storeWholeRow : OpenClaim := { program := "ytjjchpaomgmmdaagreat", sum := "ed29697e7a7246822920b5776cb415e777437e5463a15691a6a220b619b10a60", func := "spate/spatelaw10.StoreWhole", spec := "storeWhole", inPlace := ["math/bits.Add64", "internal/bytealg.abigen_runtime_cmpstring"], unfollowed := true, recurses := true, apart := false }
def StoreWholeSaid : Prop := storeWholeRow.holds Tryz.pinned (OpenSpec.ofChange storeWholeSpec)

/-- ITS FALSE NEIGHBOUR: 'it returns false'. Refute it at one input. -/
def storeWholeWrong : ChangeSpec := { name := "storeWhole", fn := fun _ => fun
  | [d1, d2, d3] => { results := [.lit (.bool false)], args := [d1, d2, d3] }
  | _ => none }
def StoreWholeWrongFalsely : Prop := storeWholeRow.holds Tryz.pinned (OpenSpec.ofChange storeWholeWrong)

/-- 'spatelaw10.StorePlays': WHATEVER THE INPUT: true; the input reads as it did. -/
def storePlaysSpec : ChangeSpec := { name := "storePlays", fn := fun _ => fun
  | [d1, d2, d3] => { results := [.lit (.bool true)], args := [d1, d2, d3] }
  | _ => none }
def storePlaysRow : OpenClaim := { program := "ytjjchpaomgmmdaagreat", sum := "ed29697e7a7246822920b5776cb415e777437e5463a15691a6a220b619b10a60", func := "spate/spatelaw10.StorePlays", spec := "storePlays", inPlace := ["math/bits.Add64", "internal/bytealg.abigen_runtime_cmpstring"], unfollowed := true, recurses := true, apart := false }
def StorePlaysSaid : Prop := storePlaysRow.holds Tryz.pinned (OpenSpec.ofChange storePlaysSpec)

/-- ITS FALSE NEIGHBOUR: 'it returns false'. Refute it at one input. -/
def storePlaysWrong : ChangeSpec := { name := "storePlays", fn := fun _ => fun
  | [d1, d2, d3] => { results := [.lit (.bool false)], args := [d1, d2, d3] }
  | _ => none }
def StorePlaysWrongFalsely : Prop := storePlaysRow.holds Tryz.pinned (OpenSpec.ofChange storePlaysWrong)

/- THE SECOND FORM. 'bulk': how many values and letters a reading holds, each counted each time it is reached (what is shared counts as often as it is met; a slice's spare places count too). A statement '..UptoSaid' is the law's where the arguments, and the package variables that the reading takes, are together of bulk at most 1048576: NARROWER than '..Said'. Prove '..Said' where nothing that the law and all that it calls make is longer than what came in: it says more and counts as full. Else prove '..UptoSaid'. A law counts once. -/
mutual
def uptoBulk {H : Type} : DataW H → Nat
  | .lit (.string bytes) => bytes.length + 1
  | .lit _ => 1
  | .nil => 1
  | .ptr d => uptoBulk d + 1
  | .slice elems spare => uptoBulkAll elems + uptoBulkAll spare + 1
  | .agg parts => uptoBulkAll parts + 1
  | .iface _ d => uptoBulk d + 1
  | .map entries => uptoBulkEntries entries + 1
  | .held _ => 1
def uptoBulkAll {H : Type} : List (DataW H) → Nat
  | [] => 0
  | d :: r => uptoBulk d + uptoBulkAll r
def uptoBulkEntries {H : Type} : List (Lit × DataW H) → Nat
  | [] => 0
  | x :: r => uptoBulkEntry x + uptoBulkEntries r
def uptoBulkEntry {H : Type} : Lit × DataW H → Nat
  | (.string bytes, d) => bytes.length + uptoBulk d + 1
  | (_, d) => uptoBulk d + 1
 end
def uptoSmall : (H : Type) → List (DataW H) → Bool := fun _ ds => decide (uptoBulkAll ds ≤ 1048576)
def OpenSpec.upto (s : _root_.Go.ChangeSpec) : _root_.Go.OpenSpec := { _root_.Go.OpenSpec.ofChange s with cond := some uptoSmall }

/-- 'spatelaw10.StoreRoutes', WHERE WHAT IT READS IS OF BULK AT MOST 1048576: true; the input reads as it did. -/
def storeRoutesUptoRow : OpenClaim := { program := "ytjjchpaomgmmdaagreat", sum := "ed29697e7a7246822920b5776cb415e777437e5463a15691a6a220b619b10a60", func := "spate/spatelaw10.StoreRoutes", spec := "storeRoutes", inPlace := ["math/bits.Add64", "internal/bytealg.abigen_runtime_cmpstring"], unfollowed := true, recurses := true, apart := false, narrowed := true }
def StoreRoutesUptoSaid : Prop := storeRoutesUptoRow.holds Tryz.pinned (OpenSpec.upto storeRoutesSpec)

/-- 'spatelaw10.StoreScans', WHERE WHAT IT READS IS OF BULK AT MOST 1048576: true; the input reads as it did. -/
def storeScansUptoRow : OpenClaim := { program := "ytjjchpaomgmmdaagreat", sum := "ed29697e7a7246822920b5776cb415e777437e5463a15691a6a220b619b10a60", func := "spate/spatelaw10.StoreScans", spec := "storeScans", inPlace := ["math/bits.Add64", "internal/bytealg.abigen_runtime_cmpstring"], unfollowed := true, recurses := true, apart := false, narrowed := true }
def StoreScansUptoSaid : Prop := storeScansUptoRow.holds Tryz.pinned (OpenSpec.upto storeScansSpec)

/-- 'spatelaw10.StoreApart', WHERE WHAT IT READS IS OF BULK AT MOST 1048576: true; the input reads as it did. -/
def storeApartUptoRow : OpenClaim := { program := "ytjjchpaomgmmdaagreat", sum := "ed29697e7a7246822920b5776cb415e777437e5463a15691a6a220b619b10a60", func := "spate/spatelaw10.StoreApart", spec := "storeApart", inPlace := ["internal/bytealg.abigen_runtime_cmpstring", "math/bits.Add64"], unfollowed := true, recurses := true, apart := false, narrowed := true }
def StoreApartUptoSaid : Prop := storeApartUptoRow.holds Tryz.pinned (OpenSpec.upto storeApartSpec)

/-- 'spatelaw10.StoreWhole', WHERE WHAT IT READS IS OF BULK AT MOST 1048576: true; the input reads as it did. -/
def storeWholeUptoRow : OpenClaim := { program := "ytjjchpaomgmmdaagreat", sum := "ed29697e7a7246822920b5776cb415e777437e5463a15691a6a220b619b10a60", func := "spate/spatelaw10.StoreWhole", spec := "storeWhole", inPlace := ["math/bits.Add64", "internal/bytealg.abigen_runtime_cmpstring"], unfollowed := true, recurses := true, apart := false, narrowed := true }
def StoreWholeUptoSaid : Prop := storeWholeUptoRow.holds Tryz.pinned (OpenSpec.upto storeWholeSpec)

/-- 'spatelaw10.StorePlays', WHERE WHAT IT READS IS OF BULK AT MOST 1048576: true; the input reads as it did. -/
def storePlaysUptoRow : OpenClaim := { program := "ytjjchpaomgmmdaagreat", sum := "ed29697e7a7246822920b5776cb415e777437e5463a15691a6a220b619b10a60", func := "spate/spatelaw10.StorePlays", spec := "storePlays", inPlace := ["math/bits.Add64", "internal/bytealg.abigen_runtime_cmpstring"], unfollowed := true, recurses := true, apart := false, narrowed := true }
def StorePlaysUptoSaid : Prop := storePlaysUptoRow.holds Tryz.pinned (OpenSpec.upto storePlaysSpec)

end Rows
end Go.Proofs.YtjjchpaomgmmdaaGreat
