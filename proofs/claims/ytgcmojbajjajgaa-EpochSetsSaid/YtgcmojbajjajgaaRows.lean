/-
  No cell of these rows narrows 'for every input' (looked for: loops, veiled, ifaces, maps, wideKeys, modest, calm, conditions, laid).
  DERIVED. THE GIVEN ROWS OF THIS SEAT. 6 by the template 'for every input the law returns true; each argument reads behind the call as it read before'; 0 by the template 'total and deterministic' (their statements: YtgcmojbajjajgaaTotals.lean).
  GIVEN WITH THE SEED: the statements are not yours to turn. If you find one false, say at which input.
  Laid BY PROGRAM, IN A SANDBOX (cutbox-rows.mjs): the forced cells as the released guide's own fill.sh prints them over the translation d87dcbae450dfe48… (all of the seat's roots in one cut). By AI agents, Wed Nov 11 2026. No macro, syntax, notation, axiom, sorry.
-/
import Derived.Test.YtgcmojbajjajgaaChecked
import GoSem.Claim
import GoSem.ClaimJoined
import GoSem.ClaimMapViews
import Derived.JoinedTies
import Derived.KernelRfl
namespace Go.Proofs.Ytgcmojbajjajgaa
/- THE CELL 'sum', in the pinned program and in every row, IS THE sha256 OF THE DUMP (.gsa) THAT YtgcmojbajjajgaaProg.lean LOADS. Nothing in Lean hashes anything: it is a label: what it is worth is what the hold of that sum in a sandbox is worth. -/
noncomputable def Try.pinned : Pinned := { name := "ytgcmojbajjajgaa", sum := "d87dcbae450dfe48c1f4cd1cc7e0511ab2d0157d2a84e56497d538f4716d791f", checked := Try.checked }
namespace Rows
def none {H : Type} : Left H := { results := [], args := [] }

/-- 'spatelaw9.EpochNames': WHATEVER THE INPUT: true; the input reads as it did. -/
def epochNamesSpec : ChangeSpec := { name := "epochNames", fn := fun _ => fun
  | [] => { results := [.lit (.bool true)], args := [] }
  | _ => none }
def epochNamesRow : OpenClaim := { program := "ytgcmojbajjajgaa", sum := "d87dcbae450dfe48c1f4cd1cc7e0511ab2d0157d2a84e56497d538f4716d791f", func := "spate/spatelaw9.EpochNames", spec := "epochNames", apart := false }
def EpochNamesSaid : Prop := epochNamesRow.holds Try.pinned (OpenSpec.ofChange epochNamesSpec)

/-- ITS FALSE NEIGHBOUR: 'it returns false'. Refute it at one input. -/
def epochNamesWrong : ChangeSpec := { name := "epochNames", fn := fun _ => fun
  | [] => { results := [.lit (.bool false)], args := [] }
  | _ => none }
def EpochNamesWrongFalsely : Prop := epochNamesRow.holds Try.pinned (OpenSpec.ofChange epochNamesWrong)

/-- 'spatelaw9.EpochLives': WHATEVER THE INPUT: true; the input reads as it did. -/
def epochLivesSpec : ChangeSpec := { name := "epochLives", fn := fun _ => fun
  | [d1, d2] => { results := [.lit (.bool true)], args := [d1, d2] }
  | _ => none }
def epochLivesRow : OpenClaim := { program := "ytgcmojbajjajgaa", sum := "d87dcbae450dfe48c1f4cd1cc7e0511ab2d0157d2a84e56497d538f4716d791f", func := "spate/spatelaw9.EpochLives", spec := "epochLives", inPlace := ["(*internal/sync.Mutex).Lock", "internal/race.Disable", "sync/atomic.CompareAndSwapInt32", "internal/race.Enable", "internal/race.Acquire", "(*internal/sync.Mutex).lockSlow", "internal/sync.runtime_canSpin", "internal/sync.runtime_doSpin", "internal/sync.throw", "internal/sync.runtime_nanotime", "internal/sync.runtime_SemacquireMutex", "sync/atomic.AddInt32", "(*internal/sync.Mutex).Unlock", "internal/race.ReleaseMerge", "(*internal/sync.Mutex).unlockSlow", "internal/sync.fatal", "internal/sync.runtime_Semrelease"], unfollowed := true, recurses := true, apart := false }
def EpochLivesSaid : Prop := epochLivesRow.holds Try.pinned (OpenSpec.ofChange epochLivesSpec)

/-- ITS FALSE NEIGHBOUR: 'it returns false'. Refute it at one input. -/
def epochLivesWrong : ChangeSpec := { name := "epochLives", fn := fun _ => fun
  | [d1, d2] => { results := [.lit (.bool false)], args := [d1, d2] }
  | _ => none }
def EpochLivesWrongFalsely : Prop := epochLivesRow.holds Try.pinned (OpenSpec.ofChange epochLivesWrong)

/-- 'spatelaw9.EpochSets': WHATEVER THE INPUT: true; the input reads as it did. -/
def epochSetsSpec : ChangeSpec := { name := "epochSets", fn := fun _ => fun
  | [d1, d2] => { results := [.lit (.bool true)], args := [d1, d2] }
  | _ => none }
def epochSetsRow : OpenClaim := { program := "ytgcmojbajjajgaa", sum := "d87dcbae450dfe48c1f4cd1cc7e0511ab2d0157d2a84e56497d538f4716d791f", func := "spate/spatelaw9.EpochSets", spec := "epochSets", inPlace := ["(*internal/sync.Mutex).Lock", "internal/race.Disable", "sync/atomic.CompareAndSwapInt32", "internal/race.Enable", "internal/race.Acquire", "(*internal/sync.Mutex).lockSlow", "internal/sync.runtime_canSpin", "internal/sync.runtime_doSpin", "internal/sync.throw", "internal/sync.runtime_nanotime", "internal/sync.runtime_SemacquireMutex", "sync/atomic.AddInt32", "(*internal/sync.Mutex).Unlock", "internal/race.ReleaseMerge", "(*internal/sync.Mutex).unlockSlow", "internal/sync.fatal", "internal/sync.runtime_Semrelease"], unfollowed := true, recurses := true, apart := false }
def EpochSetsSaid : Prop := epochSetsRow.holds Try.pinned (OpenSpec.ofChange epochSetsSpec)

/-- ITS FALSE NEIGHBOUR: 'it returns false'. Refute it at one input. -/
def epochSetsWrong : ChangeSpec := { name := "epochSets", fn := fun _ => fun
  | [d1, d2] => { results := [.lit (.bool false)], args := [d1, d2] }
  | _ => none }
def EpochSetsWrongFalsely : Prop := epochSetsRow.holds Try.pinned (OpenSpec.ofChange epochSetsWrong)

/-- 'spatelaw9.EpochOwners': WHATEVER THE INPUT: true; the input reads as it did. -/
def epochOwnersSpec : ChangeSpec := { name := "epochOwners", fn := fun _ => fun
  | [d1, d2, d3] => { results := [.lit (.bool true)], args := [d1, d2, d3] }
  | _ => none }
def epochOwnersRow : OpenClaim := { program := "ytgcmojbajjajgaa", sum := "d87dcbae450dfe48c1f4cd1cc7e0511ab2d0157d2a84e56497d538f4716d791f", func := "spate/spatelaw9.EpochOwners", spec := "epochOwners", inPlace := ["(*internal/sync.Mutex).Lock", "internal/race.Disable", "sync/atomic.CompareAndSwapInt32", "internal/race.Enable", "internal/race.Acquire", "(*internal/sync.Mutex).lockSlow", "internal/sync.runtime_canSpin", "internal/sync.runtime_doSpin", "internal/sync.throw", "internal/sync.runtime_nanotime", "internal/sync.runtime_SemacquireMutex", "sync/atomic.AddInt32", "(*internal/sync.Mutex).Unlock", "internal/race.ReleaseMerge", "(*internal/sync.Mutex).unlockSlow", "internal/sync.fatal", "internal/sync.runtime_Semrelease"], unfollowed := true, recurses := true, apart := false }
def EpochOwnersSaid : Prop := epochOwnersRow.holds Try.pinned (OpenSpec.ofChange epochOwnersSpec)

/-- ITS FALSE NEIGHBOUR: 'it returns false'. Refute it at one input. -/
def epochOwnersWrong : ChangeSpec := { name := "epochOwners", fn := fun _ => fun
  | [d1, d2, d3] => { results := [.lit (.bool false)], args := [d1, d2, d3] }
  | _ => none }
def EpochOwnersWrongFalsely : Prop := epochOwnersRow.holds Try.pinned (OpenSpec.ofChange epochOwnersWrong)

/-- 'spatelaw9.EpochOwn': WHATEVER THE INPUT: true; the input reads as it did. -/
def epochOwnSpec : ChangeSpec := { name := "epochOwn", fn := fun _ => fun
  | [d1, d2] => { results := [.lit (.bool true)], args := [d1, d2] }
  | _ => none }
def epochOwnRow : OpenClaim := { program := "ytgcmojbajjajgaa", sum := "d87dcbae450dfe48c1f4cd1cc7e0511ab2d0157d2a84e56497d538f4716d791f", func := "spate/spatelaw9.EpochOwn", spec := "epochOwn", inPlace := ["(*internal/sync.Mutex).Lock", "internal/race.Disable", "sync/atomic.CompareAndSwapInt32", "internal/race.Enable", "internal/race.Acquire", "(*internal/sync.Mutex).lockSlow", "internal/sync.runtime_canSpin", "internal/sync.runtime_doSpin", "internal/sync.throw", "internal/sync.runtime_nanotime", "internal/sync.runtime_SemacquireMutex", "sync/atomic.AddInt32", "(*internal/sync.Mutex).Unlock", "internal/race.ReleaseMerge", "(*internal/sync.Mutex).unlockSlow", "internal/sync.fatal", "internal/sync.runtime_Semrelease"], unfollowed := true, recurses := true, apart := false }
def EpochOwnSaid : Prop := epochOwnRow.holds Try.pinned (OpenSpec.ofChange epochOwnSpec)

/-- ITS FALSE NEIGHBOUR: 'it returns false'. Refute it at one input. -/
def epochOwnWrong : ChangeSpec := { name := "epochOwn", fn := fun _ => fun
  | [d1, d2] => { results := [.lit (.bool false)], args := [d1, d2] }
  | _ => none }
def EpochOwnWrongFalsely : Prop := epochOwnRow.holds Try.pinned (OpenSpec.ofChange epochOwnWrong)

/-- 'spatelaw9.EpochTwins': WHATEVER THE INPUT: true; the input reads as it did. -/
def epochTwinsSpec : ChangeSpec := { name := "epochTwins", fn := fun _ => fun
  | [d1, d2, d3, d4] => { results := [.lit (.bool true)], args := [d1, d2, d3, d4] }
  | _ => none }
def epochTwinsRow : OpenClaim := { program := "ytgcmojbajjajgaa", sum := "d87dcbae450dfe48c1f4cd1cc7e0511ab2d0157d2a84e56497d538f4716d791f", func := "spate/spatelaw9.EpochTwins", spec := "epochTwins", inPlace := ["(*internal/sync.Mutex).Lock", "internal/race.Disable", "sync/atomic.CompareAndSwapInt32", "internal/race.Enable", "internal/race.Acquire", "(*internal/sync.Mutex).lockSlow", "internal/sync.runtime_canSpin", "internal/sync.runtime_doSpin", "internal/sync.throw", "internal/sync.runtime_nanotime", "internal/sync.runtime_SemacquireMutex", "sync/atomic.AddInt32", "(*internal/sync.Mutex).Unlock", "internal/race.ReleaseMerge", "(*internal/sync.Mutex).unlockSlow", "internal/sync.fatal", "internal/sync.runtime_Semrelease", "maps.clone"], unfollowed := true, recurses := true, apart := false }
def EpochTwinsSaid : Prop := epochTwinsRow.holds Try.pinned (OpenSpec.ofChange epochTwinsSpec)

/-- ITS FALSE NEIGHBOUR: 'it returns false'. Refute it at one input. -/
def epochTwinsWrong : ChangeSpec := { name := "epochTwins", fn := fun _ => fun
  | [d1, d2, d3, d4] => { results := [.lit (.bool false)], args := [d1, d2, d3, d4] }
  | _ => none }
def EpochTwinsWrongFalsely : Prop := epochTwinsRow.holds Try.pinned (OpenSpec.ofChange epochTwinsWrong)

/- THE SECOND FORM. 'bulk': how many values and letters a reading holds, each counted each time it is reached (what is shared counts as often as it is met; a slice's spare places count too). A statement '..UptoSaid' is the law's where the arguments, and the package variables that the reading takes, are together of bulk at most 1048576: NARROWER than '..Said'. Prove '..Said' where nothing that the law and all that it calls make is longer than what came in: it says more and counts as full. Else prove '..UptoSaid'. A law counts once. -/
mutual
def uptoBulk {H : Type} : DataW H → Nat
  | .lit (.string bytes) => bytes.length + 1
  | .lit _ => 1
  | .nil => 1
  | .ptr d => uptoBulk d + 1
  | .slice elems spare => uptoBulkAll elems + uptoBulkAll spare + 1
  | .agg parts => uptoBulkAll parts + 1
  | .iface _ d => uptoBulk d + 1
  | .map entries => uptoBulkEntries entries + 1
  | .held _ => 1
def uptoBulkAll {H : Type} : List (DataW H) → Nat
  | [] => 0
  | d :: r => uptoBulk d + uptoBulkAll r
def uptoBulkEntries {H : Type} : List (Lit × DataW H) → Nat
  | [] => 0
  | x :: r => uptoBulkEntry x + uptoBulkEntries r
def uptoBulkEntry {H : Type} : Lit × DataW H → Nat
  | (.string bytes, d) => bytes.length + uptoBulk d + 1
  | (_, d) => uptoBulk d + 1
 end
def uptoSmall : (H : Type) → List (DataW H) → Bool := fun _ ds => decide (uptoBulkAll ds ≤ 1048576)
def OpenSpec.upto (s : _root_.Go.ChangeSpec) : _root_.Go.OpenSpec := { _root_.Go.OpenSpec.ofChange s with cond := some uptoSmall }

/-- 'spatelaw9.EpochNames', WHERE WHAT IT READS IS OF BULK AT MOST 1048576: true; the input reads as it did. -/
def epochNamesUptoRow : OpenClaim := { program := "ytgcmojbajjajgaa", sum := "d87dcbae450dfe48c1f4cd1cc7e0511ab2d0157d2a84e56497d538f4716d791f", func := "spate/spatelaw9.EpochNames", spec := "epochNames", apart := false, narrowed := true }
def EpochNamesUptoSaid : Prop := epochNamesUptoRow.holds Try.pinned (OpenSpec.upto epochNamesSpec)

/-- 'spatelaw9.EpochLives', WHERE WHAT IT READS IS OF BULK AT MOST 1048576: true; the input reads as it did. -/
def epochLivesUptoRow : OpenClaim := { program := "ytgcmojbajjajgaa", sum := "d87dcbae450dfe48c1f4cd1cc7e0511ab2d0157d2a84e56497d538f4716d791f", func := "spate/spatelaw9.EpochLives", spec := "epochLives", inPlace := ["(*internal/sync.Mutex).Lock", "internal/race.Disable", "sync/atomic.CompareAndSwapInt32", "internal/race.Enable", "internal/race.Acquire", "(*internal/sync.Mutex).lockSlow", "internal/sync.runtime_canSpin", "internal/sync.runtime_doSpin", "internal/sync.throw", "internal/sync.runtime_nanotime", "internal/sync.runtime_SemacquireMutex", "sync/atomic.AddInt32", "(*internal/sync.Mutex).Unlock", "internal/race.ReleaseMerge", "(*internal/sync.Mutex).unlockSlow", "internal/sync.fatal", "internal/sync.runtime_Semrelease"], unfollowed := true, recurses := true, apart := false, narrowed := true }
def EpochLivesUptoSaid : Prop := epochLivesUptoRow.holds Try.pinned (OpenSpec.upto epochLivesSpec)

/-- 'spatelaw9.EpochSets', WHERE WHAT IT READS IS OF BULK AT MOST 1048576: true; the input reads as it did. -/
def epochSetsUptoRow : OpenClaim := { program := "ytgcmojbajjajgaa", sum := "d87dcbae450dfe48c1f4cd1cc7e0511ab2d0157d2a84e56497d538f4716d791f", func := "spate/spatelaw9.EpochSets", spec := "epochSets", inPlace := ["(*internal/sync.Mutex).Lock", "internal/race.Disable", "sync/atomic.CompareAndSwapInt32", "internal/race.Enable", "internal/race.Acquire", "(*internal/sync.Mutex).lockSlow", "internal/sync.runtime_canSpin", "internal/sync.runtime_doSpin", "internal/sync.throw", "internal/sync.runtime_nanotime", "internal/sync.runtime_SemacquireMutex", "sync/atomic.AddInt32", "(*internal/sync.Mutex).Unlock", "internal/race.ReleaseMerge", "(*internal/sync.Mutex).unlockSlow", "internal/sync.fatal", "internal/sync.runtime_Semrelease"], unfollowed := true, recurses := true, apart := false, narrowed := true }
def EpochSetsUptoSaid : Prop := epochSetsUptoRow.holds Try.pinned (OpenSpec.upto epochSetsSpec)

/-- 'spatelaw9.EpochOwners', WHERE WHAT IT READS IS OF BULK AT MOST 1048576: true; the input reads as it did. -/
def epochOwnersUptoRow : OpenClaim := { program := "ytgcmojbajjajgaa", sum := "d87dcbae450dfe48c1f4cd1cc7e0511ab2d0157d2a84e56497d538f4716d791f", func := "spate/spatelaw9.EpochOwners", spec := "epochOwners", inPlace := ["(*internal/sync.Mutex).Lock", "internal/race.Disable", "sync/atomic.CompareAndSwapInt32", "internal/race.Enable", "internal/race.Acquire", "(*internal/sync.Mutex).lockSlow", "internal/sync.runtime_canSpin", "internal/sync.runtime_doSpin", "internal/sync.throw", "internal/sync.runtime_nanotime", "internal/sync.runtime_SemacquireMutex", "sync/atomic.AddInt32", "(*internal/sync.Mutex).Unlock", "internal/race.ReleaseMerge", "(*internal/sync.Mutex).unlockSlow", "internal/sync.fatal", "internal/sync.runtime_Semrelease"], unfollowed := true, recurses := true, apart := false, narrowed := true }
def EpochOwnersUptoSaid : Prop := epochOwnersUptoRow.holds Try.pinned (OpenSpec.upto epochOwnersSpec)

/-- 'spatelaw9.EpochOwn', WHERE WHAT IT READS IS OF BULK AT MOST 1048576: true; the input reads as it did. -/
def epochOwnUptoRow : OpenClaim := { program := "ytgcmojbajjajgaa", sum := "d87dcbae450dfe48c1f4cd1cc7e0511ab2d0157d2a84e56497d538f4716d791f", func := "spate/spatelaw9.EpochOwn", spec := "epochOwn", inPlace := ["(*internal/sync.Mutex).Lock", "internal/race.Disable", "sync/atomic.CompareAndSwapInt32", "internal/race.Enable", "internal/race.Acquire", "(*internal/sync.Mutex).lockSlow", "internal/sync.runtime_canSpin", "internal/sync.runtime_doSpin", "internal/sync.throw", "internal/sync.runtime_nanotime", "internal/sync.runtime_SemacquireMutex", "sync/atomic.AddInt32", "(*internal/sync.Mutex).Unlock", "internal/race.ReleaseMerge", "(*internal/sync.Mutex).unlockSlow", "internal/sync.fatal", "internal/sync.runtime_Semrelease"], unfollowed := true, recurses := true, apart := false, narrowed := true }
def EpochOwnUptoSaid : Prop := epochOwnUptoRow.holds Try.pinned (OpenSpec.upto epochOwnSpec)

/-- 'spatelaw9.EpochTwins', WHERE WHAT IT READS IS OF BULK AT MOST 1048576: true; the input reads as it did. -/
def epochTwinsUptoRow : OpenClaim := { program := "ytgcmojbajjajgaa", sum := "d87dcbae450dfe48c1f4cd1cc7e0511ab2d0157d2a84e56497d538f4716d791f", func := "spate/spatelaw9.EpochTwins", spec := "epochTwins", inPlace := ["(*internal/sync.Mutex).Lock", "internal/race.Disable", "sync/atomic.CompareAndSwapInt32", "internal/race.Enable", "internal/race.Acquire", "(*internal/sync.Mutex).lockSlow", "internal/sync.runtime_canSpin", "internal/sync.runtime_doSpin", "internal/sync.throw", "internal/sync.runtime_nanotime", "internal/sync.runtime_SemacquireMutex", "sync/atomic.AddInt32", "(*internal/sync.Mutex).Unlock", "internal/race.ReleaseMerge", "(*internal/sync.Mutex).unlockSlow", "internal/sync.fatal", "internal/sync.runtime_Semrelease", "maps.clone"], unfollowed := true, recurses := true, apart := false, narrowed := true }
def EpochTwinsUptoSaid : Prop := epochTwinsUptoRow.holds Try.pinned (OpenSpec.upto epochTwinsSpec)

end Rows
end Go.Proofs.Ytgcmojbajjajgaa
