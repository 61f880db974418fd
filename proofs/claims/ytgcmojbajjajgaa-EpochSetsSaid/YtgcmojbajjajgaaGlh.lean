/- Printed by a program of this session (gen.py): for each Go function a Lean function over the heap, and that the Go code does what it says; no condition. -/
import Derived.Test.YtgcmojbajjajgaaVn
import Derived.Test.YtgcmojbajjajgaaVr
import Derived.Test.YtgcmojbajjajgaaVv
import Derived.Test.YtgcmojbajjajgaaProg
namespace Go.Proofs.Ytgcmojbajjajgaa.V
open Go
set_option linter.unusedVariables false
set_option maxRecDepth 100000
noncomputable abbrev PP : Program := Try.prog
theorem mixed : PP.follows .mixedOrders = true := by kernel_rfl
theorem one1 {u : Value} (h : u.oneCell' = true) : ∀ v ∈ [u], v.oneCell' = true := by intro v hv; simp at hv; subst hv; exact h
theorem ones_app {a b : List Value} (ha : ∀ v ∈ a, v.oneCell' = true) (hb : ∀ v ∈ b, v.oneCell' = true) : ∀ v ∈ a ++ b, v.oneCell' = true := fun v hv => (List.mem_append.1 hv).elim (ha v) (hb v)
structure S_sync_noCopy where

def S_sync_noCopy.cells (x : S_sync_noCopy) : List Value := []
def ld_S_sync_noCopy (h : H) (a : Addr) (K : S_sync_noCopy → Prop) : Prop := ∃ x : S_sync_noCopy, Cells h a x.cells ∧ K x
theorem ones_S_sync_noCopy (x : S_sync_noCopy) : ∀ v ∈ x.cells, v.oneCell' = true := fun v hv => by cases hv
structure S_sync_Mutex where
  state : Int
  sema : Int
def S_sync_Mutex.cells (x : S_sync_Mutex) : List Value := [(.int .i32 x.state)] ++ [(.int .u32 x.sema)]
def ld_S_sync_Mutex (h : H) (a : Addr) (K : S_sync_Mutex → Prop) : Prop := ∃ x : S_sync_Mutex, Cells h a x.cells ∧ K x
theorem ones_S_sync_Mutex (x : S_sync_Mutex) : ∀ v ∈ x.cells, v.oneCell' = true := ones_app (one1 rfl) (one1 rfl)
structure S_sync_Mutex_58 where
  f0 : S_sync_noCopy
  mu : S_sync_Mutex
def S_sync_Mutex_58.cells (x : S_sync_Mutex_58) : List Value := x.f0.cells ++ x.mu.cells
def ld_S_sync_Mutex_58 (h : H) (a : Addr) (K : S_sync_Mutex_58 → Prop) : Prop := ∃ x : S_sync_Mutex_58, Cells h a x.cells ∧ K x
theorem ones_S_sync_Mutex_58 (x : S_sync_Mutex_58) : ∀ v ∈ x.cells, v.oneCell' = true := ones_app (ones_S_sync_noCopy _) (ones_S_sync_Mutex _)
structure S_epoch_owner where
  set_ : Option Nat
  inner : Int
def S_epoch_owner.cells (x : S_epoch_owner) : List Value := [(.map x.set_)] ++ [(.int .i64 x.inner)]
def ld_S_epoch_owner (h : H) (a : Addr) (K : S_epoch_owner → Prop) : Prop := ∃ x : S_epoch_owner, Cells h a x.cells ∧ K x
theorem ones_S_epoch_owner (x : S_epoch_owner) : ∀ v ∈ x.cells, v.oneCell' = true := ones_app (one1 rfl) (one1 rfl)
structure S_epoch_Book where
  Mutex : S_sync_Mutex_58
  pins : Int
  now : Int
  owners : List S_epoch_owner
  dying : Option Nat
  sweeping : Bool
def S_epoch_Book.cells (x : S_epoch_Book) : List Value := x.Mutex.cells ++ [(.int .i64 x.pins)] ++ [(.int .i64 x.now)] ++ x.owners.flatMap S_epoch_owner.cells ++ [(.map x.dying)] ++ [(.bool x.sweeping)]
def ld_S_epoch_Book (h : H) (a : Addr) (K : S_epoch_Book → Prop) : Prop := ∃ x : S_epoch_Book, Cells h a x.cells ∧ K x
theorem ones_S_epoch_Book (x : S_epoch_Book) : ∀ v ∈ x.cells, v.oneCell' = true := ones_app (ones_app (ones_app (ones_app (ones_app (ones_S_sync_Mutex_58 _) (one1 rfl)) (one1 rfl)) (ones_flat ones_S_epoch_owner _)) (one1 rfl)) (one1 rfl)
structure S_spatelaw9_Step where
  Kind : Int
  Owner : Int
  Epoch : Int
  Last : Bool
def S_spatelaw9_Step.cells (x : S_spatelaw9_Step) : List Value := [(.int .i64 x.Kind)] ++ [(.int .i64 x.Owner)] ++ [(.int .i64 x.Epoch)] ++ [(.bool x.Last)]
def ld_S_spatelaw9_Step (h : H) (a : Addr) (K : S_spatelaw9_Step → Prop) : Prop := ∃ x : S_spatelaw9_Step, Cells h a x.cells ∧ K x
theorem ones_S_spatelaw9_Step (x : S_spatelaw9_Step) : ∀ v ∈ x.cells, v.oneCell' = true := ones_app (ones_app (ones_app (one1 rfl) (one1 rfl)) (one1 rfl)) (one1 rfl)
abbrev ty_3 : TypeId := 3
abbrev ty_28 : TypeId := 28
abbrev ty_29 : TypeId := 29
abbrev ty_31 : TypeId := 31
abbrev ty_53 : TypeId := 53
abbrev ty_60 : TypeId := 60
abbrev ty_62 : TypeId := 62
abbrev ty_65 : TypeId := 65
theorem fo_31_0 : ∀ w, Sem.run PP (do match (#[({ name := "Kind", type := 3, offset := 0, embedded := false, tag := "", pkgPath := "", byteOffset := 0 } : Field), ({ name := "Owner", type := 3, offset := 1, embedded := false, tag := "", pkgPath := "", byteOffset := 8 } : Field), ({ name := "Epoch", type := 3, offset := 2, embedded := false, tag := "", pkgPath := "", byteOffset := 16 } : Field), ({ name := "Last", type := 4, offset := 3, embedded := false, tag := "", pkgPath := "", byteOffset := 24 } : Field)])[0]? with | some fd => (do pure (fd.offset, (← sizeOf fd.type) != 0)) | none => pure (0, false) : Sem (Nat × Bool)) w = .ok (0, true) w := fun w => by kernel_rfl
theorem fo_31_1 : ∀ w, Sem.run PP (do match (#[({ name := "Kind", type := 3, offset := 0, embedded := false, tag := "", pkgPath := "", byteOffset := 0 } : Field), ({ name := "Owner", type := 3, offset := 1, embedded := false, tag := "", pkgPath := "", byteOffset := 8 } : Field), ({ name := "Epoch", type := 3, offset := 2, embedded := false, tag := "", pkgPath := "", byteOffset := 16 } : Field), ({ name := "Last", type := 4, offset := 3, embedded := false, tag := "", pkgPath := "", byteOffset := 24 } : Field)])[1]? with | some fd => (do pure (fd.offset, (← sizeOf fd.type) != 0)) | none => pure (0, false) : Sem (Nat × Bool)) w = .ok (1, true) w := fun w => by kernel_rfl
theorem fo_31_2 : ∀ w, Sem.run PP (do match (#[({ name := "Kind", type := 3, offset := 0, embedded := false, tag := "", pkgPath := "", byteOffset := 0 } : Field), ({ name := "Owner", type := 3, offset := 1, embedded := false, tag := "", pkgPath := "", byteOffset := 8 } : Field), ({ name := "Epoch", type := 3, offset := 2, embedded := false, tag := "", pkgPath := "", byteOffset := 16 } : Field), ({ name := "Last", type := 4, offset := 3, embedded := false, tag := "", pkgPath := "", byteOffset := 24 } : Field)])[2]? with | some fd => (do pure (fd.offset, (← sizeOf fd.type) != 0)) | none => pure (0, false) : Sem (Nat × Bool)) w = .ok (2, true) w := fun w => by kernel_rfl
theorem fo_31_3 : ∀ w, Sem.run PP (do match (#[({ name := "Kind", type := 3, offset := 0, embedded := false, tag := "", pkgPath := "", byteOffset := 0 } : Field), ({ name := "Owner", type := 3, offset := 1, embedded := false, tag := "", pkgPath := "", byteOffset := 8 } : Field), ({ name := "Epoch", type := 3, offset := 2, embedded := false, tag := "", pkgPath := "", byteOffset := 16 } : Field), ({ name := "Last", type := 4, offset := 3, embedded := false, tag := "", pkgPath := "", byteOffset := 24 } : Field)])[3]? with | some fd => (do pure (fd.offset, (← sizeOf fd.type) != 0)) | none => pure (0, false) : Sem (Nat × Bool)) w = .ok (3, true) w := fun w => by kernel_rfl
theorem fo_57_0 : ∀ w, Sem.run PP (do match (#[({ name := "state", type := 21, offset := 0, embedded := false, tag := "", pkgPath := "internal/sync", byteOffset := 0 } : Field), ({ name := "sema", type := 55, offset := 1, embedded := false, tag := "", pkgPath := "internal/sync", byteOffset := 4 } : Field)])[0]? with | some fd => (do pure (fd.offset, (← sizeOf fd.type) != 0)) | none => pure (0, false) : Sem (Nat × Bool)) w = .ok (0, true) w := fun w => by kernel_rfl
theorem fo_59_1 : ∀ w, Sem.run PP (do match (#[({ name := "_", type := 54, offset := 0, embedded := false, tag := "", pkgPath := "sync", byteOffset := 0 } : Field), ({ name := "mu", type := 57, offset := 0, embedded := false, tag := "", pkgPath := "sync", byteOffset := 0 } : Field)])[1]? with | some fd => (do pure (fd.offset, (← sizeOf fd.type) != 0)) | none => pure (0, false) : Sem (Nat × Bool)) w = .ok (0, true) w := fun w => by kernel_rfl
theorem fo_62_0 : ∀ w, Sem.run PP (do match (#[({ name := "set", type := 60, offset := 0, embedded := false, tag := "", pkgPath := "spate/epoch", byteOffset := 0 } : Field), ({ name := "inner", type := 3, offset := 1, embedded := false, tag := "", pkgPath := "spate/epoch", byteOffset := 8 } : Field)])[0]? with | some fd => (do pure (fd.offset, (← sizeOf fd.type) != 0)) | none => pure (0, false) : Sem (Nat × Bool)) w = .ok (0, true) w := fun w => by kernel_rfl
theorem fo_62_1 : ∀ w, Sem.run PP (do match (#[({ name := "set", type := 60, offset := 0, embedded := false, tag := "", pkgPath := "spate/epoch", byteOffset := 0 } : Field), ({ name := "inner", type := 3, offset := 1, embedded := false, tag := "", pkgPath := "spate/epoch", byteOffset := 8 } : Field)])[1]? with | some fd => (do pure (fd.offset, (← sizeOf fd.type) != 0)) | none => pure (0, false) : Sem (Nat × Bool)) w = .ok (1, true) w := fun w => by kernel_rfl
theorem fo_65_0 : ∀ w, Sem.run PP (do match (#[({ name := "Mutex", type := 59, offset := 0, embedded := true, tag := "", pkgPath := "", byteOffset := 0 } : Field), ({ name := "pins", type := 3, offset := 2, embedded := false, tag := "", pkgPath := "spate/epoch", byteOffset := 8 } : Field), ({ name := "now", type := 3, offset := 3, embedded := false, tag := "", pkgPath := "spate/epoch", byteOffset := 16 } : Field), ({ name := "owners", type := 63, offset := 4, embedded := false, tag := "", pkgPath := "spate/epoch", byteOffset := 24 } : Field), ({ name := "dying", type := 28, offset := 134, embedded := false, tag := "", pkgPath := "spate/epoch", byteOffset := 1064 } : Field), ({ name := "sweeping", type := 4, offset := 135, embedded := false, tag := "", pkgPath := "spate/epoch", byteOffset := 1072 } : Field)])[0]? with | some fd => (do pure (fd.offset, (← sizeOf fd.type) != 0)) | none => pure (0, false) : Sem (Nat × Bool)) w = .ok (0, true) w := fun w => by kernel_rfl
theorem fo_65_1 : ∀ w, Sem.run PP (do match (#[({ name := "Mutex", type := 59, offset := 0, embedded := true, tag := "", pkgPath := "", byteOffset := 0 } : Field), ({ name := "pins", type := 3, offset := 2, embedded := false, tag := "", pkgPath := "spate/epoch", byteOffset := 8 } : Field), ({ name := "now", type := 3, offset := 3, embedded := false, tag := "", pkgPath := "spate/epoch", byteOffset := 16 } : Field), ({ name := "owners", type := 63, offset := 4, embedded := false, tag := "", pkgPath := "spate/epoch", byteOffset := 24 } : Field), ({ name := "dying", type := 28, offset := 134, embedded := false, tag := "", pkgPath := "spate/epoch", byteOffset := 1064 } : Field), ({ name := "sweeping", type := 4, offset := 135, embedded := false, tag := "", pkgPath := "spate/epoch", byteOffset := 1072 } : Field)])[1]? with | some fd => (do pure (fd.offset, (← sizeOf fd.type) != 0)) | none => pure (0, false) : Sem (Nat × Bool)) w = .ok (2, true) w := fun w => by kernel_rfl
theorem fo_65_2 : ∀ w, Sem.run PP (do match (#[({ name := "Mutex", type := 59, offset := 0, embedded := true, tag := "", pkgPath := "", byteOffset := 0 } : Field), ({ name := "pins", type := 3, offset := 2, embedded := false, tag := "", pkgPath := "spate/epoch", byteOffset := 8 } : Field), ({ name := "now", type := 3, offset := 3, embedded := false, tag := "", pkgPath := "spate/epoch", byteOffset := 16 } : Field), ({ name := "owners", type := 63, offset := 4, embedded := false, tag := "", pkgPath := "spate/epoch", byteOffset := 24 } : Field), ({ name := "dying", type := 28, offset := 134, embedded := false, tag := "", pkgPath := "spate/epoch", byteOffset := 1064 } : Field), ({ name := "sweeping", type := 4, offset := 135, embedded := false, tag := "", pkgPath := "spate/epoch", byteOffset := 1072 } : Field)])[2]? with | some fd => (do pure (fd.offset, (← sizeOf fd.type) != 0)) | none => pure (0, false) : Sem (Nat × Bool)) w = .ok (3, true) w := fun w => by kernel_rfl
theorem fo_65_3 : ∀ w, Sem.run PP (do match (#[({ name := "Mutex", type := 59, offset := 0, embedded := true, tag := "", pkgPath := "", byteOffset := 0 } : Field), ({ name := "pins", type := 3, offset := 2, embedded := false, tag := "", pkgPath := "spate/epoch", byteOffset := 8 } : Field), ({ name := "now", type := 3, offset := 3, embedded := false, tag := "", pkgPath := "spate/epoch", byteOffset := 16 } : Field), ({ name := "owners", type := 63, offset := 4, embedded := false, tag := "", pkgPath := "spate/epoch", byteOffset := 24 } : Field), ({ name := "dying", type := 28, offset := 134, embedded := false, tag := "", pkgPath := "spate/epoch", byteOffset := 1064 } : Field), ({ name := "sweeping", type := 4, offset := 135, embedded := false, tag := "", pkgPath := "spate/epoch", byteOffset := 1072 } : Field)])[3]? with | some fd => (do pure (fd.offset, (← sizeOf fd.type) != 0)) | none => pure (0, false) : Sem (Nat × Bool)) w = .ok (4, true) w := fun w => by kernel_rfl
theorem fo_65_4 : ∀ w, Sem.run PP (do match (#[({ name := "Mutex", type := 59, offset := 0, embedded := true, tag := "", pkgPath := "", byteOffset := 0 } : Field), ({ name := "pins", type := 3, offset := 2, embedded := false, tag := "", pkgPath := "spate/epoch", byteOffset := 8 } : Field), ({ name := "now", type := 3, offset := 3, embedded := false, tag := "", pkgPath := "spate/epoch", byteOffset := 16 } : Field), ({ name := "owners", type := 63, offset := 4, embedded := false, tag := "", pkgPath := "spate/epoch", byteOffset := 24 } : Field), ({ name := "dying", type := 28, offset := 134, embedded := false, tag := "", pkgPath := "spate/epoch", byteOffset := 1064 } : Field), ({ name := "sweeping", type := 4, offset := 135, embedded := false, tag := "", pkgPath := "spate/epoch", byteOffset := 1072 } : Field)])[4]? with | some fd => (do pure (fd.offset, (← sizeOf fd.type) != 0)) | none => pure (0, false) : Sem (Nat × Bool)) w = .ok (134, true) w := fun w => by kernel_rfl
theorem fo_65_5 : ∀ w, Sem.run PP (do match (#[({ name := "Mutex", type := 59, offset := 0, embedded := true, tag := "", pkgPath := "", byteOffset := 0 } : Field), ({ name := "pins", type := 3, offset := 2, embedded := false, tag := "", pkgPath := "spate/epoch", byteOffset := 8 } : Field), ({ name := "now", type := 3, offset := 3, embedded := false, tag := "", pkgPath := "spate/epoch", byteOffset := 16 } : Field), ({ name := "owners", type := 63, offset := 4, embedded := false, tag := "", pkgPath := "spate/epoch", byteOffset := 24 } : Field), ({ name := "dying", type := 28, offset := 134, embedded := false, tag := "", pkgPath := "spate/epoch", byteOffset := 1064 } : Field), ({ name := "sweeping", type := 4, offset := 135, embedded := false, tag := "", pkgPath := "spate/epoch", byteOffset := 1072 } : Field)])[5]? with | some fd => (do pure (fd.offset, (← sizeOf fd.type) != 0)) | none => pure (0, false) : Sem (Nat × Bool)) w = .ok (135, true) w := fun w => by kernel_rfl
theorem mt_map_int_int : PP.underlying 28 = some (.map 3 3) := Try.underlying28
theorem el_Slint : El PP 29 3 1 8 (.int .i64 0) := ⟨Try.underlying29, ⟨Try.t3, by kernel_rfl, by kernel_rfl, by kernel_rfl, by kernel_rfl⟩, by kernel_rfl, by omega, by omega⟩
theorem mt_map_int_map_int_bool : PP.underlying 38 = some (.map 3 39) := Try.underlying38
theorem mt_map_int_bool : PP.underlying 39 = some (.map 3 4) := Try.underlying39
theorem mt_map_int_struct : PP.underlying 60 = some (.map 3 53) := Try.underlying60
theorem ut_Slspatelaw9_Step : PP.underlying 23 = some (.slice 31) := Try.underlying23
theorem ut_Slint : PP.underlying 29 = some (.slice 3) := Try.underlying29
theorem ut_spatelaw9_Step : PP.underlying 31 = some (.struct #[({ name := "Kind", type := 3, offset := 0, embedded := false, tag := "", pkgPath := "", byteOffset := 0 } : Field), ({ name := "Owner", type := 3, offset := 1, embedded := false, tag := "", pkgPath := "", byteOffset := 8 } : Field), ({ name := "Epoch", type := 3, offset := 2, embedded := false, tag := "", pkgPath := "", byteOffset := 16 } : Field), ({ name := "Last", type := 4, offset := 3, embedded := false, tag := "", pkgPath := "", byteOffset := 24 } : Field)]) := Try.underlying31
abbrev tn_int : TypeId := 3
abbrev tn_Slspatelaw9_Step : TypeId := 23
abbrev tn_map_int_int : TypeId := 28
abbrev tn_Slint : TypeId := 29
abbrev tn_spatelaw9_Step : TypeId := 31
abbrev tn_map_int_map_int_bool : TypeId := 38
abbrev tn_map_int_bool : TypeId := 39
abbrev tn_struct : TypeId := 53
abbrev tn_map_int_struct : TypeId := 60
abbrev tn_epoch_owner : TypeId := 62
abbrev tn_epoch_Book : TypeId := 65
abbrev no_spatelaw9_EpochNames : FuncId := 3
theorem no_spatelaw9_EpochNames_call : ∀ (args : Array Value) (w : World), (callFunc 3 args).run PP w = .ok (.enter 3 args) w := Try.call3
abbrev no_spatelaw9_EpochLives : FuncId := 4
theorem no_spatelaw9_EpochLives_call : ∀ (args : Array Value) (w : World), (callFunc 4 args).run PP w = .ok (.enter 4 args) w := Try.call4
abbrev no_spatelaw9_EpochSets : FuncId := 5
theorem no_spatelaw9_EpochSets_call : ∀ (args : Array Value) (w : World), (callFunc 5 args).run PP w = .ok (.enter 5 args) w := Try.call5
abbrev no_spatelaw9_EpochOwners : FuncId := 6
theorem no_spatelaw9_EpochOwners_call : ∀ (args : Array Value) (w : World), (callFunc 6 args).run PP w = .ok (.enter 6 args) w := Try.call6
abbrev no_spatelaw9_EpochOwn : FuncId := 7
theorem no_spatelaw9_EpochOwn_call : ∀ (args : Array Value) (w : World), (callFunc 7 args).run PP w = .ok (.enter 7 args) w := Try.call7
abbrev no_spatelaw9_EpochTwins : FuncId := 8
theorem no_spatelaw9_EpochTwins_call : ∀ (args : Array Value) (w : World), (callFunc 8 args).run PP w = .ok (.enter 8 args) w := Try.call8
abbrev no_spatelaw9_known : FuncId := 9
theorem no_spatelaw9_known_call : ∀ (args : Array Value) (w : World), (callFunc 9 args).run PP w = .ok (.enter 9 args) w := Try.call9
abbrev no_epoch_New : FuncId := 10
theorem no_epoch_New_call : ∀ (args : Array Value) (w : World), (callFunc 10 args).run PP w = .ok (.enter 10 args) w := Try.call10
abbrev no_epoch_Book_Held : FuncId := 11
theorem no_epoch_Book_Held_call : ∀ (args : Array Value) (w : World), (callFunc 11 args).run PP w = .ok (.enter 11 args) w := Try.call11
abbrev no_epoch_Book_Dying : FuncId := 12
theorem no_epoch_Book_Dying_call : ∀ (args : Array Value) (w : World), (callFunc 12 args).run PP w = .ok (.enter 12 args) w := Try.call12
abbrev no_spatelaw9_do : FuncId := 13
theorem no_spatelaw9_do_call : ∀ (args : Array Value) (w : World), (callFunc 13 args).run PP w = .ok (.enter 13 args) w := Try.call13
abbrev no_spatelaw9_ints : FuncId := 14
theorem no_spatelaw9_ints_call : ∀ (args : Array Value) (w : World), (callFunc 14 args).run PP w = .ok (.enter 14 args) w := Try.call14
abbrev no_epoch_Book_Now : FuncId := 15
theorem no_epoch_Book_Now_call : ∀ (args : Array Value) (w : World), (callFunc 15 args).run PP w = .ok (.enter 15 args) w := Try.call15
abbrev no_epoch_Book_Live : FuncId := 16
theorem no_epoch_Book_Live_call : ∀ (args : Array Value) (w : World), (callFunc 16 args).run PP w = .ok (.enter 16 args) w := Try.call16
abbrev no_spatelaw9_moved : FuncId := 17
theorem no_spatelaw9_moved_call : ∀ (args : Array Value) (w : World), (callFunc 17 args).run PP w = .ok (.enter 17 args) w := Try.call17
abbrev no_spatelaw9_of : FuncId := 18
theorem no_spatelaw9_of_call : ∀ (args : Array Value) (w : World), (callFunc 18 args).run PP w = .ok (.enter 18 args) w := Try.call18
abbrev no_spatelaw9_held : FuncId := 19
theorem no_spatelaw9_held_call : ∀ (args : Array Value) (w : World), (callFunc 19 args).run PP w = .ok (.enter 19 args) w := Try.call19
abbrev no_spatelaw9_alike : FuncId := 20
theorem no_spatelaw9_alike_call : ∀ (args : Array Value) (w : World), (callFunc 20 args).run PP w = .ok (.enter 20 args) w := Try.call20
abbrev no_epoch_Book_Twin : FuncId := 21
theorem no_epoch_Book_Twin_call : ∀ (args : Array Value) (w : World), (callFunc 21 args).run PP w = .ok (.enter 21 args) w := Try.call21
abbrev no_epoch_Book_Seal : FuncId := 22
theorem no_epoch_Book_Seal_call : ∀ (args : Array Value) (w : World), (callFunc 22 args).run PP w = .ok (.enter 22 args) w := Try.call22
abbrev no_epoch_Book_Join : FuncId := 23
theorem no_epoch_Book_Join_call : ∀ (args : Array Value) (w : World), (callFunc 23 args).run PP w = .ok (.enter 23 args) w := Try.call23
abbrev no_epoch_Book_Release : FuncId := 24
theorem no_epoch_Book_Release_call : ∀ (args : Array Value) (w : World), (callFunc 24 args).run PP w = .ok (.enter 24 args) w := Try.call24
abbrev no_epoch_Book_Holds : FuncId := 25
theorem no_epoch_Book_Holds_call : ∀ (args : Array Value) (w : World), (callFunc 25 args).run PP w = .ok (.enter 25 args) w := Try.call25
abbrev no_epoch_Book_Begin : FuncId := 26
theorem no_epoch_Book_Begin_call : ∀ (args : Array Value) (w : World), (callFunc 26 args).run PP w = .ok (.enter 26 args) w := Try.call26
abbrev no_epoch_Book_End : FuncId := 27
theorem no_epoch_Book_End_call : ∀ (args : Array Value) (w : World), (callFunc 27 args).run PP w = .ok (.enter 27 args) w := Try.call27
abbrev no_epoch_Book_guard : FuncId := 28
theorem no_epoch_Book_guard_call : ∀ (args : Array Value) (w : World), (callFunc 28 args).run PP w = .ok (.enter 28 args) w := Try.call28
abbrev no_epoch_Book_all : FuncId := 29
theorem no_epoch_Book_all_call : ∀ (args : Array Value) (w : World), (callFunc 29 args).run PP w = .ok (.enter 29 args) w := Try.call29
abbrev no_slices_Sorted_int : FuncId := 30
theorem no_slices_Sorted_int_call : ∀ (args : Array Value) (w : World), (callFunc 30 args).run PP w = .ok (.enter 30 args) w := Try.call30
abbrev no_maps_Keys_map_int_int_int_int : FuncId := 31
theorem no_maps_Keys_map_int_int_int_int_call : ∀ (args : Array Value) (w : World), (callFunc 31 args).run PP w = .ok (.enter 31 args) w := Try.call31
abbrev no_epoch_Book_Inner : FuncId := 32
theorem no_epoch_Book_Inner_call : ∀ (args : Array Value) (w : World), (callFunc 32 args).run PP w = .ok (.enter 32 args) w := Try.call32
abbrev no_epoch_Book_Done : FuncId := 33
theorem no_epoch_Book_Done_call : ∀ (args : Array Value) (w : World), (callFunc 33 args).run PP w = .ok (.enter 33 args) w := Try.call33
abbrev no_epoch_Book_Drop : FuncId := 34
theorem no_epoch_Book_Drop_call : ∀ (args : Array Value) (w : World), (callFunc 34 args).run PP w = .ok (.enter 34 args) w := Try.call34
abbrev no_maps_Clone_map_int_int_int_int : FuncId := 35
theorem no_maps_Clone_map_int_int_int_int_call : ∀ (args : Array Value) (w : World), (callFunc 35 args).run PP w = .ok (.enter 35 args) w := Try.call35
abbrev no_maps_Clone_map_int_struct_int_struct : FuncId := 36
theorem no_maps_Clone_map_int_struct_int_struct_call : ∀ (args : Array Value) (w : World), (callFunc 36 args).run PP w = .ok (.enter 36 args) w := Try.call36
abbrev no_epoch_is : FuncId := 37
theorem no_epoch_is_call : ∀ (args : Array Value) (w : World), (callFunc 37 args).run PP w = .ok (.enter 37 args) w := Try.call37
abbrev no_epoch_Book_pinned : FuncId := 38
theorem no_epoch_Book_pinned_call : ∀ (args : Array Value) (w : World), (callFunc 38 args).run PP w = .ok (.enter 38 args) w := Try.call38
abbrev no_epoch_Book_has : FuncId := 39
theorem no_epoch_Book_has_call : ∀ (args : Array Value) (w : World), (callFunc 39 args).run PP w = .ok (.enter 39 args) w := Try.call39
abbrev no_epoch_Book_let : FuncId := 40
theorem no_epoch_Book_let_call : ∀ (args : Array Value) (w : World), (callFunc 40 args).run PP w = .ok (.enter 40 args) w := Try.call40
abbrev no_maps_DeleteFunc_map_int_int_int_int : FuncId := 41
theorem no_maps_DeleteFunc_map_int_int_int_int_call : ∀ (args : Array Value) (w : World), (callFunc 41 args).run PP w = .ok (.enter 41 args) w := Try.call41
abbrev no_epoch_Book_End_1 : FuncId := 42
theorem no_epoch_Book_End_1_call : ∀ (args : Array Value) (w : World), (callFunc 42 args).run PP w = .ok (.enter 42 args) w := Try.call42
abbrev no_sync_Mutex_Lock : FuncId := 43
theorem no_sync_Mutex_Lock_call : ∀ (args : Array Value) (w : World), (callFunc 43 args).run PP w = .ok (.enter 43 args) w := Try.call43
abbrev no_sync_Mutex_Unlock : FuncId := 44
theorem no_sync_Mutex_Unlock_call : ∀ (args : Array Value) (w : World), (callFunc 44 args).run PP w = .ok (.enter 44 args) w := Try.call44
abbrev no_maps_Copy_map_int_struct_map_int_struct_int_struct : FuncId := 45
theorem no_maps_Copy_map_int_struct_map_int_struct_int_struct_call : ∀ (args : Array Value) (w : World), (callFunc 45 args).run PP w = .ok (.enter 45 args) w := Try.call45
abbrev no_maps_Keys_map_int_struct_int_struct : FuncId := 46
theorem no_maps_Keys_map_int_struct_int_struct_call : ∀ (args : Array Value) (w : World), (callFunc 46 args).run PP w = .ok (.enter 46 args) w := Try.call46
abbrev no_slices_Collect_int : FuncId := 47
theorem no_slices_Collect_int_call : ∀ (args : Array Value) (w : World), (callFunc 47 args).run PP w = .ok (.enter 47 args) w := Try.call47
abbrev no_slices_Sort_Slint_int : FuncId := 48
theorem no_slices_Sort_Slint_int_call : ∀ (args : Array Value) (w : World), (callFunc 48 args).run PP w = .ok (.enter 48 args) w := Try.call48
abbrev no_maps_Keys_map_int_int_int_int_1 : FuncId := 49
theorem no_maps_Keys_map_int_int_int_int_1_call : ∀ (args : Array Value) (w : World), (callFunc 49 args).run PP w = .ok (.enter 49 args) w := Try.call49
abbrev no_slices_ContainsFunc_Slepoch_owner_epoch_owner : FuncId := 51
theorem no_slices_ContainsFunc_Slepoch_owner_epoch_owner_call : ∀ (args : Array Value) (w : World), (callFunc 51 args).run PP w = .ok (.enter 51 args) w := Try.call51
abbrev no_epoch_Book_pinned_1 : FuncId := 52
theorem no_epoch_Book_pinned_1_call : ∀ (args : Array Value) (w : World), (callFunc 52 args).run PP w = .ok (.enter 52 args) w := Try.call52
abbrev no_epoch_Book_held : FuncId := 53
theorem no_epoch_Book_held_call : ∀ (args : Array Value) (w : World), (callFunc 53 args).run PP w = .ok (.enter 53 args) w := Try.call53
abbrev no_internal_sync_Mutex_Lock : FuncId := 54
theorem no_internal_sync_Mutex_Lock_call : ∀ (args : Array Value) (w : World), (callFunc 54 args).run PP w = .ok (.enter 54 args) w := Try.call54
abbrev no_internal_sync_Mutex_Unlock : FuncId := 55
theorem no_internal_sync_Mutex_Unlock_call : ∀ (args : Array Value) (w : World), (callFunc 55 args).run PP w = .ok (.enter 55 args) w := Try.call55
abbrev no_maps_Keys_map_int_struct_int_struct_1 : FuncId := 56
theorem no_maps_Keys_map_int_struct_int_struct_1_call : ∀ (args : Array Value) (w : World), (callFunc 56 args).run PP w = .ok (.enter 56 args) w := Try.call56
abbrev no_slices_AppendSeq_Slint_int : FuncId := 57
theorem no_slices_AppendSeq_Slint_int_call : ∀ (args : Array Value) (w : World), (callFunc 57 args).run PP w = .ok (.enter 57 args) w := Try.call57
abbrev no_slices_IndexFunc_Slepoch_owner_epoch_owner : FuncId := 60
theorem no_slices_IndexFunc_Slepoch_owner_epoch_owner_call : ∀ (args : Array Value) (w : World), (callFunc 60 args).run PP w = .ok (.enter 60 args) w := Try.call60
abbrev no_epoch_Book_held_1 : FuncId := 61
theorem no_epoch_Book_held_1_call : ∀ (args : Array Value) (w : World), (callFunc 61 args).run PP w = .ok (.enter 61 args) w := Try.call61
theorem bd_65_1_2_4 (y1 : Int) (y2 : Int) (y4 : Option Nat) : ∀ w, (Instr.build 65 ([(1, (.int .i64 y1)), (2, (.int .i64 y2)), (4, (.map y4))] : List (Nat × Value)).toArray).run PP w = .ok (.agg (⟨(⟨(⟨⟩ : S_sync_noCopy), (⟨0, 0⟩ : S_sync_Mutex)⟩ : S_sync_Mutex_58), y1, y2, (List.replicate 65 (⟨none, 0⟩ : S_epoch_owner)), y4, false⟩ : S_epoch_Book).cells.toArray) w := fun w => by kernel_rfl
theorem still_62 : Still PP 62 [] := fun w => run_call_mark0 Try.func62 (by kernel_rfl) (by kernel_rfl) (by kernel_rfl) .disable (by kernel_rfl) w
theorem cas_63 : CasF PP 63 .i32 := casF_of Try.func63 (by kernel_rfl) (by kernel_rfl) (by kernel_rfl) (by kernel_rfl)
theorem still_64 : Still PP 64 [] := fun w => run_call_mark0 Try.func64 (by kernel_rfl) (by kernel_rfl) (by kernel_rfl) .enable (by kernel_rfl) w
theorem still_65 (a : Addr) : Still PP 65 [.pointer (some a)] := fun w => run_call_marked Try.func65 (by kernel_rfl) (by kernel_rfl) (by kernel_rfl) .acquire (by kernel_rfl) a w
theorem add_68 : AddF PP 68 .i32 := addF_of Try.func68 (by kernel_rfl) (by kernel_rfl) (by kernel_rfl) (by kernel_rfl)
theorem still_67 (a : Addr) : Still PP 67 [.pointer (some a)] := fun w => run_call_marked Try.func67 (by kernel_rfl) (by kernel_rfl) (by kernel_rfl) .releaseMerge (by kernel_rfl) a w
theorem bd_53_  : ∀ w, (Instr.build 53 ([] : List (Nat × Value)).toArray).run PP w = .ok (.agg (⟨⟩ : S_sync_noCopy).cells.toArray) w := fun w => by kernel_rfl
theorem bl_29_1_0 (y0 : Int) : ∀ w, (Instr.buildSlice 29 1 ([(0, (.int .i64 y0))] : List (Nat × Value)).toArray).run PP w = .ok (.slice (some ⟨w.heap.size, 0, none⟩) 1 1) { w with heap := w.heap.push (.cells #[(.int .i64 y0)] ty_3) } := fun w => by kernel_rfl
theorem bd_62_0 (y0 : Option Nat) : ∀ w, (Instr.build 62 ([(0, (.map y0))] : List (Nat × Value)).toArray).run PP w = .ok (.agg (⟨y0, 0⟩ : S_epoch_owner).cells.toArray) w := fun w => by kernel_rfl
theorem bl_43_4_0_1_2_3 (y0 : Sl) (y1 : Sl) (y2 : Sl) (y3 : Sl) : ∀ w, (Instr.buildSlice 43 4 ([(0, y0.enc), (1, y1.enc), (2, y2.enc), (3, y3.enc)] : List (Nat × Value)).toArray).run PP w = .ok (.slice (some ⟨w.heap.size, 0, none⟩) 4 4) { w with heap := w.heap.push (.cells #[y0.enc, y1.enc, y2.enc, y3.enc] ty_29) } := fun w => by kernel_rfl
theorem clone_50 : CloneF PP 50 := cloneF_of Try.func50 (by kernel_rfl) (by kernel_rfl) (by kernel_rfl) (by kernel_rfl)
theorem bd_65_1_2_4_5 (y1 : Int) (y2 : Int) (y4 : Option Nat) (y5 : Bool) : ∀ w, (Instr.build 65 ([(1, (.int .i64 y1)), (2, (.int .i64 y2)), (4, (.map y4)), (5, (.bool y5))] : List (Nat × Value)).toArray).run PP w = .ok (.agg (⟨(⟨(⟨⟩ : S_sync_noCopy), (⟨0, 0⟩ : S_sync_Mutex)⟩ : S_sync_Mutex_58), y1, y2, (List.replicate 65 (⟨none, 0⟩ : S_epoch_owner)), y4, y5⟩ : S_epoch_Book).cells.toArray) w := fun w => by kernel_rfl
theorem bd_62_0_1 (y0 : Option Nat) (y1 : Int) : ∀ w, (Instr.build 62 ([(0, (.map y0)), (1, (.int .i64 y1))] : List (Nat × Value)).toArray).run PP w = .ok (.agg (⟨y0, y1⟩ : S_epoch_owner).cells.toArray) w := fun w => by kernel_rfl

end Go.Proofs.Ytgcmojbajjajgaa.V
