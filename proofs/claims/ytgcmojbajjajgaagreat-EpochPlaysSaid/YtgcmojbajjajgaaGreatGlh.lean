/- Printed by a program of this session (gen.py): for each Go function a Lean function over the heap, and that the Go code does what it says; no condition. -/
import Derived.Test.YtgcmojbajjajgaaGreatVn
import Derived.Test.YtgcmojbajjajgaaGreatVr
import Derived.Test.YtgcmojbajjajgaaGreatVv
import Derived.Test.YtgcmojbajjajgaaGreatProg
namespace Go.Proofs.YtgcmojbajjajgaaGreat.V
open Go
set_option linter.unusedVariables false
set_option maxRecDepth 100000
noncomputable abbrev PP : Program := Tryz.prog
theorem mixed : PP.follows .mixedOrders = true := by kernel_rfl
theorem one1 {u : Value} (h : u.oneCell' = true) : ∀ v ∈ [u], v.oneCell' = true := by intro v hv; simp at hv; subst hv; exact h
theorem ones_app {a b : List Value} (ha : ∀ v ∈ a, v.oneCell' = true) (hb : ∀ v ∈ b, v.oneCell' = true) : ∀ v ∈ a ++ b, v.oneCell' = true := fun v hv => (List.mem_append.1 hv).elim (ha v) (hb v)
structure S_sync_noCopy where

def S_sync_noCopy.cells (x : S_sync_noCopy) : List Value := []
def ld_S_sync_noCopy (h : H) (a : Addr) (K : S_sync_noCopy → Prop) : Prop := ∃ x : S_sync_noCopy, Cells h a x.cells ∧ K x
theorem ones_S_sync_noCopy (x : S_sync_noCopy) : ∀ v ∈ x.cells, v.oneCell' = true := fun v hv => by cases hv
structure S_sync_Mutex where
  state : Int
  sema : Int
def S_sync_Mutex.cells (x : S_sync_Mutex) : List Value := [(.int .i32 x.state)] ++ [(.int .u32 x.sema)]
def ld_S_sync_Mutex (h : H) (a : Addr) (K : S_sync_Mutex → Prop) : Prop := ∃ x : S_sync_Mutex, Cells h a x.cells ∧ K x
theorem ones_S_sync_Mutex (x : S_sync_Mutex) : ∀ v ∈ x.cells, v.oneCell' = true := ones_app (one1 rfl) (one1 rfl)
structure S_sync_Mutex_55 where
  f0 : S_sync_noCopy
  mu : S_sync_Mutex
def S_sync_Mutex_55.cells (x : S_sync_Mutex_55) : List Value := x.f0.cells ++ x.mu.cells
def ld_S_sync_Mutex_55 (h : H) (a : Addr) (K : S_sync_Mutex_55 → Prop) : Prop := ∃ x : S_sync_Mutex_55, Cells h a x.cells ∧ K x
theorem ones_S_sync_Mutex_55 (x : S_sync_Mutex_55) : ∀ v ∈ x.cells, v.oneCell' = true := ones_app (ones_S_sync_noCopy _) (ones_S_sync_Mutex _)
structure S_epoch_owner where
  set_ : Option Nat
  inner : Int
def S_epoch_owner.cells (x : S_epoch_owner) : List Value := [(.map x.set_)] ++ [(.int .i64 x.inner)]
def ld_S_epoch_owner (h : H) (a : Addr) (K : S_epoch_owner → Prop) : Prop := ∃ x : S_epoch_owner, Cells h a x.cells ∧ K x
theorem ones_S_epoch_owner (x : S_epoch_owner) : ∀ v ∈ x.cells, v.oneCell' = true := ones_app (one1 rfl) (one1 rfl)
structure S_epoch_Book where
  Mutex : S_sync_Mutex_55
  pins : Int
  now : Int
  owners : List S_epoch_owner
  dying : Option Nat
  sweeping : Bool
def S_epoch_Book.cells (x : S_epoch_Book) : List Value := x.Mutex.cells ++ [(.int .i64 x.pins)] ++ [(.int .i64 x.now)] ++ x.owners.flatMap S_epoch_owner.cells ++ [(.map x.dying)] ++ [(.bool x.sweeping)]
def ld_S_epoch_Book (h : H) (a : Addr) (K : S_epoch_Book → Prop) : Prop := ∃ x : S_epoch_Book, Cells h a x.cells ∧ K x
theorem ones_S_epoch_Book (x : S_epoch_Book) : ∀ v ∈ x.cells, v.oneCell' = true := ones_app (ones_app (ones_app (ones_app (ones_app (ones_S_sync_Mutex_55 _) (one1 rfl)) (one1 rfl)) (ones_flat ones_S_epoch_owner _)) (one1 rfl)) (one1 rfl)
structure S_spateref9_Book where
  Pins : Int
  Epoch : Int
  Sets : Sl
  In : Sl
  Die : Sl
  Sweep : Sl
  On : Bool
def S_spateref9_Book.cells (x : S_spateref9_Book) : List Value := [(.int .i64 x.Pins)] ++ [(.int .i64 x.Epoch)] ++ [x.Sets.enc] ++ [x.In.enc] ++ [x.Die.enc] ++ [x.Sweep.enc] ++ [(.bool x.On)]
def ld_S_spateref9_Book (h : H) (a : Addr) (K : S_spateref9_Book → Prop) : Prop := ∃ x : S_spateref9_Book, Cells h a x.cells ∧ K x
theorem ones_S_spateref9_Book (x : S_spateref9_Book) : ∀ v ∈ x.cells, v.oneCell' = true := ones_app (ones_app (ones_app (ones_app (ones_app (ones_app (one1 rfl) (one1 rfl)) (one1 rfl)) (one1 rfl)) (one1 rfl)) (one1 rfl)) (one1 rfl)
structure S_spatelaw9_Step where
  Kind : Int
  Owner : Int
  Epoch : Int
  Last : Bool
def S_spatelaw9_Step.cells (x : S_spatelaw9_Step) : List Value := [(.int .i64 x.Kind)] ++ [(.int .i64 x.Owner)] ++ [(.int .i64 x.Epoch)] ++ [(.bool x.Last)]
def ld_S_spatelaw9_Step (h : H) (a : Addr) (K : S_spatelaw9_Step → Prop) : Prop := ∃ x : S_spatelaw9_Step, Cells h a x.cells ∧ K x
theorem ones_S_spatelaw9_Step (x : S_spatelaw9_Step) : ∀ v ∈ x.cells, v.oneCell' = true := ones_app (ones_app (ones_app (one1 rfl) (one1 rfl)) (one1 rfl)) (one1 rfl)
abbrev ty_3 : TypeId := 3
abbrev ty_32 : TypeId := 32
abbrev ty_38 : TypeId := 38
abbrev ty_40 : TypeId := 40
abbrev ty_49 : TypeId := 49
abbrev ty_50 : TypeId := 50
abbrev ty_57 : TypeId := 57
abbrev ty_59 : TypeId := 59
abbrev ty_62 : TypeId := 62
theorem fo_32_0 : ∀ w, Sem.run PP (do match (#[({ name := "Kind", type := 3, offset := 0, embedded := false, tag := "", pkgPath := "", byteOffset := 0 } : Field), ({ name := "Owner", type := 3, offset := 1, embedded := false, tag := "", pkgPath := "", byteOffset := 8 } : Field), ({ name := "Epoch", type := 3, offset := 2, embedded := false, tag := "", pkgPath := "", byteOffset := 16 } : Field), ({ name := "Last", type := 4, offset := 3, embedded := false, tag := "", pkgPath := "", byteOffset := 24 } : Field)])[0]? with | some fd => (do pure (fd.offset, (← sizeOf fd.type) != 0)) | none => pure (0, false) : Sem (Nat × Bool)) w = .ok (0, true) w := fun w => by kernel_rfl
theorem fo_32_1 : ∀ w, Sem.run PP (do match (#[({ name := "Kind", type := 3, offset := 0, embedded := false, tag := "", pkgPath := "", byteOffset := 0 } : Field), ({ name := "Owner", type := 3, offset := 1, embedded := false, tag := "", pkgPath := "", byteOffset := 8 } : Field), ({ name := "Epoch", type := 3, offset := 2, embedded := false, tag := "", pkgPath := "", byteOffset := 16 } : Field), ({ name := "Last", type := 4, offset := 3, embedded := false, tag := "", pkgPath := "", byteOffset := 24 } : Field)])[1]? with | some fd => (do pure (fd.offset, (← sizeOf fd.type) != 0)) | none => pure (0, false) : Sem (Nat × Bool)) w = .ok (1, true) w := fun w => by kernel_rfl
theorem fo_32_2 : ∀ w, Sem.run PP (do match (#[({ name := "Kind", type := 3, offset := 0, embedded := false, tag := "", pkgPath := "", byteOffset := 0 } : Field), ({ name := "Owner", type := 3, offset := 1, embedded := false, tag := "", pkgPath := "", byteOffset := 8 } : Field), ({ name := "Epoch", type := 3, offset := 2, embedded := false, tag := "", pkgPath := "", byteOffset := 16 } : Field), ({ name := "Last", type := 4, offset := 3, embedded := false, tag := "", pkgPath := "", byteOffset := 24 } : Field)])[2]? with | some fd => (do pure (fd.offset, (← sizeOf fd.type) != 0)) | none => pure (0, false) : Sem (Nat × Bool)) w = .ok (2, true) w := fun w => by kernel_rfl
theorem fo_32_3 : ∀ w, Sem.run PP (do match (#[({ name := "Kind", type := 3, offset := 0, embedded := false, tag := "", pkgPath := "", byteOffset := 0 } : Field), ({ name := "Owner", type := 3, offset := 1, embedded := false, tag := "", pkgPath := "", byteOffset := 8 } : Field), ({ name := "Epoch", type := 3, offset := 2, embedded := false, tag := "", pkgPath := "", byteOffset := 16 } : Field), ({ name := "Last", type := 4, offset := 3, embedded := false, tag := "", pkgPath := "", byteOffset := 24 } : Field)])[3]? with | some fd => (do pure (fd.offset, (← sizeOf fd.type) != 0)) | none => pure (0, false) : Sem (Nat × Bool)) w = .ok (3, true) w := fun w => by kernel_rfl
theorem fo_40_0 : ∀ w, Sem.run PP (do match (#[({ name := "Pins", type := 3, offset := 0, embedded := false, tag := "", pkgPath := "", byteOffset := 0 } : Field), ({ name := "Epoch", type := 3, offset := 1, embedded := false, tag := "", pkgPath := "", byteOffset := 8 } : Field), ({ name := "Sets", type := 37, offset := 2, embedded := false, tag := "", pkgPath := "", byteOffset := 16 } : Field), ({ name := "In", type := 38, offset := 3, embedded := false, tag := "", pkgPath := "", byteOffset := 40 } : Field), ({ name := "Die", type := 38, offset := 4, embedded := false, tag := "", pkgPath := "", byteOffset := 64 } : Field), ({ name := "Sweep", type := 38, offset := 5, embedded := false, tag := "", pkgPath := "", byteOffset := 88 } : Field), ({ name := "On", type := 4, offset := 6, embedded := false, tag := "", pkgPath := "", byteOffset := 112 } : Field)])[0]? with | some fd => (do pure (fd.offset, (← sizeOf fd.type) != 0)) | none => pure (0, false) : Sem (Nat × Bool)) w = .ok (0, true) w := fun w => by kernel_rfl
theorem fo_40_1 : ∀ w, Sem.run PP (do match (#[({ name := "Pins", type := 3, offset := 0, embedded := false, tag := "", pkgPath := "", byteOffset := 0 } : Field), ({ name := "Epoch", type := 3, offset := 1, embedded := false, tag := "", pkgPath := "", byteOffset := 8 } : Field), ({ name := "Sets", type := 37, offset := 2, embedded := false, tag := "", pkgPath := "", byteOffset := 16 } : Field), ({ name := "In", type := 38, offset := 3, embedded := false, tag := "", pkgPath := "", byteOffset := 40 } : Field), ({ name := "Die", type := 38, offset := 4, embedded := false, tag := "", pkgPath := "", byteOffset := 64 } : Field), ({ name := "Sweep", type := 38, offset := 5, embedded := false, tag := "", pkgPath := "", byteOffset := 88 } : Field), ({ name := "On", type := 4, offset := 6, embedded := false, tag := "", pkgPath := "", byteOffset := 112 } : Field)])[1]? with | some fd => (do pure (fd.offset, (← sizeOf fd.type) != 0)) | none => pure (0, false) : Sem (Nat × Bool)) w = .ok (1, true) w := fun w => by kernel_rfl
theorem fo_40_2 : ∀ w, Sem.run PP (do match (#[({ name := "Pins", type := 3, offset := 0, embedded := false, tag := "", pkgPath := "", byteOffset := 0 } : Field), ({ name := "Epoch", type := 3, offset := 1, embedded := false, tag := "", pkgPath := "", byteOffset := 8 } : Field), ({ name := "Sets", type := 37, offset := 2, embedded := false, tag := "", pkgPath := "", byteOffset := 16 } : Field), ({ name := "In", type := 38, offset := 3, embedded := false, tag := "", pkgPath := "", byteOffset := 40 } : Field), ({ name := "Die", type := 38, offset := 4, embedded := false, tag := "", pkgPath := "", byteOffset := 64 } : Field), ({ name := "Sweep", type := 38, offset := 5, embedded := false, tag := "", pkgPath := "", byteOffset := 88 } : Field), ({ name := "On", type := 4, offset := 6, embedded := false, tag := "", pkgPath := "", byteOffset := 112 } : Field)])[2]? with | some fd => (do pure (fd.offset, (← sizeOf fd.type) != 0)) | none => pure (0, false) : Sem (Nat × Bool)) w = .ok (2, true) w := fun w => by kernel_rfl
theorem fo_40_3 : ∀ w, Sem.run PP (do match (#[({ name := "Pins", type := 3, offset := 0, embedded := false, tag := "", pkgPath := "", byteOffset := 0 } : Field), ({ name := "Epoch", type := 3, offset := 1, embedded := false, tag := "", pkgPath := "", byteOffset := 8 } : Field), ({ name := "Sets", type := 37, offset := 2, embedded := false, tag := "", pkgPath := "", byteOffset := 16 } : Field), ({ name := "In", type := 38, offset := 3, embedded := false, tag := "", pkgPath := "", byteOffset := 40 } : Field), ({ name := "Die", type := 38, offset := 4, embedded := false, tag := "", pkgPath := "", byteOffset := 64 } : Field), ({ name := "Sweep", type := 38, offset := 5, embedded := false, tag := "", pkgPath := "", byteOffset := 88 } : Field), ({ name := "On", type := 4, offset := 6, embedded := false, tag := "", pkgPath := "", byteOffset := 112 } : Field)])[3]? with | some fd => (do pure (fd.offset, (← sizeOf fd.type) != 0)) | none => pure (0, false) : Sem (Nat × Bool)) w = .ok (3, true) w := fun w => by kernel_rfl
theorem fo_40_4 : ∀ w, Sem.run PP (do match (#[({ name := "Pins", type := 3, offset := 0, embedded := false, tag := "", pkgPath := "", byteOffset := 0 } : Field), ({ name := "Epoch", type := 3, offset := 1, embedded := false, tag := "", pkgPath := "", byteOffset := 8 } : Field), ({ name := "Sets", type := 37, offset := 2, embedded := false, tag := "", pkgPath := "", byteOffset := 16 } : Field), ({ name := "In", type := 38, offset := 3, embedded := false, tag := "", pkgPath := "", byteOffset := 40 } : Field), ({ name := "Die", type := 38, offset := 4, embedded := false, tag := "", pkgPath := "", byteOffset := 64 } : Field), ({ name := "Sweep", type := 38, offset := 5, embedded := false, tag := "", pkgPath := "", byteOffset := 88 } : Field), ({ name := "On", type := 4, offset := 6, embedded := false, tag := "", pkgPath := "", byteOffset := 112 } : Field)])[4]? with | some fd => (do pure (fd.offset, (← sizeOf fd.type) != 0)) | none => pure (0, false) : Sem (Nat × Bool)) w = .ok (4, true) w := fun w => by kernel_rfl
theorem fo_40_5 : ∀ w, Sem.run PP (do match (#[({ name := "Pins", type := 3, offset := 0, embedded := false, tag := "", pkgPath := "", byteOffset := 0 } : Field), ({ name := "Epoch", type := 3, offset := 1, embedded := false, tag := "", pkgPath := "", byteOffset := 8 } : Field), ({ name := "Sets", type := 37, offset := 2, embedded := false, tag := "", pkgPath := "", byteOffset := 16 } : Field), ({ name := "In", type := 38, offset := 3, embedded := false, tag := "", pkgPath := "", byteOffset := 40 } : Field), ({ name := "Die", type := 38, offset := 4, embedded := false, tag := "", pkgPath := "", byteOffset := 64 } : Field), ({ name := "Sweep", type := 38, offset := 5, embedded := false, tag := "", pkgPath := "", byteOffset := 88 } : Field), ({ name := "On", type := 4, offset := 6, embedded := false, tag := "", pkgPath := "", byteOffset := 112 } : Field)])[5]? with | some fd => (do pure (fd.offset, (← sizeOf fd.type) != 0)) | none => pure (0, false) : Sem (Nat × Bool)) w = .ok (5, true) w := fun w => by kernel_rfl
theorem fo_40_6 : ∀ w, Sem.run PP (do match (#[({ name := "Pins", type := 3, offset := 0, embedded := false, tag := "", pkgPath := "", byteOffset := 0 } : Field), ({ name := "Epoch", type := 3, offset := 1, embedded := false, tag := "", pkgPath := "", byteOffset := 8 } : Field), ({ name := "Sets", type := 37, offset := 2, embedded := false, tag := "", pkgPath := "", byteOffset := 16 } : Field), ({ name := "In", type := 38, offset := 3, embedded := false, tag := "", pkgPath := "", byteOffset := 40 } : Field), ({ name := "Die", type := 38, offset := 4, embedded := false, tag := "", pkgPath := "", byteOffset := 64 } : Field), ({ name := "Sweep", type := 38, offset := 5, embedded := false, tag := "", pkgPath := "", byteOffset := 88 } : Field), ({ name := "On", type := 4, offset := 6, embedded := false, tag := "", pkgPath := "", byteOffset := 112 } : Field)])[6]? with | some fd => (do pure (fd.offset, (← sizeOf fd.type) != 0)) | none => pure (0, false) : Sem (Nat × Bool)) w = .ok (6, true) w := fun w => by kernel_rfl
theorem fo_54_0 : ∀ w, Sem.run PP (do match (#[({ name := "state", type := 21, offset := 0, embedded := false, tag := "", pkgPath := "internal/sync", byteOffset := 0 } : Field), ({ name := "sema", type := 52, offset := 1, embedded := false, tag := "", pkgPath := "internal/sync", byteOffset := 4 } : Field)])[0]? with | some fd => (do pure (fd.offset, (← sizeOf fd.type) != 0)) | none => pure (0, false) : Sem (Nat × Bool)) w = .ok (0, true) w := fun w => by kernel_rfl
theorem fo_56_1 : ∀ w, Sem.run PP (do match (#[({ name := "_", type := 51, offset := 0, embedded := false, tag := "", pkgPath := "sync", byteOffset := 0 } : Field), ({ name := "mu", type := 54, offset := 0, embedded := false, tag := "", pkgPath := "sync", byteOffset := 0 } : Field)])[1]? with | some fd => (do pure (fd.offset, (← sizeOf fd.type) != 0)) | none => pure (0, false) : Sem (Nat × Bool)) w = .ok (0, true) w := fun w => by kernel_rfl
theorem fo_59_0 : ∀ w, Sem.run PP (do match (#[({ name := "set", type := 57, offset := 0, embedded := false, tag := "", pkgPath := "spate/epoch", byteOffset := 0 } : Field), ({ name := "inner", type := 3, offset := 1, embedded := false, tag := "", pkgPath := "spate/epoch", byteOffset := 8 } : Field)])[0]? with | some fd => (do pure (fd.offset, (← sizeOf fd.type) != 0)) | none => pure (0, false) : Sem (Nat × Bool)) w = .ok (0, true) w := fun w => by kernel_rfl
theorem fo_59_1 : ∀ w, Sem.run PP (do match (#[({ name := "set", type := 57, offset := 0, embedded := false, tag := "", pkgPath := "spate/epoch", byteOffset := 0 } : Field), ({ name := "inner", type := 3, offset := 1, embedded := false, tag := "", pkgPath := "spate/epoch", byteOffset := 8 } : Field)])[1]? with | some fd => (do pure (fd.offset, (← sizeOf fd.type) != 0)) | none => pure (0, false) : Sem (Nat × Bool)) w = .ok (1, true) w := fun w => by kernel_rfl
theorem fo_62_0 : ∀ w, Sem.run PP (do match (#[({ name := "Mutex", type := 56, offset := 0, embedded := true, tag := "", pkgPath := "", byteOffset := 0 } : Field), ({ name := "pins", type := 3, offset := 2, embedded := false, tag := "", pkgPath := "spate/epoch", byteOffset := 8 } : Field), ({ name := "now", type := 3, offset := 3, embedded := false, tag := "", pkgPath := "spate/epoch", byteOffset := 16 } : Field), ({ name := "owners", type := 60, offset := 4, embedded := false, tag := "", pkgPath := "spate/epoch", byteOffset := 24 } : Field), ({ name := "dying", type := 49, offset := 134, embedded := false, tag := "", pkgPath := "spate/epoch", byteOffset := 1064 } : Field), ({ name := "sweeping", type := 4, offset := 135, embedded := false, tag := "", pkgPath := "spate/epoch", byteOffset := 1072 } : Field)])[0]? with | some fd => (do pure (fd.offset, (← sizeOf fd.type) != 0)) | none => pure (0, false) : Sem (Nat × Bool)) w = .ok (0, true) w := fun w => by kernel_rfl
theorem fo_62_1 : ∀ w, Sem.run PP (do match (#[({ name := "Mutex", type := 56, offset := 0, embedded := true, tag := "", pkgPath := "", byteOffset := 0 } : Field), ({ name := "pins", type := 3, offset := 2, embedded := false, tag := "", pkgPath := "spate/epoch", byteOffset := 8 } : Field), ({ name := "now", type := 3, offset := 3, embedded := false, tag := "", pkgPath := "spate/epoch", byteOffset := 16 } : Field), ({ name := "owners", type := 60, offset := 4, embedded := false, tag := "", pkgPath := "spate/epoch", byteOffset := 24 } : Field), ({ name := "dying", type := 49, offset := 134, embedded := false, tag := "", pkgPath := "spate/epoch", byteOffset := 1064 } : Field), ({ name := "sweeping", type := 4, offset := 135, embedded := false, tag := "", pkgPath := "spate/epoch", byteOffset := 1072 } : Field)])[1]? with | some fd => (do pure (fd.offset, (← sizeOf fd.type) != 0)) | none => pure (0, false) : Sem (Nat × Bool)) w = .ok (2, true) w := fun w => by kernel_rfl
theorem fo_62_2 : ∀ w, Sem.run PP (do match (#[({ name := "Mutex", type := 56, offset := 0, embedded := true, tag := "", pkgPath := "", byteOffset := 0 } : Field), ({ name := "pins", type := 3, offset := 2, embedded := false, tag := "", pkgPath := "spate/epoch", byteOffset := 8 } : Field), ({ name := "now", type := 3, offset := 3, embedded := false, tag := "", pkgPath := "spate/epoch", byteOffset := 16 } : Field), ({ name := "owners", type := 60, offset := 4, embedded := false, tag := "", pkgPath := "spate/epoch", byteOffset := 24 } : Field), ({ name := "dying", type := 49, offset := 134, embedded := false, tag := "", pkgPath := "spate/epoch", byteOffset := 1064 } : Field), ({ name := "sweeping", type := 4, offset := 135, embedded := false, tag := "", pkgPath := "spate/epoch", byteOffset := 1072 } : Field)])[2]? with | some fd => (do pure (fd.offset, (← sizeOf fd.type) != 0)) | none => pure (0, false) : Sem (Nat × Bool)) w = .ok (3, true) w := fun w => by kernel_rfl
theorem fo_62_3 : ∀ w, Sem.run PP (do match (#[({ name := "Mutex", type := 56, offset := 0, embedded := true, tag := "", pkgPath := "", byteOffset := 0 } : Field), ({ name := "pins", type := 3, offset := 2, embedded := false, tag := "", pkgPath := "spate/epoch", byteOffset := 8 } : Field), ({ name := "now", type := 3, offset := 3, embedded := false, tag := "", pkgPath := "spate/epoch", byteOffset := 16 } : Field), ({ name := "owners", type := 60, offset := 4, embedded := false, tag := "", pkgPath := "spate/epoch", byteOffset := 24 } : Field), ({ name := "dying", type := 49, offset := 134, embedded := false, tag := "", pkgPath := "spate/epoch", byteOffset := 1064 } : Field), ({ name := "sweeping", type := 4, offset := 135, embedded := false, tag := "", pkgPath := "spate/epoch", byteOffset := 1072 } : Field)])[3]? with | some fd => (do pure (fd.offset, (← sizeOf fd.type) != 0)) | none => pure (0, false) : Sem (Nat × Bool)) w = .ok (4, true) w := fun w => by kernel_rfl
theorem fo_62_4 : ∀ w, Sem.run PP (do match (#[({ name := "Mutex", type := 56, offset := 0, embedded := true, tag := "", pkgPath := "", byteOffset := 0 } : Field), ({ name := "pins", type := 3, offset := 2, embedded := false, tag := "", pkgPath := "spate/epoch", byteOffset := 8 } : Field), ({ name := "now", type := 3, offset := 3, embedded := false, tag := "", pkgPath := "spate/epoch", byteOffset := 16 } : Field), ({ name := "owners", type := 60, offset := 4, embedded := false, tag := "", pkgPath := "spate/epoch", byteOffset := 24 } : Field), ({ name := "dying", type := 49, offset := 134, embedded := false, tag := "", pkgPath := "spate/epoch", byteOffset := 1064 } : Field), ({ name := "sweeping", type := 4, offset := 135, embedded := false, tag := "", pkgPath := "spate/epoch", byteOffset := 1072 } : Field)])[4]? with | some fd => (do pure (fd.offset, (← sizeOf fd.type) != 0)) | none => pure (0, false) : Sem (Nat × Bool)) w = .ok (134, true) w := fun w => by kernel_rfl
theorem fo_62_5 : ∀ w, Sem.run PP (do match (#[({ name := "Mutex", type := 56, offset := 0, embedded := true, tag := "", pkgPath := "", byteOffset := 0 } : Field), ({ name := "pins", type := 3, offset := 2, embedded := false, tag := "", pkgPath := "spate/epoch", byteOffset := 8 } : Field), ({ name := "now", type := 3, offset := 3, embedded := false, tag := "", pkgPath := "spate/epoch", byteOffset := 16 } : Field), ({ name := "owners", type := 60, offset := 4, embedded := false, tag := "", pkgPath := "spate/epoch", byteOffset := 24 } : Field), ({ name := "dying", type := 49, offset := 134, embedded := false, tag := "", pkgPath := "spate/epoch", byteOffset := 1064 } : Field), ({ name := "sweeping", type := 4, offset := 135, embedded := false, tag := "", pkgPath := "spate/epoch", byteOffset := 1072 } : Field)])[5]? with | some fd => (do pure (fd.offset, (← sizeOf fd.type) != 0)) | none => pure (0, false) : Sem (Nat × Bool)) w = .ok (135, true) w := fun w => by kernel_rfl
theorem el_SlSlint : El PP 37 38 1 24 (⟨none, 0, 0⟩ : Sl).enc := ⟨Tryz.underlying37, ⟨Tryz.t38, by kernel_rfl, by kernel_rfl, by kernel_rfl, by kernel_rfl⟩, by kernel_rfl, by omega, by omega⟩
theorem el_Slint : El PP 38 3 1 8 (.int .i64 0) := ⟨Tryz.underlying38, ⟨Tryz.t3, by kernel_rfl, by kernel_rfl, by kernel_rfl, by kernel_rfl⟩, by kernel_rfl, by omega, by omega⟩
theorem mt_map_int_int : PP.underlying 49 = some (.map 3 3) := Tryz.underlying49
theorem mt_map_int_struct : PP.underlying 57 = some (.map 3 50) := Tryz.underlying57
theorem ut_Slspatelaw9_Step : PP.underlying 22 = some (.slice 32) := Tryz.underlying22
theorem ut_spatelaw9_Step : PP.underlying 32 = some (.struct #[({ name := "Kind", type := 3, offset := 0, embedded := false, tag := "", pkgPath := "", byteOffset := 0 } : Field), ({ name := "Owner", type := 3, offset := 1, embedded := false, tag := "", pkgPath := "", byteOffset := 8 } : Field), ({ name := "Epoch", type := 3, offset := 2, embedded := false, tag := "", pkgPath := "", byteOffset := 16 } : Field), ({ name := "Last", type := 4, offset := 3, embedded := false, tag := "", pkgPath := "", byteOffset := 24 } : Field)]) := Tryz.underlying32
theorem ut_Slint : PP.underlying 38 = some (.slice 3) := Tryz.underlying38
abbrev tn_int : TypeId := 3
abbrev tn_Slspatelaw9_Step : TypeId := 22
abbrev tn_spatelaw9_Step : TypeId := 32
abbrev tn_Slint : TypeId := 38
abbrev tn_spateref9_Book : TypeId := 40
abbrev tn_map_int_int : TypeId := 49
abbrev tn_struct : TypeId := 50
abbrev tn_map_int_struct : TypeId := 57
abbrev tn_epoch_owner : TypeId := 59
abbrev tn_epoch_Book : TypeId := 62
abbrev no_spatelaw9_EpochPlays : FuncId := 3
theorem no_spatelaw9_EpochPlays_call : ∀ (args : Array Value) (w : World), (callFunc 3 args).run PP w = .ok (.enter 3 args) w := Tryz.call3
abbrev no_spatelaw9_known : FuncId := 4
theorem no_spatelaw9_known_call : ∀ (args : Array Value) (w : World), (callFunc 4 args).run PP w = .ok (.enter 4 args) w := Tryz.call4
abbrev no_epoch_New : FuncId := 5
theorem no_epoch_New_call : ∀ (args : Array Value) (w : World), (callFunc 5 args).run PP w = .ok (.enter 5 args) w := Tryz.call5
abbrev no_spateref9_New : FuncId := 6
theorem no_spateref9_New_call : ∀ (args : Array Value) (w : World), (callFunc 6 args).run PP w = .ok (.enter 6 args) w := Tryz.call6
abbrev no_epoch_Book_Twin : FuncId := 7
theorem no_epoch_Book_Twin_call : ∀ (args : Array Value) (w : World), (callFunc 7 args).run PP w = .ok (.enter 7 args) w := Tryz.call7
abbrev no_spatelaw9_told : FuncId := 8
theorem no_spatelaw9_told_call : ∀ (args : Array Value) (w : World), (callFunc 8 args).run PP w = .ok (.enter 8 args) w := Tryz.call8
abbrev no_spatelaw9_like : FuncId := 9
theorem no_spatelaw9_like_call : ∀ (args : Array Value) (w : World), (callFunc 9 args).run PP w = .ok (.enter 9 args) w := Tryz.call9
abbrev no_epoch_Book_Holds : FuncId := 10
theorem no_epoch_Book_Holds_call : ∀ (args : Array Value) (w : World), (callFunc 10 args).run PP w = .ok (.enter 10 args) w := Tryz.call10
abbrev no_spateref9_Book_Holds : FuncId := 11
theorem no_spateref9_Book_Holds_call : ∀ (args : Array Value) (w : World), (callFunc 11 args).run PP w = .ok (.enter 11 args) w := Tryz.call11
abbrev no_epoch_Book_Seal : FuncId := 12
theorem no_epoch_Book_Seal_call : ∀ (args : Array Value) (w : World), (callFunc 12 args).run PP w = .ok (.enter 12 args) w := Tryz.call12
abbrev no_epoch_Book_Join : FuncId := 13
theorem no_epoch_Book_Join_call : ∀ (args : Array Value) (w : World), (callFunc 13 args).run PP w = .ok (.enter 13 args) w := Tryz.call13
abbrev no_epoch_Book_Release : FuncId := 14
theorem no_epoch_Book_Release_call : ∀ (args : Array Value) (w : World), (callFunc 14 args).run PP w = .ok (.enter 14 args) w := Tryz.call14
abbrev no_epoch_Book_Live : FuncId := 15
theorem no_epoch_Book_Live_call : ∀ (args : Array Value) (w : World), (callFunc 15 args).run PP w = .ok (.enter 15 args) w := Tryz.call15
abbrev no_epoch_Book_Dying : FuncId := 16
theorem no_epoch_Book_Dying_call : ∀ (args : Array Value) (w : World), (callFunc 16 args).run PP w = .ok (.enter 16 args) w := Tryz.call16
abbrev no_epoch_Book_Held : FuncId := 17
theorem no_epoch_Book_Held_call : ∀ (args : Array Value) (w : World), (callFunc 17 args).run PP w = .ok (.enter 17 args) w := Tryz.call17
abbrev no_epoch_Book_Begin : FuncId := 18
theorem no_epoch_Book_Begin_call : ∀ (args : Array Value) (w : World), (callFunc 18 args).run PP w = .ok (.enter 18 args) w := Tryz.call18
abbrev no_epoch_Book_End : FuncId := 19
theorem no_epoch_Book_End_call : ∀ (args : Array Value) (w : World), (callFunc 19 args).run PP w = .ok (.enter 19 args) w := Tryz.call19
abbrev no_epoch_Book_Now : FuncId := 20
theorem no_epoch_Book_Now_call : ∀ (args : Array Value) (w : World), (callFunc 20 args).run PP w = .ok (.enter 20 args) w := Tryz.call20
abbrev no_epoch_Book_guard : FuncId := 21
theorem no_epoch_Book_guard_call : ∀ (args : Array Value) (w : World), (callFunc 21 args).run PP w = .ok (.enter 21 args) w := Tryz.call21
abbrev no_maps_Clone_map_int_int_int_int : FuncId := 22
theorem no_maps_Clone_map_int_int_int_int_call : ∀ (args : Array Value) (w : World), (callFunc 22 args).run PP w = .ok (.enter 22 args) w := Tryz.call22
abbrev no_maps_Clone_map_int_struct_int_struct : FuncId := 23
theorem no_maps_Clone_map_int_struct_int_struct_call : ∀ (args : Array Value) (w : World), (callFunc 23 args).run PP w = .ok (.enter 23 args) w := Tryz.call23
abbrev no_spatelaw9_of : FuncId := 24
theorem no_spatelaw9_of_call : ∀ (args : Array Value) (w : World), (callFunc 24 args).run PP w = .ok (.enter 24 args) w := Tryz.call24
abbrev no_spateref9_Book_Seal : FuncId := 25
theorem no_spateref9_Book_Seal_call : ∀ (args : Array Value) (w : World), (callFunc 25 args).run PP w = .ok (.enter 25 args) w := Tryz.call25
abbrev no_epoch_Book_Inner : FuncId := 26
theorem no_epoch_Book_Inner_call : ∀ (args : Array Value) (w : World), (callFunc 26 args).run PP w = .ok (.enter 26 args) w := Tryz.call26
abbrev no_spateref9_Book_Inner : FuncId := 27
theorem no_spateref9_Book_Inner_call : ∀ (args : Array Value) (w : World), (callFunc 27 args).run PP w = .ok (.enter 27 args) w := Tryz.call27
abbrev no_spateref9_Book_Join : FuncId := 28
theorem no_spateref9_Book_Join_call : ∀ (args : Array Value) (w : World), (callFunc 28 args).run PP w = .ok (.enter 28 args) w := Tryz.call28
abbrev no_spateref9_Book_Release : FuncId := 29
theorem no_spateref9_Book_Release_call : ∀ (args : Array Value) (w : World), (callFunc 29 args).run PP w = .ok (.enter 29 args) w := Tryz.call29
abbrev no_epoch_Book_Done : FuncId := 30
theorem no_epoch_Book_Done_call : ∀ (args : Array Value) (w : World), (callFunc 30 args).run PP w = .ok (.enter 30 args) w := Tryz.call30
abbrev no_spateref9_Book_Done : FuncId := 31
theorem no_spateref9_Book_Done_call : ∀ (args : Array Value) (w : World), (callFunc 31 args).run PP w = .ok (.enter 31 args) w := Tryz.call31
abbrev no_epoch_Book_Drop : FuncId := 32
theorem no_epoch_Book_Drop_call : ∀ (args : Array Value) (w : World), (callFunc 32 args).run PP w = .ok (.enter 32 args) w := Tryz.call32
abbrev no_spateref9_Book_Drop : FuncId := 33
theorem no_spateref9_Book_Drop_call : ∀ (args : Array Value) (w : World), (callFunc 33 args).run PP w = .ok (.enter 33 args) w := Tryz.call33
abbrev no_spateref9_Book_Begin : FuncId := 34
theorem no_spateref9_Book_Begin_call : ∀ (args : Array Value) (w : World), (callFunc 34 args).run PP w = .ok (.enter 34 args) w := Tryz.call34
abbrev no_spateref9_Book_End : FuncId := 35
theorem no_spateref9_Book_End_call : ∀ (args : Array Value) (w : World), (callFunc 35 args).run PP w = .ok (.enter 35 args) w := Tryz.call35
abbrev no_spatelaw9_ints : FuncId := 36
theorem no_spatelaw9_ints_call : ∀ (args : Array Value) (w : World), (callFunc 36 args).run PP w = .ok (.enter 36 args) w := Tryz.call36
abbrev no_spateref9_Book_Held : FuncId := 37
theorem no_spateref9_Book_Held_call : ∀ (args : Array Value) (w : World), (callFunc 37 args).run PP w = .ok (.enter 37 args) w := Tryz.call37
abbrev no_spateref9_Book_Live : FuncId := 38
theorem no_spateref9_Book_Live_call : ∀ (args : Array Value) (w : World), (callFunc 38 args).run PP w = .ok (.enter 38 args) w := Tryz.call38
abbrev no_epoch_is : FuncId := 39
theorem no_epoch_is_call : ∀ (args : Array Value) (w : World), (callFunc 39 args).run PP w = .ok (.enter 39 args) w := Tryz.call39
abbrev no_epoch_Book_has : FuncId := 40
theorem no_epoch_Book_has_call : ∀ (args : Array Value) (w : World), (callFunc 40 args).run PP w = .ok (.enter 40 args) w := Tryz.call40
abbrev no_spateref9_owner : FuncId := 41
theorem no_spateref9_owner_call : ∀ (args : Array Value) (w : World), (callFunc 41 args).run PP w = .ok (.enter 41 args) w := Tryz.call41
abbrev no_spateref9_Has : FuncId := 42
theorem no_spateref9_Has_call : ∀ (args : Array Value) (w : World), (callFunc 42 args).run PP w = .ok (.enter 42 args) w := Tryz.call42
abbrev no_epoch_Book_pinned : FuncId := 43
theorem no_epoch_Book_pinned_call : ∀ (args : Array Value) (w : World), (callFunc 43 args).run PP w = .ok (.enter 43 args) w := Tryz.call43
abbrev no_epoch_Book_let : FuncId := 44
theorem no_epoch_Book_let_call : ∀ (args : Array Value) (w : World), (callFunc 44 args).run PP w = .ok (.enter 44 args) w := Tryz.call44
abbrev no_epoch_Book_all : FuncId := 45
theorem no_epoch_Book_all_call : ∀ (args : Array Value) (w : World), (callFunc 45 args).run PP w = .ok (.enter 45 args) w := Tryz.call45
abbrev no_slices_Sorted_int : FuncId := 46
theorem no_slices_Sorted_int_call : ∀ (args : Array Value) (w : World), (callFunc 46 args).run PP w = .ok (.enter 46 args) w := Tryz.call46
abbrev no_maps_Keys_map_int_int_int_int : FuncId := 47
theorem no_maps_Keys_map_int_int_int_int_call : ∀ (args : Array Value) (w : World), (callFunc 47 args).run PP w = .ok (.enter 47 args) w := Tryz.call47
abbrev no_maps_DeleteFunc_map_int_int_int_int : FuncId := 48
theorem no_maps_DeleteFunc_map_int_int_int_int_call : ∀ (args : Array Value) (w : World), (callFunc 48 args).run PP w = .ok (.enter 48 args) w := Tryz.call48
abbrev no_epoch_Book_End_1 : FuncId := 49
theorem no_epoch_Book_End_1_call : ∀ (args : Array Value) (w : World), (callFunc 49 args).run PP w = .ok (.enter 49 args) w := Tryz.call49
abbrev no_sync_Mutex_Lock : FuncId := 50
theorem no_sync_Mutex_Lock_call : ∀ (args : Array Value) (w : World), (callFunc 50 args).run PP w = .ok (.enter 50 args) w := Tryz.call50
abbrev no_sync_Mutex_Unlock : FuncId := 51
theorem no_sync_Mutex_Unlock_call : ∀ (args : Array Value) (w : World), (callFunc 51 args).run PP w = .ok (.enter 51 args) w := Tryz.call51
abbrev no_spateref9_With : FuncId := 53
theorem no_spateref9_With_call : ∀ (args : Array Value) (w : World), (callFunc 53 args).run PP w = .ok (.enter 53 args) w := Tryz.call53
abbrev no_spateref9_Without : FuncId := 54
theorem no_spateref9_Without_call : ∀ (args : Array Value) (w : World), (callFunc 54 args).run PP w = .ok (.enter 54 args) w := Tryz.call54
abbrev no_spateref9_Book_loose : FuncId := 55
theorem no_spateref9_Book_loose_call : ∀ (args : Array Value) (w : World), (callFunc 55 args).run PP w = .ok (.enter 55 args) w := Tryz.call55
abbrev no_slices_Collect_int : FuncId := 56
theorem no_slices_Collect_int_call : ∀ (args : Array Value) (w : World), (callFunc 56 args).run PP w = .ok (.enter 56 args) w := Tryz.call56
abbrev no_maps_Keys_map_int_struct_int_struct : FuncId := 57
theorem no_maps_Keys_map_int_struct_int_struct_call : ∀ (args : Array Value) (w : World), (callFunc 57 args).run PP w = .ok (.enter 57 args) w := Tryz.call57
abbrev no_slices_ContainsFunc_Slepoch_owner_epoch_owner : FuncId := 58
theorem no_slices_ContainsFunc_Slepoch_owner_epoch_owner_call : ∀ (args : Array Value) (w : World), (callFunc 58 args).run PP w = .ok (.enter 58 args) w := Tryz.call58
abbrev no_epoch_Book_pinned_1 : FuncId := 59
theorem no_epoch_Book_pinned_1_call : ∀ (args : Array Value) (w : World), (callFunc 59 args).run PP w = .ok (.enter 59 args) w := Tryz.call59
abbrev no_epoch_Book_held : FuncId := 60
theorem no_epoch_Book_held_call : ∀ (args : Array Value) (w : World), (callFunc 60 args).run PP w = .ok (.enter 60 args) w := Tryz.call60
abbrev no_maps_Copy_map_int_struct_map_int_struct_int_struct : FuncId := 61
theorem no_maps_Copy_map_int_struct_map_int_struct_int_struct_call : ∀ (args : Array Value) (w : World), (callFunc 61 args).run PP w = .ok (.enter 61 args) w := Tryz.call61
abbrev no_slices_Sort_Slint_int : FuncId := 62
theorem no_slices_Sort_Slint_int_call : ∀ (args : Array Value) (w : World), (callFunc 62 args).run PP w = .ok (.enter 62 args) w := Tryz.call62
abbrev no_maps_Keys_map_int_int_int_int_1 : FuncId := 63
theorem no_maps_Keys_map_int_int_int_int_1_call : ∀ (args : Array Value) (w : World), (callFunc 63 args).run PP w = .ok (.enter 63 args) w := Tryz.call63
abbrev no_internal_sync_Mutex_Lock : FuncId := 64
theorem no_internal_sync_Mutex_Lock_call : ∀ (args : Array Value) (w : World), (callFunc 64 args).run PP w = .ok (.enter 64 args) w := Tryz.call64
abbrev no_internal_sync_Mutex_Unlock : FuncId := 65
theorem no_internal_sync_Mutex_Unlock_call : ∀ (args : Array Value) (w : World), (callFunc 65 args).run PP w = .ok (.enter 65 args) w := Tryz.call65
abbrev no_slices_AppendSeq_Slint_int : FuncId := 66
theorem no_slices_AppendSeq_Slint_int_call : ∀ (args : Array Value) (w : World), (callFunc 66 args).run PP w = .ok (.enter 66 args) w := Tryz.call66
abbrev no_maps_Keys_map_int_struct_int_struct_1 : FuncId := 67
theorem no_maps_Keys_map_int_struct_int_struct_1_call : ∀ (args : Array Value) (w : World), (callFunc 67 args).run PP w = .ok (.enter 67 args) w := Tryz.call67
abbrev no_slices_IndexFunc_Slepoch_owner_epoch_owner : FuncId := 68
theorem no_slices_IndexFunc_Slepoch_owner_epoch_owner_call : ∀ (args : Array Value) (w : World), (callFunc 68 args).run PP w = .ok (.enter 68 args) w := Tryz.call68
abbrev no_epoch_Book_held_1 : FuncId := 69
theorem no_epoch_Book_held_1_call : ∀ (args : Array Value) (w : World), (callFunc 69 args).run PP w = .ok (.enter 69 args) w := Tryz.call69
theorem bd_62_1_2_4 (y1 : Int) (y2 : Int) (y4 : Option Nat) : ∀ w, (Instr.build 62 ([(1, (.int .i64 y1)), (2, (.int .i64 y2)), (4, (.map y4))] : List (Nat × Value)).toArray).run PP w = .ok (.agg (⟨(⟨(⟨⟩ : S_sync_noCopy), (⟨0, 0⟩ : S_sync_Mutex)⟩ : S_sync_Mutex_55), y1, y2, (List.replicate 65 (⟨none, 0⟩ : S_epoch_owner)), y4, false⟩ : S_epoch_Book).cells.toArray) w := fun w => by kernel_rfl
theorem still_72 : Still PP 72 [] := fun w => run_call_mark0 Tryz.func72 (by kernel_rfl) (by kernel_rfl) (by kernel_rfl) .disable (by kernel_rfl) w
theorem cas_73 : CasF PP 73 .i32 := casF_of Tryz.func73 (by kernel_rfl) (by kernel_rfl) (by kernel_rfl) (by kernel_rfl)
theorem still_74 : Still PP 74 [] := fun w => run_call_mark0 Tryz.func74 (by kernel_rfl) (by kernel_rfl) (by kernel_rfl) .enable (by kernel_rfl) w
theorem still_75 (a : Addr) : Still PP 75 [.pointer (some a)] := fun w => run_call_marked Tryz.func75 (by kernel_rfl) (by kernel_rfl) (by kernel_rfl) .acquire (by kernel_rfl) a w
theorem add_78 : AddF PP 78 .i32 := addF_of Tryz.func78 (by kernel_rfl) (by kernel_rfl) (by kernel_rfl) (by kernel_rfl)
theorem still_77 (a : Addr) : Still PP 77 [.pointer (some a)] := fun w => run_call_marked Tryz.func77 (by kernel_rfl) (by kernel_rfl) (by kernel_rfl) .releaseMerge (by kernel_rfl) a w
theorem bd_50_  : ∀ w, (Instr.build 50 ([] : List (Nat × Value)).toArray).run PP w = .ok (.agg (⟨⟩ : S_sync_noCopy).cells.toArray) w := fun w => by kernel_rfl
theorem bl_38_1_0 (y0 : Int) : ∀ w, (Instr.buildSlice 38 1 ([(0, (.int .i64 y0))] : List (Nat × Value)).toArray).run PP w = .ok (.slice (some ⟨w.heap.size, 0, none⟩) 1 1) { w with heap := w.heap.push (.cells #[(.int .i64 y0)] ty_3) } := fun w => by kernel_rfl
theorem bd_40_0_1_2_3 (y0 : Int) (y1 : Int) (y2 : Sl) (y3 : Sl) : ∀ w, (Instr.build 40 ([(0, (.int .i64 y0)), (1, (.int .i64 y1)), (2, y2.enc), (3, y3.enc)] : List (Nat × Value)).toArray).run PP w = .ok (.agg (⟨y0, y1, y2, y3, (⟨none, 0, 0⟩ : Sl), (⟨none, 0, 0⟩ : Sl), false⟩ : S_spateref9_Book).cells.toArray) w := fun w => by kernel_rfl
theorem bd_59_0 (y0 : Option Nat) : ∀ w, (Instr.build 59 ([(0, (.map y0))] : List (Nat × Value)).toArray).run PP w = .ok (.agg (⟨y0, 0⟩ : S_epoch_owner).cells.toArray) w := fun w => by kernel_rfl
theorem bl_38_0_  : ∀ w, (Instr.buildSlice 38 0 ([] : List (Nat × Value)).toArray).run PP w = .ok (.slice (some ⟨w.heap.size, 0, none⟩) 0 0) { w with heap := w.heap.push (.cells #[] ty_3) } := fun w => by kernel_rfl
theorem clone_52 : CloneF PP 52 := cloneF_of Tryz.func52 (by kernel_rfl) (by kernel_rfl) (by kernel_rfl) (by kernel_rfl)
theorem bd_62_1_2_4_5 (y1 : Int) (y2 : Int) (y4 : Option Nat) (y5 : Bool) : ∀ w, (Instr.build 62 ([(1, (.int .i64 y1)), (2, (.int .i64 y2)), (4, (.map y4)), (5, (.bool y5))] : List (Nat × Value)).toArray).run PP w = .ok (.agg (⟨(⟨(⟨⟩ : S_sync_noCopy), (⟨0, 0⟩ : S_sync_Mutex)⟩ : S_sync_Mutex_55), y1, y2, (List.replicate 65 (⟨none, 0⟩ : S_epoch_owner)), y4, y5⟩ : S_epoch_Book).cells.toArray) w := fun w => by kernel_rfl
theorem bd_59_0_1 (y0 : Option Nat) (y1 : Int) : ∀ w, (Instr.build 59 ([(0, (.map y0)), (1, (.int .i64 y1))] : List (Nat × Value)).toArray).run PP w = .ok (.agg (⟨y0, y1⟩ : S_epoch_owner).cells.toArray) w := fun w => by kernel_rfl

end Go.Proofs.YtgcmojbajjajgaaGreat.V
