/- Printed by a program of this session (gen.py): for each Go function a Lean function over the heap, and that the Go code does what it says; no condition. -/
import Derived.Test.YtapomjhjpejimaaVn
import Derived.Test.YtapomjhjpejimaaProg
namespace Go.Proofs.Ytapomjhjpejimaa.V
open Go
set_option linter.unusedVariables false
set_option maxRecDepth 100000
noncomputable abbrev PP : Program := Try.prog
theorem mixed : PP.follows .mixedOrders = true := by kernel_rfl
theorem one1 {u : Value} (h : u.oneCell' = true) : ∀ v ∈ [u], v.oneCell' = true := by intro v hv; simp at hv; subst hv; exact h
theorem ones_app {a b : List Value} (ha : ∀ v ∈ a, v.oneCell' = true) (hb : ∀ v ∈ b, v.oneCell' = true) : ∀ v ∈ a ++ b, v.oneCell' = true := fun v hv => (List.mem_append.1 hv).elim (ha v) (hb v)
structure S_chain_Chain_int where
  l : Sl
def S_chain_Chain_int.cells (x : S_chain_Chain_int) : List Value := [x.l.enc]
def ld_S_chain_Chain_int (h : H) (a : Addr) (K : S_chain_Chain_int → Prop) : Prop := ∃ x : S_chain_Chain_int, Cells h a x.cells ∧ K x
theorem ones_S_chain_Chain_int (x : S_chain_Chain_int) : ∀ v ∈ x.cells, v.oneCell' = true := one1 rfl
structure S_chain_version_int where
  epoch : Int
  value : Int
  dead : Bool
def S_chain_version_int.cells (x : S_chain_version_int) : List Value := [(.int .i64 x.epoch)] ++ [(.int .i64 x.value)] ++ [(.bool x.dead)]
def ld_S_chain_version_int (h : H) (a : Addr) (K : S_chain_version_int → Prop) : Prop := ∃ x : S_chain_version_int, Cells h a x.cells ∧ K x
theorem ones_S_chain_version_int (x : S_chain_version_int) : ∀ v ∈ x.cells, v.oneCell' = true := ones_app (ones_app (one1 rfl) (one1 rfl)) (one1 rfl)
structure S_spatelaw5_Step where
  Kind : Int
  A : Int
  B : Int
  L : Sl
def S_spatelaw5_Step.cells (x : S_spatelaw5_Step) : List Value := [(.int .i64 x.Kind)] ++ [(.int .i64 x.A)] ++ [(.int .i64 x.B)] ++ [x.L.enc]
def ld_S_spatelaw5_Step (h : H) (a : Addr) (K : S_spatelaw5_Step → Prop) : Prop := ∃ x : S_spatelaw5_Step, Cells h a x.cells ∧ K x
theorem ones_S_spatelaw5_Step (x : S_spatelaw5_Step) : ∀ v ∈ x.cells, v.oneCell' = true := ones_app (ones_app (ones_app (one1 rfl) (one1 rfl)) (one1 rfl)) (one1 rfl)
structure S_chain_Chain_spatelaw5_Wide where
  l : Sl
def S_chain_Chain_spatelaw5_Wide.cells (x : S_chain_Chain_spatelaw5_Wide) : List Value := [x.l.enc]
def ld_S_chain_Chain_spatelaw5_Wide (h : H) (a : Addr) (K : S_chain_Chain_spatelaw5_Wide → Prop) : Prop := ∃ x : S_chain_Chain_spatelaw5_Wide, Cells h a x.cells ∧ K x
theorem ones_S_chain_Chain_spatelaw5_Wide (x : S_chain_Chain_spatelaw5_Wide) : ∀ v ∈ x.cells, v.oneCell' = true := one1 rfl
structure S_spateref5_Chain where
  L : Sl
def S_spateref5_Chain.cells (x : S_spateref5_Chain) : List Value := [x.L.enc]
def ld_S_spateref5_Chain (h : H) (a : Addr) (K : S_spateref5_Chain → Prop) : Prop := ∃ x : S_spateref5_Chain, Cells h a x.cells ∧ K x
theorem ones_S_spateref5_Chain (x : S_spateref5_Chain) : ∀ v ∈ x.cells, v.oneCell' = true := one1 rfl
structure S_spatelaw5_World where
  A : Option Addr
  B : Option Addr
  R : Option Addr
def S_spatelaw5_World.cells (x : S_spatelaw5_World) : List Value := [(.pointer x.A)] ++ [(.pointer x.B)] ++ [(.pointer x.R)]
def ld_S_spatelaw5_World (h : H) (a : Addr) (K : S_spatelaw5_World → Prop) : Prop := ∃ x : S_spatelaw5_World, Cells h a x.cells ∧ K x
theorem ones_S_spatelaw5_World (x : S_spatelaw5_World) : ∀ v ∈ x.cells, v.oneCell' = true := ones_app (ones_app (one1 rfl) (one1 rfl)) (one1 rfl)
structure S_spatelaw5_Wide where
  N : Int
  S : ByteArray
def S_spatelaw5_Wide.cells (x : S_spatelaw5_Wide) : List Value := [(.int .i64 x.N)] ++ [(.string x.S)]
def ld_S_spatelaw5_Wide (h : H) (a : Addr) (K : S_spatelaw5_Wide → Prop) : Prop := ∃ x : S_spatelaw5_Wide, Cells h a x.cells ∧ K x
theorem ones_S_spatelaw5_Wide (x : S_spatelaw5_Wide) : ∀ v ∈ x.cells, v.oneCell' = true := ones_app (one1 rfl) (one1 rfl)
structure S_chain_version_spatelaw5_Wide where
  epoch : Int
  value : S_spatelaw5_Wide
  dead : Bool
def S_chain_version_spatelaw5_Wide.cells (x : S_chain_version_spatelaw5_Wide) : List Value := [(.int .i64 x.epoch)] ++ x.value.cells ++ [(.bool x.dead)]
def ld_S_chain_version_spatelaw5_Wide (h : H) (a : Addr) (K : S_chain_version_spatelaw5_Wide → Prop) : Prop := ∃ x : S_chain_version_spatelaw5_Wide, Cells h a x.cells ∧ K x
theorem ones_S_chain_version_spatelaw5_Wide (x : S_chain_version_spatelaw5_Wide) : ∀ v ∈ x.cells, v.oneCell' = true := ones_app (ones_app (one1 rfl) (ones_S_spatelaw5_Wide _)) (one1 rfl)
structure S_spateref5_Version where
  Epoch : Int
  V_ : Int
  Is : Bool
def S_spateref5_Version.cells (x : S_spateref5_Version) : List Value := [(.int .i64 x.Epoch)] ++ [(.int .i64 x.V_)] ++ [(.bool x.Is)]
def ld_S_spateref5_Version (h : H) (a : Addr) (K : S_spateref5_Version → Prop) : Prop := ∃ x : S_spateref5_Version, Cells h a x.cells ∧ K x
theorem ones_S_spateref5_Version (x : S_spateref5_Version) : ∀ v ∈ x.cells, v.oneCell' = true := ones_app (ones_app (one1 rfl) (one1 rfl)) (one1 rfl)
abbrev ty_3 : TypeId := 3
abbrev ty_4 : TypeId := 4
abbrev ty_5 : TypeId := 5
abbrev ty_23 : TypeId := 23
abbrev ty_24 : TypeId := 24
abbrev ty_25 : TypeId := 25
abbrev ty_45 : TypeId := 45
abbrev ty_50 : TypeId := 50
abbrev ty_56 : TypeId := 56
abbrev ty_60 : TypeId := 60
abbrev ty_64 : TypeId := 64
abbrev ty_66 : TypeId := 66
abbrev ty_72 : TypeId := 72
abbrev ty_74 : TypeId := 74
abbrev ty_76 : TypeId := 76
abbrev ty_84 : TypeId := 84
abbrev ty_86 : TypeId := 86
abbrev ty_89 : TypeId := 89
abbrev ty_103 : TypeId := 103
theorem fo_50_0 : ∀ w, Sem.run PP (do match (#[({ name := "Kind", type := 3, offset := 0, embedded := false, tag := "", pkgPath := "", byteOffset := 0 } : Field), ({ name := "A", type := 3, offset := 1, embedded := false, tag := "", pkgPath := "", byteOffset := 8 } : Field), ({ name := "B", type := 3, offset := 2, embedded := false, tag := "", pkgPath := "", byteOffset := 16 } : Field), ({ name := "L", type := 24, offset := 3, embedded := false, tag := "", pkgPath := "", byteOffset := 24 } : Field)])[0]? with | some fd => (do pure (fd.offset, (← sizeOf fd.type) != 0)) | none => pure (0, false) : Sem (Nat × Bool)) w = .ok (0, true) w := fun w => by kernel_rfl
theorem fo_50_1 : ∀ w, Sem.run PP (do match (#[({ name := "Kind", type := 3, offset := 0, embedded := false, tag := "", pkgPath := "", byteOffset := 0 } : Field), ({ name := "A", type := 3, offset := 1, embedded := false, tag := "", pkgPath := "", byteOffset := 8 } : Field), ({ name := "B", type := 3, offset := 2, embedded := false, tag := "", pkgPath := "", byteOffset := 16 } : Field), ({ name := "L", type := 24, offset := 3, embedded := false, tag := "", pkgPath := "", byteOffset := 24 } : Field)])[1]? with | some fd => (do pure (fd.offset, (← sizeOf fd.type) != 0)) | none => pure (0, false) : Sem (Nat × Bool)) w = .ok (1, true) w := fun w => by kernel_rfl
theorem fo_50_2 : ∀ w, Sem.run PP (do match (#[({ name := "Kind", type := 3, offset := 0, embedded := false, tag := "", pkgPath := "", byteOffset := 0 } : Field), ({ name := "A", type := 3, offset := 1, embedded := false, tag := "", pkgPath := "", byteOffset := 8 } : Field), ({ name := "B", type := 3, offset := 2, embedded := false, tag := "", pkgPath := "", byteOffset := 16 } : Field), ({ name := "L", type := 24, offset := 3, embedded := false, tag := "", pkgPath := "", byteOffset := 24 } : Field)])[2]? with | some fd => (do pure (fd.offset, (← sizeOf fd.type) != 0)) | none => pure (0, false) : Sem (Nat × Bool)) w = .ok (2, true) w := fun w => by kernel_rfl
theorem fo_50_3 : ∀ w, Sem.run PP (do match (#[({ name := "Kind", type := 3, offset := 0, embedded := false, tag := "", pkgPath := "", byteOffset := 0 } : Field), ({ name := "A", type := 3, offset := 1, embedded := false, tag := "", pkgPath := "", byteOffset := 8 } : Field), ({ name := "B", type := 3, offset := 2, embedded := false, tag := "", pkgPath := "", byteOffset := 16 } : Field), ({ name := "L", type := 24, offset := 3, embedded := false, tag := "", pkgPath := "", byteOffset := 24 } : Field)])[3]? with | some fd => (do pure (fd.offset, (← sizeOf fd.type) != 0)) | none => pure (0, false) : Sem (Nat × Bool)) w = .ok (3, true) w := fun w => by kernel_rfl
theorem fo_60_0 : ∀ w, Sem.run PP (do match (#[({ name := "N", type := 3, offset := 0, embedded := false, tag := "", pkgPath := "", byteOffset := 0 } : Field), ({ name := "S", type := 9, offset := 1, embedded := false, tag := "", pkgPath := "", byteOffset := 8 } : Field)])[0]? with | some fd => (do pure (fd.offset, (← sizeOf fd.type) != 0)) | none => pure (0, false) : Sem (Nat × Bool)) w = .ok (0, true) w := fun w => by kernel_rfl
theorem fo_64_0 : ∀ w, Sem.run PP (do match (#[({ name := "L", type := 62, offset := 0, embedded := false, tag := "", pkgPath := "", byteOffset := 0 } : Field)])[0]? with | some fd => (do pure (fd.offset, (← sizeOf fd.type) != 0)) | none => pure (0, false) : Sem (Nat × Bool)) w = .ok (0, true) w := fun w => by kernel_rfl
theorem fo_66_0 : ∀ w, Sem.run PP (do match (#[({ name := "A", type := 25, offset := 0, embedded := false, tag := "", pkgPath := "", byteOffset := 0 } : Field), ({ name := "B", type := 57, offset := 1, embedded := false, tag := "", pkgPath := "", byteOffset := 8 } : Field), ({ name := "R", type := 61, offset := 2, embedded := false, tag := "", pkgPath := "", byteOffset := 16 } : Field)])[0]? with | some fd => (do pure (fd.offset, (← sizeOf fd.type) != 0)) | none => pure (0, false) : Sem (Nat × Bool)) w = .ok (0, true) w := fun w => by kernel_rfl
theorem fo_66_1 : ∀ w, Sem.run PP (do match (#[({ name := "A", type := 25, offset := 0, embedded := false, tag := "", pkgPath := "", byteOffset := 0 } : Field), ({ name := "B", type := 57, offset := 1, embedded := false, tag := "", pkgPath := "", byteOffset := 8 } : Field), ({ name := "R", type := 61, offset := 2, embedded := false, tag := "", pkgPath := "", byteOffset := 16 } : Field)])[1]? with | some fd => (do pure (fd.offset, (← sizeOf fd.type) != 0)) | none => pure (0, false) : Sem (Nat × Bool)) w = .ok (1, true) w := fun w => by kernel_rfl
theorem fo_66_2 : ∀ w, Sem.run PP (do match (#[({ name := "A", type := 25, offset := 0, embedded := false, tag := "", pkgPath := "", byteOffset := 0 } : Field), ({ name := "B", type := 57, offset := 1, embedded := false, tag := "", pkgPath := "", byteOffset := 8 } : Field), ({ name := "R", type := 61, offset := 2, embedded := false, tag := "", pkgPath := "", byteOffset := 16 } : Field)])[2]? with | some fd => (do pure (fd.offset, (← sizeOf fd.type) != 0)) | none => pure (0, false) : Sem (Nat × Bool)) w = .ok (2, true) w := fun w => by kernel_rfl
theorem fo_74_0 : ∀ w, Sem.run PP (do match (#[({ name := "l", type := 72, offset := 0, embedded := false, tag := "", pkgPath := "spate/chain", byteOffset := 0 } : Field)])[0]? with | some fd => (do pure (fd.offset, (← sizeOf fd.type) != 0)) | none => pure (0, false) : Sem (Nat × Bool)) w = .ok (0, true) w := fun w => by kernel_rfl
theorem fo_76_0 : ∀ w, Sem.run PP (do match (#[({ name := "epoch", type := 3, offset := 0, embedded := false, tag := "", pkgPath := "spate/chain", byteOffset := 0 } : Field), ({ name := "value", type := 3, offset := 1, embedded := false, tag := "", pkgPath := "spate/chain", byteOffset := 8 } : Field), ({ name := "dead", type := 4, offset := 2, embedded := false, tag := "", pkgPath := "spate/chain", byteOffset := 16 } : Field)])[0]? with | some fd => (do pure (fd.offset, (← sizeOf fd.type) != 0)) | none => pure (0, false) : Sem (Nat × Bool)) w = .ok (0, true) w := fun w => by kernel_rfl
theorem fo_76_1 : ∀ w, Sem.run PP (do match (#[({ name := "epoch", type := 3, offset := 0, embedded := false, tag := "", pkgPath := "spate/chain", byteOffset := 0 } : Field), ({ name := "value", type := 3, offset := 1, embedded := false, tag := "", pkgPath := "spate/chain", byteOffset := 8 } : Field), ({ name := "dead", type := 4, offset := 2, embedded := false, tag := "", pkgPath := "spate/chain", byteOffset := 16 } : Field)])[1]? with | some fd => (do pure (fd.offset, (← sizeOf fd.type) != 0)) | none => pure (0, false) : Sem (Nat × Bool)) w = .ok (1, true) w := fun w => by kernel_rfl
theorem fo_76_2 : ∀ w, Sem.run PP (do match (#[({ name := "epoch", type := 3, offset := 0, embedded := false, tag := "", pkgPath := "spate/chain", byteOffset := 0 } : Field), ({ name := "value", type := 3, offset := 1, embedded := false, tag := "", pkgPath := "spate/chain", byteOffset := 8 } : Field), ({ name := "dead", type := 4, offset := 2, embedded := false, tag := "", pkgPath := "spate/chain", byteOffset := 16 } : Field)])[2]? with | some fd => (do pure (fd.offset, (← sizeOf fd.type) != 0)) | none => pure (0, false) : Sem (Nat × Bool)) w = .ok (2, true) w := fun w => by kernel_rfl
theorem fo_86_0 : ∀ w, Sem.run PP (do match (#[({ name := "l", type := 84, offset := 0, embedded := false, tag := "", pkgPath := "spate/chain", byteOffset := 0 } : Field)])[0]? with | some fd => (do pure (fd.offset, (← sizeOf fd.type) != 0)) | none => pure (0, false) : Sem (Nat × Bool)) w = .ok (0, true) w := fun w => by kernel_rfl
theorem fo_89_0 : ∀ w, Sem.run PP (do match (#[({ name := "Epoch", type := 3, offset := 0, embedded := false, tag := "", pkgPath := "", byteOffset := 0 } : Field), ({ name := "V", type := 3, offset := 1, embedded := false, tag := "", pkgPath := "", byteOffset := 8 } : Field), ({ name := "Is", type := 4, offset := 2, embedded := false, tag := "", pkgPath := "", byteOffset := 16 } : Field)])[0]? with | some fd => (do pure (fd.offset, (← sizeOf fd.type) != 0)) | none => pure (0, false) : Sem (Nat × Bool)) w = .ok (0, true) w := fun w => by kernel_rfl
theorem fo_89_1 : ∀ w, Sem.run PP (do match (#[({ name := "Epoch", type := 3, offset := 0, embedded := false, tag := "", pkgPath := "", byteOffset := 0 } : Field), ({ name := "V", type := 3, offset := 1, embedded := false, tag := "", pkgPath := "", byteOffset := 8 } : Field), ({ name := "Is", type := 4, offset := 2, embedded := false, tag := "", pkgPath := "", byteOffset := 16 } : Field)])[1]? with | some fd => (do pure (fd.offset, (← sizeOf fd.type) != 0)) | none => pure (0, false) : Sem (Nat × Bool)) w = .ok (1, true) w := fun w => by kernel_rfl
theorem fo_89_2 : ∀ w, Sem.run PP (do match (#[({ name := "Epoch", type := 3, offset := 0, embedded := false, tag := "", pkgPath := "", byteOffset := 0 } : Field), ({ name := "V", type := 3, offset := 1, embedded := false, tag := "", pkgPath := "", byteOffset := 8 } : Field), ({ name := "Is", type := 4, offset := 2, embedded := false, tag := "", pkgPath := "", byteOffset := 16 } : Field)])[2]? with | some fd => (do pure (fd.offset, (← sizeOf fd.type) != 0)) | none => pure (0, false) : Sem (Nat × Bool)) w = .ok (2, true) w := fun w => by kernel_rfl
theorem fo_103_0 : ∀ w, Sem.run PP (do match (#[({ name := "epoch", type := 3, offset := 0, embedded := false, tag := "", pkgPath := "spate/chain", byteOffset := 0 } : Field), ({ name := "value", type := 60, offset := 1, embedded := false, tag := "", pkgPath := "spate/chain", byteOffset := 8 } : Field), ({ name := "dead", type := 4, offset := 3, embedded := false, tag := "", pkgPath := "spate/chain", byteOffset := 32 } : Field)])[0]? with | some fd => (do pure (fd.offset, (← sizeOf fd.type) != 0)) | none => pure (0, false) : Sem (Nat × Bool)) w = .ok (0, true) w := fun w => by kernel_rfl
theorem fo_103_1 : ∀ w, Sem.run PP (do match (#[({ name := "epoch", type := 3, offset := 0, embedded := false, tag := "", pkgPath := "spate/chain", byteOffset := 0 } : Field), ({ name := "value", type := 60, offset := 1, embedded := false, tag := "", pkgPath := "spate/chain", byteOffset := 8 } : Field), ({ name := "dead", type := 4, offset := 3, embedded := false, tag := "", pkgPath := "spate/chain", byteOffset := 32 } : Field)])[1]? with | some fd => (do pure (fd.offset, (← sizeOf fd.type) != 0)) | none => pure (0, false) : Sem (Nat × Bool)) w = .ok (1, true) w := fun w => by kernel_rfl
theorem fo_103_2 : ∀ w, Sem.run PP (do match (#[({ name := "epoch", type := 3, offset := 0, embedded := false, tag := "", pkgPath := "spate/chain", byteOffset := 0 } : Field), ({ name := "value", type := 60, offset := 1, embedded := false, tag := "", pkgPath := "spate/chain", byteOffset := 8 } : Field), ({ name := "dead", type := 4, offset := 3, embedded := false, tag := "", pkgPath := "spate/chain", byteOffset := 32 } : Field)])[2]? with | some fd => (do pure (fd.offset, (← sizeOf fd.type) != 0)) | none => pure (0, false) : Sem (Nat × Bool)) w = .ok (3, true) w := fun w => by kernel_rfl
theorem bd_74_  : ∀ w, (Instr.build 74 ([] : List (Nat × Value)).toArray).run PP w = .ok (.agg (⟨(⟨none, 0, 0⟩ : Sl)⟩ : S_chain_Chain_int).cells.toArray) w := fun w => by kernel_rfl
theorem bd_76_0_1 (y0 : Int) (y1 : Int) : ∀ w, (Instr.build 76 ([(0, (.int .i64 y0)), (1, (.int .i64 y1))] : List (Nat × Value)).toArray).run PP w = .ok (.agg (⟨y0, y1, false⟩ : S_chain_version_int).cells.toArray) w := fun w => by kernel_rfl
theorem bl_72_1_0 (y0 : S_chain_version_int) : ∀ w, (Instr.buildSlice 72 1 ([(0, (.agg y0.cells.toArray))] : List (Nat × Value)).toArray).run PP w = .ok (.slice (some ⟨w.heap.size, 0, none⟩) 1 1) { w with heap := w.heap.push (.cells ((y0.cells).toArray) ty_76) } := fun w => by kernel_rfl
theorem bl_72_0_  : ∀ w, (Instr.buildSlice 72 0 ([] : List (Nat × Value)).toArray).run PP w = .ok (.slice (some ⟨w.heap.size, 0, none⟩) 0 0) { w with heap := w.heap.push (.cells (([]).toArray) ty_76) } := fun w => by kernel_rfl
theorem bd_76_0_2 (y0 : Int) (y2 : Bool) : ∀ w, (Instr.build 76 ([(0, (.int .i64 y0)), (2, (.bool y2))] : List (Nat × Value)).toArray).run PP w = .ok (.agg (⟨y0, 0, y2⟩ : S_chain_version_int).cells.toArray) w := fun w => by kernel_rfl
theorem bl_24_3_0_1_2 (y0 : Int) (y1 : Int) (y2 : Int) : ∀ w, (Instr.buildSlice 24 3 ([(0, (.int .i64 y0)), (1, (.int .i64 y1)), (2, (.int .i64 y2))] : List (Nat × Value)).toArray).run PP w = .ok (.slice (some ⟨w.heap.size, 0, none⟩) 3 3) { w with heap := w.heap.push (.cells #[(.int .i64 y0), (.int .i64 y1), (.int .i64 y2)] ty_3) } := fun w => by kernel_rfl
theorem bl_24_2_0_1 (y0 : Int) (y1 : Int) : ∀ w, (Instr.buildSlice 24 2 ([(0, (.int .i64 y0)), (1, (.int .i64 y1))] : List (Nat × Value)).toArray).run PP w = .ok (.slice (some ⟨w.heap.size, 0, none⟩) 2 2) { w with heap := w.heap.push (.cells #[(.int .i64 y0), (.int .i64 y1)] ty_3) } := fun w => by kernel_rfl
theorem bl_24_1_0 (y0 : Int) : ∀ w, (Instr.buildSlice 24 1 ([(0, (.int .i64 y0))] : List (Nat × Value)).toArray).run PP w = .ok (.slice (some ⟨w.heap.size, 0, none⟩) 1 1) { w with heap := w.heap.push (.cells #[(.int .i64 y0)] ty_3) } := fun w => by kernel_rfl
theorem bl_24_0_  : ∀ w, (Instr.buildSlice 24 0 ([] : List (Nat × Value)).toArray).run PP w = .ok (.slice (some ⟨w.heap.size, 0, none⟩) 0 0) { w with heap := w.heap.push (.cells #[] ty_3) } := fun w => by kernel_rfl
theorem bd_86_  : ∀ w, (Instr.build 86 ([] : List (Nat × Value)).toArray).run PP w = .ok (.agg (⟨(⟨none, 0, 0⟩ : Sl)⟩ : S_chain_Chain_spatelaw5_Wide).cells.toArray) w := fun w => by kernel_rfl
theorem bd_64_  : ∀ w, (Instr.build 64 ([] : List (Nat × Value)).toArray).run PP w = .ok (.agg (⟨(⟨none, 0, 0⟩ : Sl)⟩ : S_spateref5_Chain).cells.toArray) w := fun w => by kernel_rfl
theorem bd_66_0_1_2 (y0 : Option Addr) (y1 : Option Addr) (y2 : Option Addr) : ∀ w, (Instr.build 66 ([(0, (.pointer y0)), (1, (.pointer y1)), (2, (.pointer y2))] : List (Nat × Value)).toArray).run PP w = .ok (.agg (⟨y0, y1, y2⟩ : S_spatelaw5_World).cells.toArray) w := fun w => by kernel_rfl
theorem bl_108_2_0_1 (y0 : Int) (y1 : Int) : ∀ w, (Instr.buildSlice 108 2 ([(0, (.int .u8 y0)), (1, (.int .u8 y1))] : List (Nat × Value)).toArray).run PP w = .ok (.slice (some ⟨w.heap.size, 0, none⟩) 2 2) { w with heap := w.heap.push (.cells #[(.int .u8 y0), (.int .u8 y1)] ty_5) } := fun w => by kernel_rfl
theorem bd_60_0_1 (y0 : Int) (y1 : ByteArray) : ∀ w, (Instr.build 60 ([(0, (.int .i64 y0)), (1, (.string y1))] : List (Nat × Value)).toArray).run PP w = .ok (.agg (⟨y0, y1⟩ : S_spatelaw5_Wide).cells.toArray) w := fun w => by kernel_rfl
theorem bd_103_0_1 (y0 : Int) (y1 : S_spatelaw5_Wide) : ∀ w, (Instr.build 103 ([(0, (.int .i64 y0)), (1, (.agg y1.cells.toArray))] : List (Nat × Value)).toArray).run PP w = .ok (.agg (⟨y0, y1, false⟩ : S_chain_version_spatelaw5_Wide).cells.toArray) w := fun w => by kernel_rfl
theorem bl_84_1_0 (y0 : S_chain_version_spatelaw5_Wide) : ∀ w, (Instr.buildSlice 84 1 ([(0, (.agg y0.cells.toArray))] : List (Nat × Value)).toArray).run PP w = .ok (.slice (some ⟨w.heap.size, 0, none⟩) 1 1) { w with heap := w.heap.push (.cells ((y0.cells).toArray) ty_103) } := fun w => by kernel_rfl
theorem bd_89_  : ∀ w, (Instr.build 89 ([] : List (Nat × Value)).toArray).run PP w = .ok (.agg (⟨0, 0, false⟩ : S_spateref5_Version).cells.toArray) w := fun w => by kernel_rfl
theorem fl_89_0 (x : S_spateref5_Version) : ∀ w, (Instr.field 89 (.agg x.cells.toArray) 0).run PP w = .ok (.int .i64 x.Epoch) w := fun w => by kernel_rfl
theorem bd_89_0_1_2 (y0 : Int) (y1 : Int) (y2 : Bool) : ∀ w, (Instr.build 89 ([(0, (.int .i64 y0)), (1, (.int .i64 y1)), (2, (.bool y2))] : List (Nat × Value)).toArray).run PP w = .ok (.agg (⟨y0, y1, y2⟩ : S_spateref5_Version).cells.toArray) w := fun w => by kernel_rfl
theorem bl_62_1_0 (y0 : S_spateref5_Version) : ∀ w, (Instr.buildSlice 62 1 ([(0, (.agg y0.cells.toArray))] : List (Nat × Value)).toArray).run PP w = .ok (.slice (some ⟨w.heap.size, 0, none⟩) 1 1) { w with heap := w.heap.push (.cells ((y0.cells).toArray) ty_89) } := fun w => by kernel_rfl
theorem bd_103_0_2 (y0 : Int) (y2 : Bool) : ∀ w, (Instr.build 103 ([(0, (.int .i64 y0)), (2, (.bool y2))] : List (Nat × Value)).toArray).run PP w = .ok (.agg (⟨y0, (⟨0, (⟨#[]⟩ : ByteArray)⟩ : S_spatelaw5_Wide), y2⟩ : S_chain_version_spatelaw5_Wide).cells.toArray) w := fun w => by kernel_rfl
theorem fl_89_2 (x : S_spateref5_Version) : ∀ w, (Instr.field 89 (.agg x.cells.toArray) 2).run PP w = .ok (.bool x.Is) w := fun w => by kernel_rfl
theorem bd_89_0 (y0 : Int) : ∀ w, (Instr.build 89 ([(0, (.int .i64 y0))] : List (Nat × Value)).toArray).run PP w = .ok (.agg (⟨y0, 0, false⟩ : S_spateref5_Version).cells.toArray) w := fun w => by kernel_rfl
theorem eqg_60 : PP.eqGuardType PP.depth 60 = false := by kernel_rfl
theorem eqst_60 (x y : S_spatelaw5_Wide) (n : Nat) (w : World) : (Op.equalIn (n + 2) 60 (.agg x.cells.toArray) (.agg y.cells.toArray)).run PP w = .ok ((x.N == y.N) && ((x.S.toList == y.S.toList) && true)) w := by
  rw [run_equalIn_agg w (n + 1) 60 _ _ (by kernel_rfl) (by kernel_rfl), show (PP.fieldsOf 60).toList = (#[({ name := "N", type := 3, offset := 0, embedded := false, tag := "", pkgPath := "", byteOffset := 0 } : Field), ({ name := "S", type := 9, offset := 1, embedded := false, tag := "", pkgPath := "", byteOffset := 8 } : Field)]).toList from by kernel_rfl]
  exact eqF_cons (a := (.int .i64 x.N)) (b := (.int .i64 y.N)) (by decide) (by kernel_rfl) (by kernel_rfl) (run_equalIn_int w n 3 .i64 .i64 _ _ (by kernel_rfl)) (eqF_cons (a := (.string x.S)) (b := (.string y.S)) (by decide) (by kernel_rfl) (by kernel_rfl) (run_equalIn_string w n 9 _ _ (by kernel_rfl)) (eqF_nil w))
theorem bd_60_  : ∀ w, (Instr.build 60 ([] : List (Nat × Value)).toArray).run PP w = .ok (.agg (⟨0, (⟨#[]⟩ : ByteArray)⟩ : S_spatelaw5_Wide).cells.toArray) w := fun w => by kernel_rfl
theorem bl_84_0_  : ∀ w, (Instr.buildSlice 84 0 ([] : List (Nat × Value)).toArray).run PP w = .ok (.slice (some ⟨w.heap.size, 0, none⟩) 0 0) { w with heap := w.heap.push (.cells (([]).toArray) ty_103) } := fun w => by kernel_rfl
theorem bd_74_0 (y0 : Sl) : ∀ w, (Instr.build 74 ([(0, y0.enc)] : List (Nat × Value)).toArray).run PP w = .ok (.agg (⟨y0⟩ : S_chain_Chain_int).cells.toArray) w := fun w => by kernel_rfl
theorem bd_86_0 (y0 : Sl) : ∀ w, (Instr.build 86 ([(0, y0.enc)] : List (Nat × Value)).toArray).run PP w = .ok (.agg (⟨y0⟩ : S_chain_Chain_spatelaw5_Wide).cells.toArray) w := fun w => by kernel_rfl

end Go.Proofs.Ytapomjhjpejimaa.V
