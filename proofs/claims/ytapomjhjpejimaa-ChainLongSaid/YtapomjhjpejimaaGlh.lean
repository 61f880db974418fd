/- Printed by a program of this session (gen.py): for each Go function a Lean function over the heap, and that the Go code does what it says; no condition. -/
import Derived.Test.YtapomjhjpejimaaVf
import Derived.Test.YtapomjhjpejimaaProg
namespace Go.Proofs.Ytapomjhjpejimaa.V
open Go
set_option linter.unusedVariables false
set_option maxRecDepth 100000
noncomputable abbrev PP : Program := Try.prog
theorem mixed : PP.follows .mixedOrders = true := by kernel_rfl
theorem one1 {u : Value} (h : u.oneCell' = true) : ∀ v ∈ [u], v.oneCell' = true := by intro v hv; simp at hv; subst hv; exact h
theorem ones_app {a b : List Value} (ha : ∀ v ∈ a, v.oneCell' = true) (hb : ∀ v ∈ b, v.oneCell' = true) : ∀ v ∈ a ++ b, v.oneCell' = true := fun v hv => (List.mem_append.1 hv).elim (ha v) (hb v)
structure S_chain_Chain_int where
  l : Sl
def S_chain_Chain_int.cells (x : S_chain_Chain_int) : List Value := [x.l.enc]
def ld_S_chain_Chain_int (h : H) (a : Addr) (K : S_chain_Chain_int → Prop) : Prop := ∃ x : S_chain_Chain_int, Cells h a x.cells ∧ K x
theorem ones_S_chain_Chain_int (x : S_chain_Chain_int) : ∀ v ∈ x.cells, v.oneCell' = true := one1 rfl
structure S_chain_version_int where
  epoch : Int
  value : Int
  dead : Bool
def S_chain_version_int.cells (x : S_chain_version_int) : List Value := [(.int .i64 x.epoch)] ++ [(.int .i64 x.value)] ++ [(.bool x.dead)]
def ld_S_chain_version_int (h : H) (a : Addr) (K : S_chain_version_int → Prop) : Prop := ∃ x : S_chain_version_int, Cells h a x.cells ∧ K x
theorem ones_S_chain_version_int (x : S_chain_version_int) : ∀ v ∈ x.cells, v.oneCell' = true := ones_app (ones_app (one1 rfl) (one1 rfl)) (one1 rfl)
abbrev ty_3 : TypeId := 3
abbrev ty_72 : TypeId := 72
abbrev ty_74 : TypeId := 74
abbrev ty_76 : TypeId := 76
theorem fo_74_0 : ∀ w, Sem.run PP (do match (#[({ name := "l", type := 72, offset := 0, embedded := false, tag := "", pkgPath := "spate/chain", byteOffset := 0 } : Field)])[0]? with | some fd => (do pure (fd.offset, (← sizeOf fd.type) != 0)) | none => pure (0, false) : Sem (Nat × Bool)) w = .ok (0, true) w := fun w => by kernel_rfl
theorem fo_76_0 : ∀ w, Sem.run PP (do match (#[({ name := "epoch", type := 3, offset := 0, embedded := false, tag := "", pkgPath := "spate/chain", byteOffset := 0 } : Field), ({ name := "value", type := 3, offset := 1, embedded := false, tag := "", pkgPath := "spate/chain", byteOffset := 8 } : Field), ({ name := "dead", type := 4, offset := 2, embedded := false, tag := "", pkgPath := "spate/chain", byteOffset := 16 } : Field)])[0]? with | some fd => (do pure (fd.offset, (← sizeOf fd.type) != 0)) | none => pure (0, false) : Sem (Nat × Bool)) w = .ok (0, true) w := fun w => by kernel_rfl
theorem fo_76_1 : ∀ w, Sem.run PP (do match (#[({ name := "epoch", type := 3, offset := 0, embedded := false, tag := "", pkgPath := "spate/chain", byteOffset := 0 } : Field), ({ name := "value", type := 3, offset := 1, embedded := false, tag := "", pkgPath := "spate/chain", byteOffset := 8 } : Field), ({ name := "dead", type := 4, offset := 2, embedded := false, tag := "", pkgPath := "spate/chain", byteOffset := 16 } : Field)])[1]? with | some fd => (do pure (fd.offset, (← sizeOf fd.type) != 0)) | none => pure (0, false) : Sem (Nat × Bool)) w = .ok (1, true) w := fun w => by kernel_rfl
theorem fo_76_2 : ∀ w, Sem.run PP (do match (#[({ name := "epoch", type := 3, offset := 0, embedded := false, tag := "", pkgPath := "spate/chain", byteOffset := 0 } : Field), ({ name := "value", type := 3, offset := 1, embedded := false, tag := "", pkgPath := "spate/chain", byteOffset := 8 } : Field), ({ name := "dead", type := 4, offset := 2, embedded := false, tag := "", pkgPath := "spate/chain", byteOffset := 16 } : Field)])[2]? with | some fd => (do pure (fd.offset, (← sizeOf fd.type) != 0)) | none => pure (0, false) : Sem (Nat × Bool)) w = .ok (2, true) w := fun w => by kernel_rfl
theorem bd_74_  : ∀ w, (Instr.build 74 ([] : List (Nat × Value)).toArray).run PP w = .ok (.agg (⟨(⟨none, 0, 0⟩ : Sl)⟩ : S_chain_Chain_int).cells.toArray) w := fun w => by kernel_rfl
theorem bd_76_0_1 (y0 : Int) (y1 : Int) : ∀ w, (Instr.build 76 ([(0, (.int .i64 y0)), (1, (.int .i64 y1))] : List (Nat × Value)).toArray).run PP w = .ok (.agg (⟨y0, y1, false⟩ : S_chain_version_int).cells.toArray) w := fun w => by kernel_rfl
theorem bl_72_1_0 (y0 : S_chain_version_int) : ∀ w, (Instr.buildSlice 72 1 ([(0, (.agg y0.cells.toArray))] : List (Nat × Value)).toArray).run PP w = .ok (.slice (some ⟨w.heap.size, 0, none⟩) 1 1) { w with heap := w.heap.push (.cells ((y0.cells).toArray) ty_76) } := fun w => by kernel_rfl
theorem bl_72_0_  : ∀ w, (Instr.buildSlice 72 0 ([] : List (Nat × Value)).toArray).run PP w = .ok (.slice (some ⟨w.heap.size, 0, none⟩) 0 0) { w with heap := w.heap.push (.cells (([]).toArray) ty_76) } := fun w => by kernel_rfl
theorem bd_76_0_2 (y0 : Int) (y2 : Bool) : ∀ w, (Instr.build 76 ([(0, (.int .i64 y0)), (2, (.bool y2))] : List (Nat × Value)).toArray).run PP w = .ok (.agg (⟨y0, 0, y2⟩ : S_chain_version_int).cells.toArray) w := fun w => by kernel_rfl
theorem bl_24_1_0 (y0 : Int) : ∀ w, (Instr.buildSlice 24 1 ([(0, (.int .i64 y0))] : List (Nat × Value)).toArray).run PP w = .ok (.slice (some ⟨w.heap.size, 0, none⟩) 1 1) { w with heap := w.heap.push (.cells #[(.int .i64 y0)] ty_3) } := fun w => by kernel_rfl

end Go.Proofs.Ytapomjhjpejimaa.V
