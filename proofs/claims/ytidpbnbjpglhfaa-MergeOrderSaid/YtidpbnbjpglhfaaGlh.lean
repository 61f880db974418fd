/- Printed by a program of this session (gen.py): for each Go function a Lean function over the heap, and that the Go code does what it says; no condition. -/
import Derived.Test.YtidpbnbjpglhfaaVn
import Derived.Test.YtidpbnbjpglhfaaVq
import Derived.Test.YtidpbnbjpglhfaaProg
namespace Go.Proofs.Ytidpbnbjpglhfaa.V
open Go
set_option linter.unusedVariables false
set_option maxRecDepth 100000
noncomputable abbrev PP : Program := Try.prog
theorem mixed : PP.follows .mixedOrders = true := by kernel_rfl
theorem one1 {u : Value} (h : u.oneCell' = true) : ∀ v ∈ [u], v.oneCell' = true := by intro v hv; simp at hv; subst hv; exact h
theorem ones_app {a b : List Value} (ha : ∀ v ∈ a, v.oneCell' = true) (hb : ∀ v ∈ b, v.oneCell' = true) : ∀ v ∈ a ++ b, v.oneCell' = true := fun v hv => (List.mem_append.1 hv).elim (ha v) (hb v)
structure S_api_Cell where
  View : Int
  Key : ByteArray
  Start : Int
def S_api_Cell.cells (x : S_api_Cell) : List Value := [(.int .i64 x.View)] ++ [(.string x.Key)] ++ [(.int .i64 x.Start)]
def ld_S_api_Cell (h : H) (a : Addr) (K : S_api_Cell → Prop) : Prop := ∃ x : S_api_Cell, Cells h a x.cells ∧ K x
theorem ones_S_api_Cell (x : S_api_Cell) : ∀ v ∈ x.cells, v.oneCell' = true := ones_app (ones_app (one1 rfl) (one1 rfl)) (one1 rfl)
structure S_api_Agg where
  Count : Int
  Sum : Int
  Min : Int
  Max : Int
def S_api_Agg.cells (x : S_api_Agg) : List Value := [(.int .i64 x.Count)] ++ [(.int .i64 x.Sum)] ++ [(.int .i64 x.Min)] ++ [(.int .i64 x.Max)]
def ld_S_api_Agg (h : H) (a : Addr) (K : S_api_Agg → Prop) : Prop := ∃ x : S_api_Agg, Cells h a x.cells ∧ K x
theorem ones_S_api_Agg (x : S_api_Agg) : ∀ v ∈ x.cells, v.oneCell' = true := ones_app (ones_app (ones_app (one1 rfl) (one1 rfl)) (one1 rfl)) (one1 rfl)
structure S_api_Row where
  Cell : S_api_Cell
  Agg : S_api_Agg
def S_api_Row.cells (x : S_api_Row) : List Value := x.Cell.cells ++ x.Agg.cells
def ld_S_api_Row (h : H) (a : Addr) (K : S_api_Row → Prop) : Prop := ∃ x : S_api_Row, Cells h a x.cells ∧ K x
theorem ones_S_api_Row (x : S_api_Row) : ∀ v ∈ x.cells, v.oneCell' = true := ones_app (ones_S_api_Cell _) (ones_S_api_Agg _)
structure S_api_Stats where
  Taken : Int
  Late : Int
  Overflow : Int
  Full : Int
  Cells : Int
  Now : Int
def S_api_Stats.cells (x : S_api_Stats) : List Value := [(.int .i64 x.Taken)] ++ [(.int .i64 x.Late)] ++ [(.int .i64 x.Overflow)] ++ [(.int .i64 x.Full)] ++ [(.int .i64 x.Cells)] ++ [(.int .i64 x.Now)]
def ld_S_api_Stats (h : H) (a : Addr) (K : S_api_Stats → Prop) : Prop := ∃ x : S_api_Stats, Cells h a x.cells ∧ K x
theorem ones_S_api_Stats (x : S_api_Stats) : ∀ v ∈ x.cells, v.oneCell' = true := ones_app (ones_app (ones_app (ones_app (ones_app (one1 rfl) (one1 rfl)) (one1 rfl)) (one1 rfl)) (one1 rfl)) (one1 rfl)
structure S_api_Response where
  Kind : Int
  Id : Int
  Err : Int
  Epoch : Int
  Rows : Sl
  Stats : S_api_Stats
def S_api_Response.cells (x : S_api_Response) : List Value := [(.int .i64 x.Kind)] ++ [(.int .i64 x.Id)] ++ [(.int .i64 x.Err)] ++ [(.int .i64 x.Epoch)] ++ [x.Rows.enc] ++ x.Stats.cells
def ld_S_api_Response (h : H) (a : Addr) (K : S_api_Response → Prop) : Prop := ∃ x : S_api_Response, Cells h a x.cells ∧ K x
theorem ones_S_api_Response (x : S_api_Response) : ∀ v ∈ x.cells, v.oneCell' = true := ones_app (ones_app (ones_app (ones_app (ones_app (one1 rfl) (one1 rfl)) (one1 rfl)) (one1 rfl)) (one1 rfl)) (ones_S_api_Stats _)
structure S_merge_front where
  rows : Sl
  list : Int
def S_merge_front.cells (x : S_merge_front) : List Value := [x.rows.enc] ++ [(.int .i64 x.list)]
def ld_S_merge_front (h : H) (a : Addr) (K : S_merge_front → Prop) : Prop := ∃ x : S_merge_front, Cells h a x.cells ∧ K x
theorem ones_S_merge_front (x : S_merge_front) : ∀ v ∈ x.cells, v.oneCell' = true := ones_app (one1 rfl) (one1 rfl)
abbrev ty_3 : TypeId := 3
abbrev ty_5 : TypeId := 5
abbrev ty_9 : TypeId := 9
abbrev ty_23 : TypeId := 23
abbrev ty_29 : TypeId := 29
abbrev ty_34 : TypeId := 34
abbrev ty_51 : TypeId := 51
abbrev ty_57 : TypeId := 57
abbrev ty_66 : TypeId := 66
abbrev ty_86 : TypeId := 86
abbrev ty_88 : TypeId := 88
theorem fo_34_0 : ∀ w, Sem.run PP (do match (#[({ name := "View", type := 3, offset := 0, embedded := false, tag := "", pkgPath := "", byteOffset := 0 } : Field), ({ name := "Key", type := 9, offset := 1, embedded := false, tag := "", pkgPath := "", byteOffset := 8 } : Field), ({ name := "Start", type := 2, offset := 2, embedded := false, tag := "", pkgPath := "", byteOffset := 24 } : Field)])[0]? with | some fd => (do pure (fd.offset, (← sizeOf fd.type) != 0)) | none => pure (0, false) : Sem (Nat × Bool)) w = .ok (0, true) w := fun w => by kernel_rfl
theorem fo_34_1 : ∀ w, Sem.run PP (do match (#[({ name := "View", type := 3, offset := 0, embedded := false, tag := "", pkgPath := "", byteOffset := 0 } : Field), ({ name := "Key", type := 9, offset := 1, embedded := false, tag := "", pkgPath := "", byteOffset := 8 } : Field), ({ name := "Start", type := 2, offset := 2, embedded := false, tag := "", pkgPath := "", byteOffset := 24 } : Field)])[1]? with | some fd => (do pure (fd.offset, (← sizeOf fd.type) != 0)) | none => pure (0, false) : Sem (Nat × Bool)) w = .ok (1, true) w := fun w => by kernel_rfl
theorem fo_34_2 : ∀ w, Sem.run PP (do match (#[({ name := "View", type := 3, offset := 0, embedded := false, tag := "", pkgPath := "", byteOffset := 0 } : Field), ({ name := "Key", type := 9, offset := 1, embedded := false, tag := "", pkgPath := "", byteOffset := 8 } : Field), ({ name := "Start", type := 2, offset := 2, embedded := false, tag := "", pkgPath := "", byteOffset := 24 } : Field)])[2]? with | some fd => (do pure (fd.offset, (← sizeOf fd.type) != 0)) | none => pure (0, false) : Sem (Nat × Bool)) w = .ok (2, true) w := fun w => by kernel_rfl
theorem fo_57_4 : ∀ w, Sem.run PP (do match (#[({ name := "Kind", type := 3, offset := 0, embedded := false, tag := "", pkgPath := "", byteOffset := 0 } : Field), ({ name := "Id", type := 3, offset := 1, embedded := false, tag := "", pkgPath := "", byteOffset := 8 } : Field), ({ name := "Err", type := 35, offset := 2, embedded := false, tag := "", pkgPath := "", byteOffset := 16 } : Field), ({ name := "Epoch", type := 3, offset := 3, embedded := false, tag := "", pkgPath := "", byteOffset := 24 } : Field), ({ name := "Rows", type := 51, offset := 4, embedded := false, tag := "", pkgPath := "", byteOffset := 32 } : Field), ({ name := "Stats", type := 55, offset := 5, embedded := false, tag := "", pkgPath := "", byteOffset := 56 } : Field)])[4]? with | some fd => (do pure (fd.offset, (← sizeOf fd.type) != 0)) | none => pure (0, false) : Sem (Nat × Bool)) w = .ok (4, true) w := fun w => by kernel_rfl
theorem fo_66_0 : ∀ w, Sem.run PP (do match (#[({ name := "Cell", type := 34, offset := 0, embedded := true, tag := "", pkgPath := "", byteOffset := 0 } : Field), ({ name := "Agg", type := 64, offset := 3, embedded := true, tag := "", pkgPath := "", byteOffset := 32 } : Field)])[0]? with | some fd => (do pure (fd.offset, (← sizeOf fd.type) != 0)) | none => pure (0, false) : Sem (Nat × Bool)) w = .ok (0, true) w := fun w => by kernel_rfl
theorem bd_34_1 (y1 : ByteArray) : ∀ w, (Instr.build 34 ([(1, (.string y1))] : List (Nat × Value)).toArray).run PP w = .ok (.agg (⟨0, y1, 0⟩ : S_api_Cell).cells.toArray) w := fun w => by kernel_rfl
theorem bl_47_1_0 (y0 : Int) : ∀ w, (Instr.buildSlice 47 1 ([(0, (.int .u8 y0))] : List (Nat × Value)).toArray).run PP w = .ok (.slice (some ⟨w.heap.size, 0, none⟩) 1 1) { w with heap := w.heap.push (.cells #[(.int .u8 y0)] ty_5) } := fun w => by kernel_rfl
theorem bl_47_2_0_1 (y0 : Int) (y1 : Int) : ∀ w, (Instr.buildSlice 47 2 ([(0, (.int .u8 y0)), (1, (.int .u8 y1))] : List (Nat × Value)).toArray).run PP w = .ok (.slice (some ⟨w.heap.size, 0, none⟩) 2 2) { w with heap := w.heap.push (.cells #[(.int .u8 y0), (.int .u8 y1)] ty_5) } := fun w => by kernel_rfl
theorem bd_34_  : ∀ w, (Instr.build 34 ([] : List (Nat × Value)).toArray).run PP w = .ok (.agg (⟨0, (⟨#[]⟩ : ByteArray), 0⟩ : S_api_Cell).cells.toArray) w := fun w => by kernel_rfl
theorem bd_34_0 (y0 : Int) : ∀ w, (Instr.build 34 ([(0, (.int .i64 y0))] : List (Nat × Value)).toArray).run PP w = .ok (.agg (⟨y0, (⟨#[]⟩ : ByteArray), 0⟩ : S_api_Cell).cells.toArray) w := fun w => by kernel_rfl
theorem bl_23_3_0_1_2 (y0 : Int) (y1 : Int) (y2 : Int) : ∀ w, (Instr.buildSlice 23 3 ([(0, (.int .i64 y0)), (1, (.int .i64 y1)), (2, (.int .i64 y2))] : List (Nat × Value)).toArray).run PP w = .ok (.slice (some ⟨w.heap.size, 0, none⟩) 3 3) { w with heap := w.heap.push (.cells #[(.int .i64 y0), (.int .i64 y1), (.int .i64 y2)] ty_3) } := fun w => by kernel_rfl
theorem bl_23_2_0_1 (y0 : Int) (y1 : Int) : ∀ w, (Instr.buildSlice 23 2 ([(0, (.int .i64 y0)), (1, (.int .i64 y1))] : List (Nat × Value)).toArray).run PP w = .ok (.slice (some ⟨w.heap.size, 0, none⟩) 2 2) { w with heap := w.heap.push (.cells #[(.int .i64 y0), (.int .i64 y1)] ty_3) } := fun w => by kernel_rfl
theorem bl_25_2_0_1 (y0 : Sl) (y1 : Sl) : ∀ w, (Instr.buildSlice 25 2 ([(0, y0.enc), (1, y1.enc)] : List (Nat × Value)).toArray).run PP w = .ok (.slice (some ⟨w.heap.size, 0, none⟩) 2 2) { w with heap := w.heap.push (.cells #[y0.enc, y1.enc] ty_23) } := fun w => by kernel_rfl
theorem bl_23_1_0 (y0 : Int) : ∀ w, (Instr.buildSlice 23 1 ([(0, (.int .i64 y0))] : List (Nat × Value)).toArray).run PP w = .ok (.slice (some ⟨w.heap.size, 0, none⟩) 1 1) { w with heap := w.heap.push (.cells #[(.int .i64 y0)] ty_3) } := fun w => by kernel_rfl
theorem eqg_34 : PP.eqGuardType PP.depth 34 = false := by kernel_rfl
theorem eqst_34 (x y : S_api_Cell) (n : Nat) (w : World) : (Op.equalIn (n + 2) 34 (.agg x.cells.toArray) (.agg y.cells.toArray)).run PP w = .ok ((x.View == y.View) && ((x.Key.toList == y.Key.toList) && ((x.Start == y.Start) && true))) w := by
  rw [run_equalIn_agg w (n + 1) 34 _ _ (by kernel_rfl) (by kernel_rfl), show (PP.fieldsOf 34).toList = (#[({ name := "View", type := 3, offset := 0, embedded := false, tag := "", pkgPath := "", byteOffset := 0 } : Field), ({ name := "Key", type := 9, offset := 1, embedded := false, tag := "", pkgPath := "", byteOffset := 8 } : Field), ({ name := "Start", type := 2, offset := 2, embedded := false, tag := "", pkgPath := "", byteOffset := 24 } : Field)]).toList from by kernel_rfl]
  exact eqF_cons (a := (.int .i64 x.View)) (b := (.int .i64 y.View)) (by decide) (by kernel_rfl) (by kernel_rfl) (run_equalIn_int w n 3 .i64 .i64 _ _ (by kernel_rfl)) (eqF_cons (a := (.string x.Key)) (b := (.string y.Key)) (by decide) (by kernel_rfl) (by kernel_rfl) (run_equalIn_string w n 9 _ _ (by kernel_rfl)) (eqF_cons (a := (.int .i64 x.Start)) (b := (.int .i64 y.Start)) (by decide) (by kernel_rfl) (by kernel_rfl) (run_equalIn_int w n 2 .i64 .i64 _ _ (by kernel_rfl)) (eqF_nil w)))
theorem bl_25_3_0_1_2 (y0 : Sl) (y1 : Sl) (y2 : Sl) : ∀ w, (Instr.buildSlice 25 3 ([(0, y0.enc), (1, y1.enc), (2, y2.enc)] : List (Nat × Value)).toArray).run PP w = .ok (.slice (some ⟨w.heap.size, 0, none⟩) 3 3) { w with heap := w.heap.push (.cells #[y0.enc, y1.enc, y2.enc] ty_23) } := fun w => by kernel_rfl
theorem bl_29_1_0 (y0 : ByteArray) : ∀ w, (Instr.buildSlice 29 1 ([(0, (.string y0))] : List (Nat × Value)).toArray).run PP w = .ok (.slice (some ⟨w.heap.size, 0, none⟩) 1 1) { w with heap := w.heap.push (.cells #[(.string y0)] ty_9) } := fun w => by kernel_rfl
theorem bl_74_3_0_1_2 (y0 : Sl) (y1 : Sl) (y2 : Sl) : ∀ w, (Instr.buildSlice 74 3 ([(0, y0.enc), (1, y1.enc), (2, y2.enc)] : List (Nat × Value)).toArray).run PP w = .ok (.slice (some ⟨w.heap.size, 0, none⟩) 3 3) { w with heap := w.heap.push (.cells #[y0.enc, y1.enc, y2.enc] ty_29) } := fun w => by kernel_rfl
theorem bd_34_0_1_2 (y0 : Int) (y1 : ByteArray) (y2 : Int) : ∀ w, (Instr.build 34 ([(0, (.int .i64 y0)), (1, (.string y1)), (2, (.int .i64 y2))] : List (Nat × Value)).toArray).run PP w = .ok (.agg (⟨y0, y1, y2⟩ : S_api_Cell).cells.toArray) w := fun w => by kernel_rfl
theorem cmpS_56 : CmpS PP 56 := cmpS_of Try.func56 (by kernel_rfl) (by kernel_rfl) (by kernel_rfl) (by kernel_rfl)
theorem bl_51_1_0 (y0 : S_api_Row) : ∀ w, (Instr.buildSlice 51 1 ([(0, (.agg y0.cells.toArray))] : List (Nat × Value)).toArray).run PP w = .ok (.slice (some ⟨w.heap.size, 0, none⟩) 1 1) { w with heap := w.heap.push (.cells ((y0.cells).toArray) ty_66) } := fun w => by kernel_rfl
theorem bl_53_3_0_1_2 (y0 : Sl) (y1 : Sl) (y2 : Sl) : ∀ w, (Instr.buildSlice 53 3 ([(0, y0.enc), (1, y1.enc), (2, y2.enc)] : List (Nat × Value)).toArray).run PP w = .ok (.slice (some ⟨w.heap.size, 0, none⟩) 3 3) { w with heap := w.heap.push (.cells #[y0.enc, y1.enc, y2.enc] ty_51) } := fun w => by kernel_rfl
theorem bd_57_4 (y4 : Sl) : ∀ w, (Instr.build 57 ([(4, y4.enc)] : List (Nat × Value)).toArray).run PP w = .ok (.agg (⟨0, 0, 0, 0, y4, (⟨0, 0, 0, 0, 0, 0⟩ : S_api_Stats)⟩ : S_api_Response).cells.toArray) w := fun w => by kernel_rfl
theorem fl_57_4 (x : S_api_Response) : ∀ w, (Instr.field 57 (.agg x.cells.toArray) 4).run PP w = .ok x.Rows.enc w := fun w => by kernel_rfl
theorem bd_88_0_1 (y0 : Sl) (y1 : Int) : ∀ w, (Instr.build 88 ([(0, y0.enc), (1, (.int .i64 y1))] : List (Nat × Value)).toArray).run PP w = .ok (.agg (⟨y0, y1⟩ : S_merge_front).cells.toArray) w := fun w => by kernel_rfl
theorem bl_86_1_0 (y0 : S_merge_front) : ∀ w, (Instr.buildSlice 86 1 ([(0, (.agg y0.cells.toArray))] : List (Nat × Value)).toArray).run PP w = .ok (.slice (some ⟨w.heap.size, 0, none⟩) 1 1) { w with heap := w.heap.push (.cells ((y0.cells).toArray) ty_88) } := fun w => by kernel_rfl
theorem bl_53_2_0_1 (y0 : Sl) (y1 : Sl) : ∀ w, (Instr.buildSlice 53 2 ([(0, y0.enc), (1, y1.enc)] : List (Nat × Value)).toArray).run PP w = .ok (.slice (some ⟨w.heap.size, 0, none⟩) 2 2) { w with heap := w.heap.push (.cells #[y0.enc, y1.enc] ty_51) } := fun w => by kernel_rfl
theorem bl_53_1_0 (y0 : Sl) : ∀ w, (Instr.buildSlice 53 1 ([(0, y0.enc)] : List (Nat × Value)).toArray).run PP w = .ok (.slice (some ⟨w.heap.size, 0, none⟩) 1 1) { w with heap := w.heap.push (.cells #[y0.enc] ty_51) } := fun w => by kernel_rfl
theorem bl_25_1_0 (y0 : Sl) : ∀ w, (Instr.buildSlice 25 1 ([(0, y0.enc)] : List (Nat × Value)).toArray).run PP w = .ok (.slice (some ⟨w.heap.size, 0, none⟩) 1 1) { w with heap := w.heap.push (.cells #[y0.enc] ty_23) } := fun w => by kernel_rfl
theorem bd_34_1_2 (y1 : ByteArray) (y2 : Int) : ∀ w, (Instr.build 34 ([(1, (.string y1)), (2, (.int .i64 y2))] : List (Nat × Value)).toArray).run PP w = .ok (.agg (⟨0, y1, y2⟩ : S_api_Cell).cells.toArray) w := fun w => by kernel_rfl
theorem bd_64_0 (y0 : Int) : ∀ w, (Instr.build 64 ([(0, (.int .i64 y0))] : List (Nat × Value)).toArray).run PP w = .ok (.agg (⟨y0, 0, 0, 0⟩ : S_api_Agg).cells.toArray) w := fun w => by kernel_rfl
theorem bd_66_0_1 (y0 : S_api_Cell) (y1 : S_api_Agg) : ∀ w, (Instr.build 66 ([(0, (.agg y0.cells.toArray)), (1, (.agg y1.cells.toArray))] : List (Nat × Value)).toArray).run PP w = .ok (.agg (⟨y0, y1⟩ : S_api_Row).cells.toArray) w := fun w => by kernel_rfl
theorem bl_51_0_  : ∀ w, (Instr.buildSlice 51 0 ([] : List (Nat × Value)).toArray).run PP w = .ok (.slice (some ⟨w.heap.size, 0, none⟩) 0 0) { w with heap := w.heap.push (.cells (([]).toArray) ty_66) } := fun w => by kernel_rfl
theorem bl_23_0_  : ∀ w, (Instr.buildSlice 23 0 ([] : List (Nat × Value)).toArray).run PP w = .ok (.slice (some ⟨w.heap.size, 0, none⟩) 0 0) { w with heap := w.heap.push (.cells #[] ty_3) } := fun w => by kernel_rfl

end Go.Proofs.Ytidpbnbjpglhfaa.V
