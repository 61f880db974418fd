/- Printed by a program of this session (gen.py): for each Go function a Lean function over the heap, and that the Go code does what it says; no condition. -/
import Derived.Test.YtidpbnbjpglhfaaVn
import Derived.Test.YtidpbnbjpglhfaaVq
import Derived.Test.YtidpbnbjpglhfaaVr
import Derived.Test.YtidpbnbjpglhfaaVv
import Derived.Test.YtidpbnbjpglhfaaVz
import Derived.Test.YtidpbnbjpglhfaaProg
namespace Go.Proofs.Ytidpbnbjpglhfaa.V
open Go
set_option linter.unusedVariables false
set_option maxRecDepth 100000
noncomputable abbrev PP : Program := Try.prog
theorem mixed : PP.follows .mixedOrders = true := by kernel_rfl
theorem one1 {u : Value} (h : u.oneCell' = true) : ∀ v ∈ [u], v.oneCell' = true := by intro v hv; simp at hv; subst hv; exact h
theorem ones_app {a b : List Value} (ha : ∀ v ∈ a, v.oneCell' = true) (hb : ∀ v ∈ b, v.oneCell' = true) : ∀ v ∈ a ++ b, v.oneCell' = true := fun v hv => (List.mem_append.1 hv).elim (ha v) (hb v)
structure S_api_Cell where
  View : Int
  Key : ByteArray
  Start : Int
def S_api_Cell.cells (x : S_api_Cell) : List Value := [(.int .i64 x.View)] ++ [(.string x.Key)] ++ [(.int .i64 x.Start)]
def ld_S_api_Cell (h : H) (a : Addr) (K : S_api_Cell → Prop) : Prop := ∃ x : S_api_Cell, Cells h a x.cells ∧ K x
theorem ones_S_api_Cell (x : S_api_Cell) : ∀ v ∈ x.cells, v.oneCell' = true := ones_app (ones_app (one1 rfl) (one1 rfl)) (one1 rfl)
structure S_api_Agg where
  Count : Int
  Sum : Int
  Min : Int
  Max : Int
def S_api_Agg.cells (x : S_api_Agg) : List Value := [(.int .i64 x.Count)] ++ [(.int .i64 x.Sum)] ++ [(.int .i64 x.Min)] ++ [(.int .i64 x.Max)]
def ld_S_api_Agg (h : H) (a : Addr) (K : S_api_Agg → Prop) : Prop := ∃ x : S_api_Agg, Cells h a x.cells ∧ K x
theorem ones_S_api_Agg (x : S_api_Agg) : ∀ v ∈ x.cells, v.oneCell' = true := ones_app (ones_app (ones_app (one1 rfl) (one1 rfl)) (one1 rfl)) (one1 rfl)
structure S_api_Row where
  Cell : S_api_Cell
  Agg : S_api_Agg
def S_api_Row.cells (x : S_api_Row) : List Value := x.Cell.cells ++ x.Agg.cells
def ld_S_api_Row (h : H) (a : Addr) (K : S_api_Row → Prop) : Prop := ∃ x : S_api_Row, Cells h a x.cells ∧ K x
theorem ones_S_api_Row (x : S_api_Row) : ∀ v ∈ x.cells, v.oneCell' = true := ones_app (ones_S_api_Cell _) (ones_S_api_Agg _)
structure S_api_Stats where
  Taken : Int
  Late : Int
  Overflow : Int
  Full : Int
  Cells : Int
  Now : Int
def S_api_Stats.cells (x : S_api_Stats) : List Value := [(.int .i64 x.Taken)] ++ [(.int .i64 x.Late)] ++ [(.int .i64 x.Overflow)] ++ [(.int .i64 x.Full)] ++ [(.int .i64 x.Cells)] ++ [(.int .i64 x.Now)]
def ld_S_api_Stats (h : H) (a : Addr) (K : S_api_Stats → Prop) : Prop := ∃ x : S_api_Stats, Cells h a x.cells ∧ K x
theorem ones_S_api_Stats (x : S_api_Stats) : ∀ v ∈ x.cells, v.oneCell' = true := ones_app (ones_app (ones_app (ones_app (ones_app (one1 rfl) (one1 rfl)) (one1 rfl)) (one1 rfl)) (one1 rfl)) (one1 rfl)
structure S_api_Response where
  Kind : Int
  Id : Int
  Err : Int
  Epoch : Int
  Rows : Sl
  Stats : S_api_Stats
def S_api_Response.cells (x : S_api_Response) : List Value := [(.int .i64 x.Kind)] ++ [(.int .i64 x.Id)] ++ [(.int .i64 x.Err)] ++ [(.int .i64 x.Epoch)] ++ [x.Rows.enc] ++ x.Stats.cells
def ld_S_api_Response (h : H) (a : Addr) (K : S_api_Response → Prop) : Prop := ∃ x : S_api_Response, Cells h a x.cells ∧ K x
theorem ones_S_api_Response (x : S_api_Response) : ∀ v ∈ x.cells, v.oneCell' = true := ones_app (ones_app (ones_app (ones_app (ones_app (one1 rfl) (one1 rfl)) (one1 rfl)) (one1 rfl)) (one1 rfl)) (ones_S_api_Stats _)
structure S_merge_front where
  rows : Sl
  list : Int
def S_merge_front.cells (x : S_merge_front) : List Value := [x.rows.enc] ++ [(.int .i64 x.list)]
def ld_S_merge_front (h : H) (a : Addr) (K : S_merge_front → Prop) : Prop := ∃ x : S_merge_front, Cells h a x.cells ∧ K x
theorem ones_S_merge_front (x : S_merge_front) : ∀ v ∈ x.cells, v.oneCell' = true := ones_app (one1 rfl) (one1 rfl)
abbrev ty_3 : TypeId := 3
abbrev ty_5 : TypeId := 5
abbrev ty_9 : TypeId := 9
abbrev ty_23 : TypeId := 23
abbrev ty_29 : TypeId := 29
abbrev ty_34 : TypeId := 34
abbrev ty_51 : TypeId := 51
abbrev ty_57 : TypeId := 57
abbrev ty_66 : TypeId := 66
abbrev ty_86 : TypeId := 86
abbrev ty_88 : TypeId := 88
theorem fo_34_0 : ∀ w, Sem.run PP (do match (#[({ name := "View", type := 3, offset := 0, embedded := false, tag := "", pkgPath := "", byteOffset := 0 } : Field), ({ name := "Key", type := 9, offset := 1, embedded := false, tag := "", pkgPath := "", byteOffset := 8 } : Field), ({ name := "Start", type := 2, offset := 2, embedded := false, tag := "", pkgPath := "", byteOffset := 24 } : Field)])[0]? with | some fd => (do pure (fd.offset, (← sizeOf fd.type) != 0)) | none => pure (0, false) : Sem (Nat × Bool)) w = .ok (0, true) w := fun w => by kernel_rfl
theorem fo_34_1 : ∀ w, Sem.run PP (do match (#[({ name := "View", type := 3, offset := 0, embedded := false, tag := "", pkgPath := "", byteOffset := 0 } : Field), ({ name := "Key", type := 9, offset := 1, embedded := false, tag := "", pkgPath := "", byteOffset := 8 } : Field), ({ name := "Start", type := 2, offset := 2, embedded := false, tag := "", pkgPath := "", byteOffset := 24 } : Field)])[1]? with | some fd => (do pure (fd.offset, (← sizeOf fd.type) != 0)) | none => pure (0, false) : Sem (Nat × Bool)) w = .ok (1, true) w := fun w => by kernel_rfl
theorem fo_34_2 : ∀ w, Sem.run PP (do match (#[({ name := "View", type := 3, offset := 0, embedded := false, tag := "", pkgPath := "", byteOffset := 0 } : Field), ({ name := "Key", type := 9, offset := 1, embedded := false, tag := "", pkgPath := "", byteOffset := 8 } : Field), ({ name := "Start", type := 2, offset := 2, embedded := false, tag := "", pkgPath := "", byteOffset := 24 } : Field)])[2]? with | some fd => (do pure (fd.offset, (← sizeOf fd.type) != 0)) | none => pure (0, false) : Sem (Nat × Bool)) w = .ok (2, true) w := fun w => by kernel_rfl
theorem fo_57_4 : ∀ w, Sem.run PP (do match (#[({ name := "Kind", type := 3, offset := 0, embedded := false, tag := "", pkgPath := "", byteOffset := 0 } : Field), ({ name := "Id", type := 3, offset := 1, embedded := false, tag := "", pkgPath := "", byteOffset := 8 } : Field), ({ name := "Err", type := 35, offset := 2, embedded := false, tag := "", pkgPath := "", byteOffset := 16 } : Field), ({ name := "Epoch", type := 3, offset := 3, embedded := false, tag := "", pkgPath := "", byteOffset := 24 } : Field), ({ name := "Rows", type := 51, offset := 4, embedded := false, tag := "", pkgPath := "", byteOffset := 32 } : Field), ({ name := "Stats", type := 55, offset := 5, embedded := false, tag := "", pkgPath := "", byteOffset := 56 } : Field)])[4]? with | some fd => (do pure (fd.offset, (← sizeOf fd.type) != 0)) | none => pure (0, false) : Sem (Nat × Bool)) w = .ok (4, true) w := fun w => by kernel_rfl
theorem fo_64_0 : ∀ w, Sem.run PP (do match (#[({ name := "Count", type := 2, offset := 0, embedded := false, tag := "", pkgPath := "", byteOffset := 0 } : Field), ({ name := "Sum", type := 2, offset := 1, embedded := false, tag := "", pkgPath := "", byteOffset := 8 } : Field), ({ name := "Min", type := 2, offset := 2, embedded := false, tag := "", pkgPath := "", byteOffset := 16 } : Field), ({ name := "Max", type := 2, offset := 3, embedded := false, tag := "", pkgPath := "", byteOffset := 24 } : Field)])[0]? with | some fd => (do pure (fd.offset, (← sizeOf fd.type) != 0)) | none => pure (0, false) : Sem (Nat × Bool)) w = .ok (0, true) w := fun w => by kernel_rfl
theorem fo_66_0 : ∀ w, Sem.run PP (do match (#[({ name := "Cell", type := 34, offset := 0, embedded := true, tag := "", pkgPath := "", byteOffset := 0 } : Field), ({ name := "Agg", type := 64, offset := 3, embedded := true, tag := "", pkgPath := "", byteOffset := 32 } : Field)])[0]? with | some fd => (do pure (fd.offset, (← sizeOf fd.type) != 0)) | none => pure (0, false) : Sem (Nat × Bool)) w = .ok (0, true) w := fun w => by kernel_rfl
theorem fo_66_1 : ∀ w, Sem.run PP (do match (#[({ name := "Cell", type := 34, offset := 0, embedded := true, tag := "", pkgPath := "", byteOffset := 0 } : Field), ({ name := "Agg", type := 64, offset := 3, embedded := true, tag := "", pkgPath := "", byteOffset := 32 } : Field)])[1]? with | some fd => (do pure (fd.offset, (← sizeOf fd.type) != 0)) | none => pure (0, false) : Sem (Nat × Bool)) w = .ok (3, true) w := fun w => by kernel_rfl
theorem fo_88_0 : ∀ w, Sem.run PP (do match (#[({ name := "rows", type := 51, offset := 0, embedded := false, tag := "", pkgPath := "spate/merge", byteOffset := 0 } : Field), ({ name := "list", type := 3, offset := 1, embedded := false, tag := "", pkgPath := "spate/merge", byteOffset := 24 } : Field)])[0]? with | some fd => (do pure (fd.offset, (← sizeOf fd.type) != 0)) | none => pure (0, false) : Sem (Nat × Bool)) w = .ok (0, true) w := fun w => by kernel_rfl
theorem fo_88_1 : ∀ w, Sem.run PP (do match (#[({ name := "rows", type := 51, offset := 0, embedded := false, tag := "", pkgPath := "spate/merge", byteOffset := 0 } : Field), ({ name := "list", type := 3, offset := 1, embedded := false, tag := "", pkgPath := "spate/merge", byteOffset := 24 } : Field)])[1]? with | some fd => (do pure (fd.offset, (← sizeOf fd.type) != 0)) | none => pure (0, false) : Sem (Nat × Bool)) w = .ok (1, true) w := fun w => by kernel_rfl
theorem el_Slint : El PP 23 3 1 8 (.int .i64 0) := ⟨Try.underlying23, ⟨Try.t3, by kernel_rfl, by kernel_rfl, by kernel_rfl, by kernel_rfl⟩, by kernel_rfl, by omega, by omega⟩
theorem el_SlSlint : El PP 25 23 1 24 (⟨none, 0, 0⟩ : Sl).enc := ⟨Try.underlying25, ⟨Try.t23, by kernel_rfl, by kernel_rfl, by kernel_rfl, by kernel_rfl⟩, by kernel_rfl, by omega, by omega⟩
theorem el_Slstring : El PP 29 9 1 16 (.string (⟨#[]⟩ : ByteArray)) := ⟨Try.underlying29, ⟨Try.t9, by kernel_rfl, by kernel_rfl, by kernel_rfl, by kernel_rfl⟩, by kernel_rfl, by omega, by omega⟩
theorem el_Sluint8 : El PP 47 5 1 1 (.int .u8 0) := ⟨Try.underlying47, ⟨Try.t5, by kernel_rfl, by kernel_rfl, by kernel_rfl, by kernel_rfl⟩, by kernel_rfl, by omega, by omega⟩
theorem el_Slapi_Row : El PP 51 66 7 64 (.agg (⟨(⟨0, (⟨#[]⟩ : ByteArray), 0⟩ : S_api_Cell), (⟨0, 0, 0, 0⟩ : S_api_Agg)⟩ : S_api_Row).cells.toArray) := ⟨Try.underlying51, ⟨Try.t66, by kernel_rfl, by kernel_rfl, by kernel_rfl, by kernel_rfl⟩, by kernel_rfl, by omega, by omega⟩
theorem el_SlSlapi_Row : El PP 53 51 1 24 (⟨none, 0, 0⟩ : Sl).enc := ⟨Try.underlying53, ⟨Try.t51, by kernel_rfl, by kernel_rfl, by kernel_rfl, by kernel_rfl⟩, by kernel_rfl, by omega, by omega⟩
theorem el_merge_fronts : El PP 86 88 2 32 (.agg (⟨(⟨none, 0, 0⟩ : Sl), 0⟩ : S_merge_front).cells.toArray) := ⟨Try.underlying86, ⟨Try.t88, by kernel_rfl, by kernel_rfl, by kernel_rfl, by kernel_rfl⟩, by kernel_rfl, by omega, by omega⟩
theorem ut_Slint : PP.underlying 23 = some (.slice 3) := Try.underlying23
theorem ut_SlSlint : PP.underlying 25 = some (.slice 23) := Try.underlying25
theorem ut_api_Cell : PP.underlying 34 = some (.struct #[({ name := "View", type := 3, offset := 0, embedded := false, tag := "", pkgPath := "", byteOffset := 0 } : Field), ({ name := "Key", type := 9, offset := 1, embedded := false, tag := "", pkgPath := "", byteOffset := 8 } : Field), ({ name := "Start", type := 2, offset := 2, embedded := false, tag := "", pkgPath := "", byteOffset := 24 } : Field)]) := Try.underlying34
theorem ut_Slapi_Row : PP.underlying 51 = some (.slice 66) := Try.underlying51
theorem ut_SlSlapi_Row : PP.underlying 53 = some (.slice 51) := Try.underlying53
theorem ut_api_Agg : PP.underlying 64 = some (.struct #[({ name := "Count", type := 2, offset := 0, embedded := false, tag := "", pkgPath := "", byteOffset := 0 } : Field), ({ name := "Sum", type := 2, offset := 1, embedded := false, tag := "", pkgPath := "", byteOffset := 8 } : Field), ({ name := "Min", type := 2, offset := 2, embedded := false, tag := "", pkgPath := "", byteOffset := 16 } : Field), ({ name := "Max", type := 2, offset := 3, embedded := false, tag := "", pkgPath := "", byteOffset := 24 } : Field)]) := Try.underlying64
theorem ut_api_Row : PP.underlying 66 = some (.struct #[({ name := "Cell", type := 34, offset := 0, embedded := true, tag := "", pkgPath := "", byteOffset := 0 } : Field), ({ name := "Agg", type := 64, offset := 3, embedded := true, tag := "", pkgPath := "", byteOffset := 32 } : Field)]) := Try.underlying66
abbrev tn_int : TypeId := 3
abbrev tn_uint8 : TypeId := 5
abbrev tn_string : TypeId := 9
abbrev tn_Slint : TypeId := 23
abbrev tn_SlSlint : TypeId := 25
abbrev tn_Slstring : TypeId := 29
abbrev tn_api_Cell : TypeId := 34
abbrev tn_Slapi_Row : TypeId := 51
abbrev tn_SlSlapi_Row : TypeId := 53
abbrev tn_api_Response : TypeId := 57
abbrev tn_api_Agg : TypeId := 64
abbrev tn_api_Row : TypeId := 66
abbrev tn_merge_fronts : TypeId := 86
abbrev tn_merge_front : TypeId := 88
abbrev no_spatelaw8_MergeLists : FuncId := 4
theorem no_spatelaw8_MergeLists_call : ∀ (args : Array Value) (w : World), (callFunc 4 args).run PP w = .ok (.enter 4 args) w := Try.call4
abbrev no_spatelaw8_MergeBack : FuncId := 5
theorem no_spatelaw8_MergeBack_call : ∀ (args : Array Value) (w : World), (callFunc 5 args).run PP w = .ok (.enter 5 args) w := Try.call5
abbrev no_spatelaw8_MergeKeys : FuncId := 6
theorem no_spatelaw8_MergeKeys_call : ∀ (args : Array Value) (w : World), (callFunc 6 args).run PP w = .ok (.enter 6 args) w := Try.call6
abbrev no_spatelaw8_MergeTurns : FuncId := 7
theorem no_spatelaw8_MergeTurns_call : ∀ (args : Array Value) (w : World), (callFunc 7 args).run PP w = .ok (.enter 7 args) w := Try.call7
abbrev no_spatelaw8_MergeOrder : FuncId := 8
theorem no_spatelaw8_MergeOrder_call : ∀ (args : Array Value) (w : World), (callFunc 8 args).run PP w = .ok (.enter 8 args) w := Try.call8
abbrev no_spatelaw8_MergeRows : FuncId := 9
theorem no_spatelaw8_MergeRows_call : ∀ (args : Array Value) (w : World), (callFunc 9 args).run PP w = .ok (.enter 9 args) w := Try.call9
abbrev no_spatelaw8_MergeParts : FuncId := 10
theorem no_spatelaw8_MergeParts_call : ∀ (args : Array Value) (w : World), (callFunc 10 args).run PP w = .ok (.enter 10 args) w := Try.call10
abbrev no_spatelaw8_MergeOwn : FuncId := 11
theorem no_spatelaw8_MergeOwn_call : ∀ (args : Array Value) (w : World), (callFunc 11 args).run PP w = .ok (.enter 11 args) w := Try.call11
abbrev no_spatelaw8_MergeMany : FuncId := 12
theorem no_spatelaw8_MergeMany_call : ∀ (args : Array Value) (w : World), (callFunc 12 args).run PP w = .ok (.enter 12 args) w := Try.call12
abbrev no_spatelaw8_MergeLong : FuncId := 13
theorem no_spatelaw8_MergeLong_call : ∀ (args : Array Value) (w : World), (callFunc 13 args).run PP w = .ok (.enter 13 args) w := Try.call13
abbrev no_spatelaw8_MergeBook : FuncId := 14
theorem no_spatelaw8_MergeBook_call : ∀ (args : Array Value) (w : World), (callFunc 14 args).run PP w = .ok (.enter 14 args) w := Try.call14
abbrev no_spatelaw8_known : FuncId := 15
theorem no_spatelaw8_known_call : ∀ (args : Array Value) (w : World), (callFunc 15 args).run PP w = .ok (.enter 15 args) w := Try.call15
abbrev no_spatelaw8_rising : FuncId := 16
theorem no_spatelaw8_rising_call : ∀ (args : Array Value) (w : World), (callFunc 16 args).run PP w = .ok (.enter 16 args) w := Try.call16
abbrev no_spateref8_Lists : FuncId := 17
theorem no_spateref8_Lists_call : ∀ (args : Array Value) (w : World), (callFunc 17 args).run PP w = .ok (.enter 17 args) w := Try.call17
abbrev no_merge_Lists_int : FuncId := 18
theorem no_merge_Lists_int_call : ∀ (args : Array Value) (w : World), (callFunc 18 args).run PP w = .ok (.enter 18 args) w := Try.call18
abbrev no_spatelaw8_same : FuncId := 19
theorem no_spatelaw8_same_call : ∀ (args : Array Value) (w : World), (callFunc 19 args).run PP w = .ok (.enter 19 args) w := Try.call19
abbrev no_merge_Lists_string : FuncId := 20
theorem no_merge_Lists_string_call : ∀ (args : Array Value) (w : World), (callFunc 20 args).run PP w = .ok (.enter 20 args) w := Try.call20
abbrev no_spatelaw8_words : FuncId := 21
theorem no_spatelaw8_words_call : ∀ (args : Array Value) (w : World), (callFunc 21 args).run PP w = .ok (.enter 21 args) w := Try.call21
abbrev no_merge_Cell : FuncId := 22
theorem no_merge_Cell_call : ∀ (args : Array Value) (w : World), (callFunc 22 args).run PP w = .ok (.enter 22 args) w := Try.call22
abbrev no_merge_Key : FuncId := 23
theorem no_merge_Key_call : ∀ (args : Array Value) (w : World), (callFunc 23 args).run PP w = .ok (.enter 23 args) w := Try.call23
abbrev no_spateref8_Key : FuncId := 24
theorem no_spateref8_Key_call : ∀ (args : Array Value) (w : World), (callFunc 24 args).run PP w = .ok (.enter 24 args) w := Try.call24
abbrev no_spateref8_Cell : FuncId := 25
theorem no_spateref8_Cell_call : ∀ (args : Array Value) (w : World), (callFunc 25 args).run PP w = .ok (.enter 25 args) w := Try.call25
abbrev no_merge_Compare : FuncId := 26
theorem no_merge_Compare_call : ∀ (args : Array Value) (w : World), (callFunc 26 args).run PP w = .ok (.enter 26 args) w := Try.call26
abbrev no_spateref8_Compare : FuncId := 27
theorem no_spateref8_Compare_call : ∀ (args : Array Value) (w : World), (callFunc 27 args).run PP w = .ok (.enter 27 args) w := Try.call27
abbrev no_spatelaw8_within : FuncId := 28
theorem no_spatelaw8_within_call : ∀ (args : Array Value) (w : World), (callFunc 28 args).run PP w = .ok (.enter 28 args) w := Try.call28
abbrev no_spatelaw8_ordered : FuncId := 29
theorem no_spatelaw8_ordered_call : ∀ (args : Array Value) (w : World), (callFunc 29 args).run PP w = .ok (.enter 29 args) w := Try.call29
abbrev no_spatelaw2_LendResponse : FuncId := 30
theorem no_spatelaw2_LendResponse_call : ∀ (args : Array Value) (w : World), (callFunc 30 args).run PP w = .ok (.enter 30 args) w := Try.call30
abbrev no_merge_Rows : FuncId := 31
theorem no_merge_Rows_call : ∀ (args : Array Value) (w : World), (callFunc 31 args).run PP w = .ok (.enter 31 args) w := Try.call31
abbrev no_spatelaw2_SameRows : FuncId := 32
theorem no_spatelaw2_SameRows_call : ∀ (args : Array Value) (w : World), (callFunc 32 args).run PP w = .ok (.enter 32 args) w := Try.call32
abbrev no_spateref8_Rows : FuncId := 33
theorem no_spateref8_Rows_call : ∀ (args : Array Value) (w : World), (callFunc 33 args).run PP w = .ok (.enter 33 args) w := Try.call33
abbrev no_spatelaw2_KeptRows : FuncId := 34
theorem no_spatelaw2_KeptRows_call : ∀ (args : Array Value) (w : World), (callFunc 34 args).run PP w = .ok (.enter 34 args) w := Try.call34
abbrev no_spatelaw8_once : FuncId := 35
theorem no_spatelaw8_once_call : ∀ (args : Array Value) (w : World), (callFunc 35 args).run PP w = .ok (.enter 35 args) w := Try.call35
abbrev no_spatelaw2_GrownRows : FuncId := 36
theorem no_spatelaw2_GrownRows_call : ∀ (args : Array Value) (w : World), (callFunc 36 args).run PP w = .ok (.enter 36 args) w := Try.call36
abbrev no_spatelaw2_GrownInts : FuncId := 37
theorem no_spatelaw2_GrownInts_call : ∀ (args : Array Value) (w : World), (callFunc 37 args).run PP w = .ok (.enter 37 args) w := Try.call37
abbrev no_merge_two_int : FuncId := 38
theorem no_merge_two_int_call : ∀ (args : Array Value) (w : World), (callFunc 38 args).run PP w = .ok (.enter 38 args) w := Try.call38
abbrev no_merge_two_string : FuncId := 39
theorem no_merge_two_string_call : ∀ (args : Array Value) (w : World), (callFunc 39 args).run PP w = .ok (.enter 39 args) w := Try.call39
abbrev no_merge_may : FuncId := 40
theorem no_merge_may_call : ∀ (args : Array Value) (w : World), (callFunc 40 args).run PP w = .ok (.enter 40 args) w := Try.call40
abbrev no_spateref8_wrong : FuncId := 41
theorem no_spateref8_wrong_call : ∀ (args : Array Value) (w : World), (callFunc 41 args).run PP w = .ok (.enter 41 args) w := Try.call41
abbrev no_cmp_Or_int : FuncId := 42
theorem no_cmp_Or_int_call : ∀ (args : Array Value) (w : World), (callFunc 42 args).run PP w = .ok (.enter 42 args) w := Try.call42
abbrev no_cmp_Compare_int : FuncId := 43
theorem no_cmp_Compare_int_call : ∀ (args : Array Value) (w : World), (callFunc 43 args).run PP w = .ok (.enter 43 args) w := Try.call43
abbrev no_strings_Compare : FuncId := 44
theorem no_strings_Compare_call : ∀ (args : Array Value) (w : World), (callFunc 44 args).run PP w = .ok (.enter 44 args) w := Try.call44
abbrev no_cmp_Compare_int64 : FuncId := 45
theorem no_cmp_Compare_int64_call : ∀ (args : Array Value) (w : World), (callFunc 45 args).run PP w = .ok (.enter 45 args) w := Try.call45
abbrev no_spateref8_sign : FuncId := 46
theorem no_spateref8_sign_call : ∀ (args : Array Value) (w : World), (callFunc 46 args).run PP w = .ok (.enter 46 args) w := Try.call46
abbrev no_spatelaw2_mark : FuncId := 47
theorem no_spatelaw2_mark_call : ∀ (args : Array Value) (w : World), (callFunc 47 args).run PP w = .ok (.enter 47 args) w := Try.call47
abbrev no_container_heap_Init : FuncId := 48
theorem no_container_heap_Init_call : ∀ (args : Array Value) (w : World), (callFunc 48 args).run PP w = .ok (.enter 48 args) w := Try.call48
abbrev no_container_heap_Pop : FuncId := 49
theorem no_container_heap_Pop_call : ∀ (args : Array Value) (w : World), (callFunc 49 args).run PP w = .ok (.enter 49 args) w := Try.call49
abbrev no_container_heap_Fix : FuncId := 50
theorem no_container_heap_Fix_call : ∀ (args : Array Value) (w : World), (callFunc 50 args).run PP w = .ok (.enter 50 args) w := Try.call50
abbrev no_cmp_isNaN_int : FuncId := 51
theorem no_cmp_isNaN_int_call : ∀ (args : Array Value) (w : World), (callFunc 51 args).run PP w = .ok (.enter 51 args) w := Try.call51
abbrev no_internal_bytealg_CompareString : FuncId := 52
theorem no_internal_bytealg_CompareString_call : ∀ (args : Array Value) (w : World), (callFunc 52 args).run PP w = .ok (.enter 52 args) w := Try.call52
abbrev no_cmp_isNaN_int64 : FuncId := 53
theorem no_cmp_isNaN_int64_call : ∀ (args : Array Value) (w : World), (callFunc 53 args).run PP w = .ok (.enter 53 args) w := Try.call53
abbrev no_container_heap_down : FuncId := 54
theorem no_container_heap_down_call : ∀ (args : Array Value) (w : World), (callFunc 54 args).run PP w = .ok (.enter 54 args) w := Try.call54
abbrev no_container_heap_up : FuncId := 55
theorem no_container_heap_up_call : ∀ (args : Array Value) (w : World), (callFunc 55 args).run PP w = .ok (.enter 55 args) w := Try.call55
abbrev no_merge_fronts_Len : FuncId := 74
theorem no_merge_fronts_Len_call : ∀ (args : Array Value) (w : World), (callFunc 74 args).run PP w = .ok (.enter 74 args) w := Try.call74
abbrev no_merge_fronts_Less : FuncId := 75
theorem no_merge_fronts_Less_call : ∀ (args : Array Value) (w : World), (callFunc 75 args).run PP w = .ok (.enter 75 args) w := Try.call75
abbrev no_merge_fronts_Swap : FuncId := 76
theorem no_merge_fronts_Swap_call : ∀ (args : Array Value) (w : World), (callFunc 76 args).run PP w = .ok (.enter 76 args) w := Try.call76
abbrev no_merge_fronts_Pop : FuncId := 77
theorem no_merge_fronts_Pop_call : ∀ (args : Array Value) (w : World), (callFunc 77 args).run PP w = .ok (.enter 77 args) w := Try.call77
theorem bd_34_1 (y1 : ByteArray) : ∀ w, (Instr.build 34 ([(1, (.string y1))] : List (Nat × Value)).toArray).run PP w = .ok (.agg (⟨0, y1, 0⟩ : S_api_Cell).cells.toArray) w := fun w => by kernel_rfl
theorem bl_47_1_0 (y0 : Int) : ∀ w, (Instr.buildSlice 47 1 ([(0, (.int .u8 y0))] : List (Nat × Value)).toArray).run PP w = .ok (.slice (some ⟨w.heap.size, 0, none⟩) 1 1) { w with heap := w.heap.push (.cells #[(.int .u8 y0)] ty_5) } := fun w => by kernel_rfl
theorem bl_47_2_0_1 (y0 : Int) (y1 : Int) : ∀ w, (Instr.buildSlice 47 2 ([(0, (.int .u8 y0)), (1, (.int .u8 y1))] : List (Nat × Value)).toArray).run PP w = .ok (.slice (some ⟨w.heap.size, 0, none⟩) 2 2) { w with heap := w.heap.push (.cells #[(.int .u8 y0), (.int .u8 y1)] ty_5) } := fun w => by kernel_rfl
theorem bd_34_  : ∀ w, (Instr.build 34 ([] : List (Nat × Value)).toArray).run PP w = .ok (.agg (⟨0, (⟨#[]⟩ : ByteArray), 0⟩ : S_api_Cell).cells.toArray) w := fun w => by kernel_rfl
theorem bd_34_0 (y0 : Int) : ∀ w, (Instr.build 34 ([(0, (.int .i64 y0))] : List (Nat × Value)).toArray).run PP w = .ok (.agg (⟨y0, (⟨#[]⟩ : ByteArray), 0⟩ : S_api_Cell).cells.toArray) w := fun w => by kernel_rfl
theorem bl_23_3_0_1_2 (y0 : Int) (y1 : Int) (y2 : Int) : ∀ w, (Instr.buildSlice 23 3 ([(0, (.int .i64 y0)), (1, (.int .i64 y1)), (2, (.int .i64 y2))] : List (Nat × Value)).toArray).run PP w = .ok (.slice (some ⟨w.heap.size, 0, none⟩) 3 3) { w with heap := w.heap.push (.cells #[(.int .i64 y0), (.int .i64 y1), (.int .i64 y2)] ty_3) } := fun w => by kernel_rfl
theorem bl_23_2_0_1 (y0 : Int) (y1 : Int) : ∀ w, (Instr.buildSlice 23 2 ([(0, (.int .i64 y0)), (1, (.int .i64 y1))] : List (Nat × Value)).toArray).run PP w = .ok (.slice (some ⟨w.heap.size, 0, none⟩) 2 2) { w with heap := w.heap.push (.cells #[(.int .i64 y0), (.int .i64 y1)] ty_3) } := fun w => by kernel_rfl
theorem bl_25_2_0_1 (y0 : Sl) (y1 : Sl) : ∀ w, (Instr.buildSlice 25 2 ([(0, y0.enc), (1, y1.enc)] : List (Nat × Value)).toArray).run PP w = .ok (.slice (some ⟨w.heap.size, 0, none⟩) 2 2) { w with heap := w.heap.push (.cells #[y0.enc, y1.enc] ty_23) } := fun w => by kernel_rfl
theorem bl_23_1_0 (y0 : Int) : ∀ w, (Instr.buildSlice 23 1 ([(0, (.int .i64 y0))] : List (Nat × Value)).toArray).run PP w = .ok (.slice (some ⟨w.heap.size, 0, none⟩) 1 1) { w with heap := w.heap.push (.cells #[(.int .i64 y0)] ty_3) } := fun w => by kernel_rfl
theorem eqg_34 : PP.eqGuardType PP.depth 34 = false := by kernel_rfl
theorem eqst_34 (x y : S_api_Cell) (n : Nat) (w : World) : (Op.equalIn (n + 2) 34 (.agg x.cells.toArray) (.agg y.cells.toArray)).run PP w = .ok ((x.View == y.View) && ((x.Key.toList == y.Key.toList) && ((x.Start == y.Start) && true))) w := by
  rw [run_equalIn_agg w (n + 1) 34 _ _ (by kernel_rfl) (by kernel_rfl), show (PP.fieldsOf 34).toList = (#[({ name := "View", type := 3, offset := 0, embedded := false, tag := "", pkgPath := "", byteOffset := 0 } : Field), ({ name := "Key", type := 9, offset := 1, embedded := false, tag := "", pkgPath := "", byteOffset := 8 } : Field), ({ name := "Start", type := 2, offset := 2, embedded := false, tag := "", pkgPath := "", byteOffset := 24 } : Field)]).toList from by kernel_rfl]
  exact eqF_cons (a := (.int .i64 x.View)) (b := (.int .i64 y.View)) (by decide) (by kernel_rfl) (by kernel_rfl) (run_equalIn_int w n 3 .i64 .i64 _ _ (by kernel_rfl)) (eqF_cons (a := (.string x.Key)) (b := (.string y.Key)) (by decide) (by kernel_rfl) (by kernel_rfl) (run_equalIn_string w n 9 _ _ (by kernel_rfl)) (eqF_cons (a := (.int .i64 x.Start)) (b := (.int .i64 y.Start)) (by decide) (by kernel_rfl) (by kernel_rfl) (run_equalIn_int w n 2 .i64 .i64 _ _ (by kernel_rfl)) (eqF_nil w)))
theorem bl_25_3_0_1_2 (y0 : Sl) (y1 : Sl) (y2 : Sl) : ∀ w, (Instr.buildSlice 25 3 ([(0, y0.enc), (1, y1.enc), (2, y2.enc)] : List (Nat × Value)).toArray).run PP w = .ok (.slice (some ⟨w.heap.size, 0, none⟩) 3 3) { w with heap := w.heap.push (.cells #[y0.enc, y1.enc, y2.enc] ty_23) } := fun w => by kernel_rfl
theorem bl_29_1_0 (y0 : ByteArray) : ∀ w, (Instr.buildSlice 29 1 ([(0, (.string y0))] : List (Nat × Value)).toArray).run PP w = .ok (.slice (some ⟨w.heap.size, 0, none⟩) 1 1) { w with heap := w.heap.push (.cells #[(.string y0)] ty_9) } := fun w => by kernel_rfl
theorem bl_74_3_0_1_2 (y0 : Sl) (y1 : Sl) (y2 : Sl) : ∀ w, (Instr.buildSlice 74 3 ([(0, y0.enc), (1, y1.enc), (2, y2.enc)] : List (Nat × Value)).toArray).run PP w = .ok (.slice (some ⟨w.heap.size, 0, none⟩) 3 3) { w with heap := w.heap.push (.cells #[y0.enc, y1.enc, y2.enc] ty_29) } := fun w => by kernel_rfl
theorem bd_34_0_1_2 (y0 : Int) (y1 : ByteArray) (y2 : Int) : ∀ w, (Instr.build 34 ([(0, (.int .i64 y0)), (1, (.string y1)), (2, (.int .i64 y2))] : List (Nat × Value)).toArray).run PP w = .ok (.agg (⟨y0, y1, y2⟩ : S_api_Cell).cells.toArray) w := fun w => by kernel_rfl
theorem cmpS_56 : CmpS PP 56 := cmpS_of Try.func56 (by kernel_rfl) (by kernel_rfl) (by kernel_rfl) (by kernel_rfl)
theorem bl_51_1_0 (y0 : S_api_Row) : ∀ w, (Instr.buildSlice 51 1 ([(0, (.agg y0.cells.toArray))] : List (Nat × Value)).toArray).run PP w = .ok (.slice (some ⟨w.heap.size, 0, none⟩) 1 1) { w with heap := w.heap.push (.cells ((y0.cells).toArray) ty_66) } := fun w => by kernel_rfl
theorem bl_53_3_0_1_2 (y0 : Sl) (y1 : Sl) (y2 : Sl) : ∀ w, (Instr.buildSlice 53 3 ([(0, y0.enc), (1, y1.enc), (2, y2.enc)] : List (Nat × Value)).toArray).run PP w = .ok (.slice (some ⟨w.heap.size, 0, none⟩) 3 3) { w with heap := w.heap.push (.cells #[y0.enc, y1.enc, y2.enc] ty_51) } := fun w => by kernel_rfl
theorem bd_57_4 (y4 : Sl) : ∀ w, (Instr.build 57 ([(4, y4.enc)] : List (Nat × Value)).toArray).run PP w = .ok (.agg (⟨0, 0, 0, 0, y4, (⟨0, 0, 0, 0, 0, 0⟩ : S_api_Stats)⟩ : S_api_Response).cells.toArray) w := fun w => by kernel_rfl
theorem fl_57_4 (x : S_api_Response) : ∀ w, (Instr.field 57 (.agg x.cells.toArray) 4).run PP w = .ok x.Rows.enc w := fun w => by kernel_rfl
theorem bd_88_0_1 (y0 : Sl) (y1 : Int) : ∀ w, (Instr.build 88 ([(0, y0.enc), (1, (.int .i64 y1))] : List (Nat × Value)).toArray).run PP w = .ok (.agg (⟨y0, y1⟩ : S_merge_front).cells.toArray) w := fun w => by kernel_rfl
theorem bl_86_1_0 (y0 : S_merge_front) : ∀ w, (Instr.buildSlice 86 1 ([(0, (.agg y0.cells.toArray))] : List (Nat × Value)).toArray).run PP w = .ok (.slice (some ⟨w.heap.size, 0, none⟩) 1 1) { w with heap := w.heap.push (.cells ((y0.cells).toArray) ty_88) } := fun w => by kernel_rfl
theorem mt_90_Len : MtF PP 90 86 "Len" 74 false := ⟨Try.underlying90, by kernel_rfl⟩
theorem mt_90_Less : MtF PP 90 86 "Less" 75 false := ⟨Try.underlying90, by kernel_rfl⟩
theorem mt_90_Swap : MtF PP 90 86 "Swap" 76 false := ⟨Try.underlying90, by kernel_rfl⟩
theorem mt_90_Pop : MtF PP 90 86 "Pop" 77 true := ⟨Try.underlying90, by kernel_rfl⟩
theorem eqg_64 : PP.eqGuardType PP.depth 64 = false := by kernel_rfl
theorem eqst_64 (x y : S_api_Agg) (n : Nat) (w : World) : (Op.equalIn (n + 2) 64 (.agg x.cells.toArray) (.agg y.cells.toArray)).run PP w = .ok ((x.Count == y.Count) && ((x.Sum == y.Sum) && ((x.Min == y.Min) && ((x.Max == y.Max) && true)))) w := by
  rw [run_equalIn_agg w (n + 1) 64 _ _ (by kernel_rfl) (by kernel_rfl), show (PP.fieldsOf 64).toList = (#[({ name := "Count", type := 2, offset := 0, embedded := false, tag := "", pkgPath := "", byteOffset := 0 } : Field), ({ name := "Sum", type := 2, offset := 1, embedded := false, tag := "", pkgPath := "", byteOffset := 8 } : Field), ({ name := "Min", type := 2, offset := 2, embedded := false, tag := "", pkgPath := "", byteOffset := 16 } : Field), ({ name := "Max", type := 2, offset := 3, embedded := false, tag := "", pkgPath := "", byteOffset := 24 } : Field)]).toList from by kernel_rfl]
  exact eqF_cons (a := (.int .i64 x.Count)) (b := (.int .i64 y.Count)) (by decide) (by kernel_rfl) (by kernel_rfl) (run_equalIn_int w n 2 .i64 .i64 _ _ (by kernel_rfl)) (eqF_cons (a := (.int .i64 x.Sum)) (b := (.int .i64 y.Sum)) (by decide) (by kernel_rfl) (by kernel_rfl) (run_equalIn_int w n 2 .i64 .i64 _ _ (by kernel_rfl)) (eqF_cons (a := (.int .i64 x.Min)) (b := (.int .i64 y.Min)) (by decide) (by kernel_rfl) (by kernel_rfl) (run_equalIn_int w n 2 .i64 .i64 _ _ (by kernel_rfl)) (eqF_cons (a := (.int .i64 x.Max)) (b := (.int .i64 y.Max)) (by decide) (by kernel_rfl) (by kernel_rfl) (run_equalIn_int w n 2 .i64 .i64 _ _ (by kernel_rfl)) (eqF_nil w))))
theorem eqg_66 : PP.eqGuardType PP.depth 66 = false := by kernel_rfl
theorem eqst_66 (x y : S_api_Row) (n : Nat) (w : World) : (Op.equalIn (n + 3) 66 (.agg x.cells.toArray) (.agg y.cells.toArray)).run PP w = .ok ((((x.Cell.View == y.Cell.View) && ((x.Cell.Key.toList == y.Cell.Key.toList) && ((x.Cell.Start == y.Cell.Start) && true)))) && ((((x.Agg.Count == y.Agg.Count) && ((x.Agg.Sum == y.Agg.Sum) && ((x.Agg.Min == y.Agg.Min) && ((x.Agg.Max == y.Agg.Max) && true))))) && true)) w := by
  rw [run_equalIn_agg w (n + 2) 66 _ _ (by kernel_rfl) (by kernel_rfl), show (PP.fieldsOf 66).toList = (#[({ name := "Cell", type := 34, offset := 0, embedded := true, tag := "", pkgPath := "", byteOffset := 0 } : Field), ({ name := "Agg", type := 64, offset := 3, embedded := true, tag := "", pkgPath := "", byteOffset := 32 } : Field)]).toList from by kernel_rfl]
  exact eqF_cons (a := (.agg x.Cell.cells.toArray)) (b := (.agg y.Cell.cells.toArray)) (by decide) (by kernel_rfl) (by kernel_rfl) (eqst_34 _ _ (n + 0) w) (eqF_cons (a := (.agg x.Agg.cells.toArray)) (b := (.agg y.Agg.cells.toArray)) (by decide) (by kernel_rfl) (by kernel_rfl) (eqst_64 _ _ (n + 0) w) (eqF_nil w))
theorem bd_66_0 (y0 : S_api_Cell) : ∀ w, (Instr.build 66 ([(0, (.agg y0.cells.toArray))] : List (Nat × Value)).toArray).run PP w = .ok (.agg (⟨y0, (⟨0, 0, 0, 0⟩ : S_api_Agg)⟩ : S_api_Row).cells.toArray) w := fun w => by kernel_rfl
theorem bl_53_1_0 (y0 : Sl) : ∀ w, (Instr.buildSlice 53 1 ([(0, y0.enc)] : List (Nat × Value)).toArray).run PP w = .ok (.slice (some ⟨w.heap.size, 0, none⟩) 1 1) { w with heap := w.heap.push (.cells #[y0.enc] ty_51) } := fun w => by kernel_rfl
theorem bl_53_2_0_1 (y0 : Sl) (y1 : Sl) : ∀ w, (Instr.buildSlice 53 2 ([(0, y0.enc), (1, y1.enc)] : List (Nat × Value)).toArray).run PP w = .ok (.slice (some ⟨w.heap.size, 0, none⟩) 2 2) { w with heap := w.heap.push (.cells #[y0.enc, y1.enc] ty_51) } := fun w => by kernel_rfl
theorem bl_25_1_0 (y0 : Sl) : ∀ w, (Instr.buildSlice 25 1 ([(0, y0.enc)] : List (Nat × Value)).toArray).run PP w = .ok (.slice (some ⟨w.heap.size, 0, none⟩) 1 1) { w with heap := w.heap.push (.cells #[y0.enc] ty_23) } := fun w => by kernel_rfl
theorem bl_51_0_  : ∀ w, (Instr.buildSlice 51 0 ([] : List (Nat × Value)).toArray).run PP w = .ok (.slice (some ⟨w.heap.size, 0, none⟩) 0 0) { w with heap := w.heap.push (.cells (([]).toArray) ty_66) } := fun w => by kernel_rfl
theorem bl_23_0_  : ∀ w, (Instr.buildSlice 23 0 ([] : List (Nat × Value)).toArray).run PP w = .ok (.slice (some ⟨w.heap.size, 0, none⟩) 0 0) { w with heap := w.heap.push (.cells #[] ty_3) } := fun w => by kernel_rfl
theorem bd_66_  : ∀ w, (Instr.build 66 ([] : List (Nat × Value)).toArray).run PP w = .ok (.agg (⟨(⟨0, (⟨#[]⟩ : ByteArray), 0⟩ : S_api_Cell), (⟨0, 0, 0, 0⟩ : S_api_Agg)⟩ : S_api_Row).cells.toArray) w := fun w => by kernel_rfl
theorem bl_51_2_0_1 (y0 : S_api_Row) (y1 : S_api_Row) : ∀ w, (Instr.buildSlice 51 2 ([(0, (.agg y0.cells.toArray)), (1, (.agg y1.cells.toArray))] : List (Nat × Value)).toArray).run PP w = .ok (.slice (some ⟨w.heap.size, 0, none⟩) 2 2) { w with heap := w.heap.push (.cells ((y0.cells ++ y1.cells).toArray) ty_66) } := fun w => by kernel_rfl
theorem bd_34_1_2 (y1 : ByteArray) (y2 : Int) : ∀ w, (Instr.build 34 ([(1, (.string y1)), (2, (.int .i64 y2))] : List (Nat × Value)).toArray).run PP w = .ok (.agg (⟨0, y1, y2⟩ : S_api_Cell).cells.toArray) w := fun w => by kernel_rfl
theorem bd_64_0 (y0 : Int) : ∀ w, (Instr.build 64 ([(0, (.int .i64 y0))] : List (Nat × Value)).toArray).run PP w = .ok (.agg (⟨y0, 0, 0, 0⟩ : S_api_Agg).cells.toArray) w := fun w => by kernel_rfl
theorem bd_66_0_1 (y0 : S_api_Cell) (y1 : S_api_Agg) : ∀ w, (Instr.build 66 ([(0, (.agg y0.cells.toArray)), (1, (.agg y1.cells.toArray))] : List (Nat × Value)).toArray).run PP w = .ok (.agg (⟨y0, y1⟩ : S_api_Row).cells.toArray) w := fun w => by kernel_rfl
theorem bd_64_0_1_2_3 (y0 : Int) (y1 : Int) (y2 : Int) (y3 : Int) : ∀ w, (Instr.build 64 ([(0, (.int .i64 y0)), (1, (.int .i64 y1)), (2, (.int .i64 y2)), (3, (.int .i64 y3))] : List (Nat × Value)).toArray).run PP w = .ok (.agg (⟨y0, y1, y2, y3⟩ : S_api_Agg).cells.toArray) w := fun w => by kernel_rfl

end Go.Proofs.Ytidpbnbjpglhfaa.V
