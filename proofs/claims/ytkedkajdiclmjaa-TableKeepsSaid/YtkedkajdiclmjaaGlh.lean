/- Printed by a program of this session (gen.py): for each Go function a Lean function over the heap, and that the Go code does what it says; no condition. -/
import Derived.Test.YtkedkajdiclmjaaVn
import Derived.Test.YtkedkajdiclmjaaVr
import Derived.Test.YtkedkajdiclmjaaProg
namespace Go.Proofs.Ytkedkajdiclmjaa.V
open Go
set_option linter.unusedVariables false
set_option maxRecDepth 100000
noncomputable abbrev PP : Program := Try.prog
theorem mixed : PP.follows .mixedOrders = true := by kernel_rfl
theorem one1 {u : Value} (h : u.oneCell' = true) : ∀ v ∈ [u], v.oneCell' = true := by intro v hv; simp at hv; subst hv; exact h
theorem ones_app {a b : List Value} (ha : ∀ v ∈ a, v.oneCell' = true) (hb : ∀ v ∈ b, v.oneCell' = true) : ∀ v ∈ a ++ b, v.oneCell' = true := fun v hv => (List.mem_append.1 hv).elim (ha v) (hb v)
structure S_table_Table_string where
  row : Sl
  elder : Sl
  moved : Int
  count : Int
def S_table_Table_string.cells (x : S_table_Table_string) : List Value := [x.row.enc] ++ [x.elder.enc] ++ [(.int .i64 x.moved)] ++ [(.int .i64 x.count)]
def ld_S_table_Table_string (h : H) (a : Addr) (K : S_table_Table_string → Prop) : Prop := ∃ x : S_table_Table_string, Cells h a x.cells ∧ K x
theorem ones_S_table_Table_string (x : S_table_Table_string) : ∀ v ∈ x.cells, v.oneCell' = true := ones_app (ones_app (ones_app (one1 rfl) (one1 rfl)) (one1 rfl)) (one1 rfl)
structure S_table_place_string where
  is_ : Int
  key : ByteArray
  value : ByteArray
def S_table_place_string.cells (x : S_table_place_string) : List Value := [(.int .u8 x.is_)] ++ [(.string x.key)] ++ [(.string x.value)]
def ld_S_table_place_string (h : H) (a : Addr) (K : S_table_place_string → Prop) : Prop := ∃ x : S_table_place_string, Cells h a x.cells ∧ K x
theorem ones_S_table_place_string (x : S_table_place_string) : ∀ v ∈ x.cells, v.oneCell' = true := ones_app (ones_app (one1 rfl) (one1 rfl)) (one1 rfl)
structure S_table_Table_int where
  row : Sl
  elder : Sl
  moved : Int
  count : Int
def S_table_Table_int.cells (x : S_table_Table_int) : List Value := [x.row.enc] ++ [x.elder.enc] ++ [(.int .i64 x.moved)] ++ [(.int .i64 x.count)]
def ld_S_table_Table_int (h : H) (a : Addr) (K : S_table_Table_int → Prop) : Prop := ∃ x : S_table_Table_int, Cells h a x.cells ∧ K x
theorem ones_S_table_Table_int (x : S_table_Table_int) : ∀ v ∈ x.cells, v.oneCell' = true := ones_app (ones_app (ones_app (one1 rfl) (one1 rfl)) (one1 rfl)) (one1 rfl)
structure S_table_place_int where
  is_ : Int
  key : ByteArray
  value : Int
def S_table_place_int.cells (x : S_table_place_int) : List Value := [(.int .u8 x.is_)] ++ [(.string x.key)] ++ [(.int .i64 x.value)]
def ld_S_table_place_int (h : H) (a : Addr) (K : S_table_place_int → Prop) : Prop := ∃ x : S_table_place_int, Cells h a x.cells ∧ K x
theorem ones_S_table_place_int (x : S_table_place_int) : ∀ v ∈ x.cells, v.oneCell' = true := ones_app (ones_app (one1 rfl) (one1 rfl)) (one1 rfl)
structure S_table_Table_Slint where
  row : Sl
  elder : Sl
  moved : Int
  count : Int
def S_table_Table_Slint.cells (x : S_table_Table_Slint) : List Value := [x.row.enc] ++ [x.elder.enc] ++ [(.int .i64 x.moved)] ++ [(.int .i64 x.count)]
def ld_S_table_Table_Slint (h : H) (a : Addr) (K : S_table_Table_Slint → Prop) : Prop := ∃ x : S_table_Table_Slint, Cells h a x.cells ∧ K x
theorem ones_S_table_Table_Slint (x : S_table_Table_Slint) : ∀ v ∈ x.cells, v.oneCell' = true := ones_app (ones_app (ones_app (one1 rfl) (one1 rfl)) (one1 rfl)) (one1 rfl)
structure S_spatelaw6_Step where
  Kind : Int
  N : Int
  Key : ByteArray
def S_spatelaw6_Step.cells (x : S_spatelaw6_Step) : List Value := [(.int .i64 x.Kind)] ++ [(.int .i64 x.N)] ++ [(.string x.Key)]
def ld_S_spatelaw6_Step (h : H) (a : Addr) (K : S_spatelaw6_Step → Prop) : Prop := ∃ x : S_spatelaw6_Step, Cells h a x.cells ∧ K x
theorem ones_S_spatelaw6_Step (x : S_spatelaw6_Step) : ∀ v ∈ x.cells, v.oneCell' = true := ones_app (ones_app (one1 rfl) (one1 rfl)) (one1 rfl)
structure S_table_place_Slint where
  is_ : Int
  key : ByteArray
  value : Sl
def S_table_place_Slint.cells (x : S_table_place_Slint) : List Value := [(.int .u8 x.is_)] ++ [(.string x.key)] ++ [x.value.enc]
def ld_S_table_place_Slint (h : H) (a : Addr) (K : S_table_place_Slint → Prop) : Prop := ∃ x : S_table_place_Slint, Cells h a x.cells ∧ K x
theorem ones_S_table_place_Slint (x : S_table_place_Slint) : ∀ v ∈ x.cells, v.oneCell' = true := ones_app (ones_app (one1 rfl) (one1 rfl)) (one1 rfl)
abbrev ty_3 : TypeId := 3
abbrev ty_4 : TypeId := 4
abbrev ty_5 : TypeId := 5
abbrev ty_9 : TypeId := 9
abbrev ty_30 : TypeId := 30
abbrev ty_37 : TypeId := 37
abbrev ty_46 : TypeId := 46
abbrev ty_48 : TypeId := 48
abbrev ty_50 : TypeId := 50
abbrev ty_65 : TypeId := 65
abbrev ty_71 : TypeId := 71
abbrev ty_73 : TypeId := 73
abbrev ty_77 : TypeId := 77
abbrev ty_87 : TypeId := 87
abbrev ty_89 : TypeId := 89
abbrev ty_93 : TypeId := 93
abbrev ty_96 : TypeId := 96
abbrev ty_109 : TypeId := 109
theorem fo_46_0 : ∀ w, Sem.run PP (do match (#[({ name := "Kind", type := 3, offset := 0, embedded := false, tag := "", pkgPath := "", byteOffset := 0 } : Field), ({ name := "N", type := 3, offset := 1, embedded := false, tag := "", pkgPath := "", byteOffset := 8 } : Field), ({ name := "Key", type := 9, offset := 2, embedded := false, tag := "", pkgPath := "", byteOffset := 16 } : Field)])[0]? with | some fd => (do pure (fd.offset, (← sizeOf fd.type) != 0)) | none => pure (0, false) : Sem (Nat × Bool)) w = .ok (0, true) w := fun w => by kernel_rfl
theorem fo_46_1 : ∀ w, Sem.run PP (do match (#[({ name := "Kind", type := 3, offset := 0, embedded := false, tag := "", pkgPath := "", byteOffset := 0 } : Field), ({ name := "N", type := 3, offset := 1, embedded := false, tag := "", pkgPath := "", byteOffset := 8 } : Field), ({ name := "Key", type := 9, offset := 2, embedded := false, tag := "", pkgPath := "", byteOffset := 16 } : Field)])[1]? with | some fd => (do pure (fd.offset, (← sizeOf fd.type) != 0)) | none => pure (0, false) : Sem (Nat × Bool)) w = .ok (1, true) w := fun w => by kernel_rfl
theorem fo_46_2 : ∀ w, Sem.run PP (do match (#[({ name := "Kind", type := 3, offset := 0, embedded := false, tag := "", pkgPath := "", byteOffset := 0 } : Field), ({ name := "N", type := 3, offset := 1, embedded := false, tag := "", pkgPath := "", byteOffset := 8 } : Field), ({ name := "Key", type := 9, offset := 2, embedded := false, tag := "", pkgPath := "", byteOffset := 16 } : Field)])[2]? with | some fd => (do pure (fd.offset, (← sizeOf fd.type) != 0)) | none => pure (0, false) : Sem (Nat × Bool)) w = .ok (2, true) w := fun w => by kernel_rfl
theorem fo_65_0 : ∀ w, Sem.run PP (do match (#[({ name := "row", type := 63, offset := 0, embedded := false, tag := "", pkgPath := "spate/table", byteOffset := 0 } : Field), ({ name := "elder", type := 63, offset := 1, embedded := false, tag := "", pkgPath := "spate/table", byteOffset := 24 } : Field), ({ name := "moved", type := 3, offset := 2, embedded := false, tag := "", pkgPath := "spate/table", byteOffset := 48 } : Field), ({ name := "count", type := 3, offset := 3, embedded := false, tag := "", pkgPath := "spate/table", byteOffset := 56 } : Field)])[0]? with | some fd => (do pure (fd.offset, (← sizeOf fd.type) != 0)) | none => pure (0, false) : Sem (Nat × Bool)) w = .ok (0, true) w := fun w => by kernel_rfl
theorem fo_65_1 : ∀ w, Sem.run PP (do match (#[({ name := "row", type := 63, offset := 0, embedded := false, tag := "", pkgPath := "spate/table", byteOffset := 0 } : Field), ({ name := "elder", type := 63, offset := 1, embedded := false, tag := "", pkgPath := "spate/table", byteOffset := 24 } : Field), ({ name := "moved", type := 3, offset := 2, embedded := false, tag := "", pkgPath := "spate/table", byteOffset := 48 } : Field), ({ name := "count", type := 3, offset := 3, embedded := false, tag := "", pkgPath := "spate/table", byteOffset := 56 } : Field)])[1]? with | some fd => (do pure (fd.offset, (← sizeOf fd.type) != 0)) | none => pure (0, false) : Sem (Nat × Bool)) w = .ok (1, true) w := fun w => by kernel_rfl
theorem fo_65_2 : ∀ w, Sem.run PP (do match (#[({ name := "row", type := 63, offset := 0, embedded := false, tag := "", pkgPath := "spate/table", byteOffset := 0 } : Field), ({ name := "elder", type := 63, offset := 1, embedded := false, tag := "", pkgPath := "spate/table", byteOffset := 24 } : Field), ({ name := "moved", type := 3, offset := 2, embedded := false, tag := "", pkgPath := "spate/table", byteOffset := 48 } : Field), ({ name := "count", type := 3, offset := 3, embedded := false, tag := "", pkgPath := "spate/table", byteOffset := 56 } : Field)])[2]? with | some fd => (do pure (fd.offset, (← sizeOf fd.type) != 0)) | none => pure (0, false) : Sem (Nat × Bool)) w = .ok (2, true) w := fun w => by kernel_rfl
theorem fo_65_3 : ∀ w, Sem.run PP (do match (#[({ name := "row", type := 63, offset := 0, embedded := false, tag := "", pkgPath := "spate/table", byteOffset := 0 } : Field), ({ name := "elder", type := 63, offset := 1, embedded := false, tag := "", pkgPath := "spate/table", byteOffset := 24 } : Field), ({ name := "moved", type := 3, offset := 2, embedded := false, tag := "", pkgPath := "spate/table", byteOffset := 48 } : Field), ({ name := "count", type := 3, offset := 3, embedded := false, tag := "", pkgPath := "spate/table", byteOffset := 56 } : Field)])[3]? with | some fd => (do pure (fd.offset, (← sizeOf fd.type) != 0)) | none => pure (0, false) : Sem (Nat × Bool)) w = .ok (3, true) w := fun w => by kernel_rfl
theorem fo_68_0 : ∀ w, Sem.run PP (do match (#[({ name := "is", type := 5, offset := 0, embedded := false, tag := "", pkgPath := "spate/table", byteOffset := 0 } : Field), ({ name := "key", type := 9, offset := 1, embedded := false, tag := "", pkgPath := "spate/table", byteOffset := 8 } : Field), ({ name := "value", type := 9, offset := 2, embedded := false, tag := "", pkgPath := "spate/table", byteOffset := 24 } : Field)])[0]? with | some fd => (do pure (fd.offset, (← sizeOf fd.type) != 0)) | none => pure (0, false) : Sem (Nat × Bool)) w = .ok (0, true) w := fun w => by kernel_rfl
theorem fo_68_1 : ∀ w, Sem.run PP (do match (#[({ name := "is", type := 5, offset := 0, embedded := false, tag := "", pkgPath := "spate/table", byteOffset := 0 } : Field), ({ name := "key", type := 9, offset := 1, embedded := false, tag := "", pkgPath := "spate/table", byteOffset := 8 } : Field), ({ name := "value", type := 9, offset := 2, embedded := false, tag := "", pkgPath := "spate/table", byteOffset := 24 } : Field)])[1]? with | some fd => (do pure (fd.offset, (← sizeOf fd.type) != 0)) | none => pure (0, false) : Sem (Nat × Bool)) w = .ok (1, true) w := fun w => by kernel_rfl
theorem fo_73_0 : ∀ w, Sem.run PP (do match (#[({ name := "row", type := 71, offset := 0, embedded := false, tag := "", pkgPath := "spate/table", byteOffset := 0 } : Field), ({ name := "elder", type := 71, offset := 1, embedded := false, tag := "", pkgPath := "spate/table", byteOffset := 24 } : Field), ({ name := "moved", type := 3, offset := 2, embedded := false, tag := "", pkgPath := "spate/table", byteOffset := 48 } : Field), ({ name := "count", type := 3, offset := 3, embedded := false, tag := "", pkgPath := "spate/table", byteOffset := 56 } : Field)])[0]? with | some fd => (do pure (fd.offset, (← sizeOf fd.type) != 0)) | none => pure (0, false) : Sem (Nat × Bool)) w = .ok (0, true) w := fun w => by kernel_rfl
theorem fo_73_1 : ∀ w, Sem.run PP (do match (#[({ name := "row", type := 71, offset := 0, embedded := false, tag := "", pkgPath := "spate/table", byteOffset := 0 } : Field), ({ name := "elder", type := 71, offset := 1, embedded := false, tag := "", pkgPath := "spate/table", byteOffset := 24 } : Field), ({ name := "moved", type := 3, offset := 2, embedded := false, tag := "", pkgPath := "spate/table", byteOffset := 48 } : Field), ({ name := "count", type := 3, offset := 3, embedded := false, tag := "", pkgPath := "spate/table", byteOffset := 56 } : Field)])[1]? with | some fd => (do pure (fd.offset, (← sizeOf fd.type) != 0)) | none => pure (0, false) : Sem (Nat × Bool)) w = .ok (1, true) w := fun w => by kernel_rfl
theorem fo_73_2 : ∀ w, Sem.run PP (do match (#[({ name := "row", type := 71, offset := 0, embedded := false, tag := "", pkgPath := "spate/table", byteOffset := 0 } : Field), ({ name := "elder", type := 71, offset := 1, embedded := false, tag := "", pkgPath := "spate/table", byteOffset := 24 } : Field), ({ name := "moved", type := 3, offset := 2, embedded := false, tag := "", pkgPath := "spate/table", byteOffset := 48 } : Field), ({ name := "count", type := 3, offset := 3, embedded := false, tag := "", pkgPath := "spate/table", byteOffset := 56 } : Field)])[2]? with | some fd => (do pure (fd.offset, (← sizeOf fd.type) != 0)) | none => pure (0, false) : Sem (Nat × Bool)) w = .ok (2, true) w := fun w => by kernel_rfl
theorem fo_73_3 : ∀ w, Sem.run PP (do match (#[({ name := "row", type := 71, offset := 0, embedded := false, tag := "", pkgPath := "spate/table", byteOffset := 0 } : Field), ({ name := "elder", type := 71, offset := 1, embedded := false, tag := "", pkgPath := "spate/table", byteOffset := 24 } : Field), ({ name := "moved", type := 3, offset := 2, embedded := false, tag := "", pkgPath := "spate/table", byteOffset := 48 } : Field), ({ name := "count", type := 3, offset := 3, embedded := false, tag := "", pkgPath := "spate/table", byteOffset := 56 } : Field)])[3]? with | some fd => (do pure (fd.offset, (← sizeOf fd.type) != 0)) | none => pure (0, false) : Sem (Nat × Bool)) w = .ok (3, true) w := fun w => by kernel_rfl
theorem fo_77_0 : ∀ w, Sem.run PP (do match (#[({ name := "is", type := 5, offset := 0, embedded := false, tag := "", pkgPath := "spate/table", byteOffset := 0 } : Field), ({ name := "key", type := 9, offset := 1, embedded := false, tag := "", pkgPath := "spate/table", byteOffset := 8 } : Field), ({ name := "value", type := 3, offset := 2, embedded := false, tag := "", pkgPath := "spate/table", byteOffset := 24 } : Field)])[0]? with | some fd => (do pure (fd.offset, (← sizeOf fd.type) != 0)) | none => pure (0, false) : Sem (Nat × Bool)) w = .ok (0, true) w := fun w => by kernel_rfl
theorem fo_77_1 : ∀ w, Sem.run PP (do match (#[({ name := "is", type := 5, offset := 0, embedded := false, tag := "", pkgPath := "spate/table", byteOffset := 0 } : Field), ({ name := "key", type := 9, offset := 1, embedded := false, tag := "", pkgPath := "spate/table", byteOffset := 8 } : Field), ({ name := "value", type := 3, offset := 2, embedded := false, tag := "", pkgPath := "spate/table", byteOffset := 24 } : Field)])[1]? with | some fd => (do pure (fd.offset, (← sizeOf fd.type) != 0)) | none => pure (0, false) : Sem (Nat × Bool)) w = .ok (1, true) w := fun w => by kernel_rfl
theorem fo_77_2 : ∀ w, Sem.run PP (do match (#[({ name := "is", type := 5, offset := 0, embedded := false, tag := "", pkgPath := "spate/table", byteOffset := 0 } : Field), ({ name := "key", type := 9, offset := 1, embedded := false, tag := "", pkgPath := "spate/table", byteOffset := 8 } : Field), ({ name := "value", type := 3, offset := 2, embedded := false, tag := "", pkgPath := "spate/table", byteOffset := 24 } : Field)])[2]? with | some fd => (do pure (fd.offset, (← sizeOf fd.type) != 0)) | none => pure (0, false) : Sem (Nat × Bool)) w = .ok (2, true) w := fun w => by kernel_rfl
theorem fo_89_0 : ∀ w, Sem.run PP (do match (#[({ name := "row", type := 87, offset := 0, embedded := false, tag := "", pkgPath := "spate/table", byteOffset := 0 } : Field), ({ name := "elder", type := 87, offset := 1, embedded := false, tag := "", pkgPath := "spate/table", byteOffset := 24 } : Field), ({ name := "moved", type := 3, offset := 2, embedded := false, tag := "", pkgPath := "spate/table", byteOffset := 48 } : Field), ({ name := "count", type := 3, offset := 3, embedded := false, tag := "", pkgPath := "spate/table", byteOffset := 56 } : Field)])[0]? with | some fd => (do pure (fd.offset, (← sizeOf fd.type) != 0)) | none => pure (0, false) : Sem (Nat × Bool)) w = .ok (0, true) w := fun w => by kernel_rfl
theorem fo_89_1 : ∀ w, Sem.run PP (do match (#[({ name := "row", type := 87, offset := 0, embedded := false, tag := "", pkgPath := "spate/table", byteOffset := 0 } : Field), ({ name := "elder", type := 87, offset := 1, embedded := false, tag := "", pkgPath := "spate/table", byteOffset := 24 } : Field), ({ name := "moved", type := 3, offset := 2, embedded := false, tag := "", pkgPath := "spate/table", byteOffset := 48 } : Field), ({ name := "count", type := 3, offset := 3, embedded := false, tag := "", pkgPath := "spate/table", byteOffset := 56 } : Field)])[1]? with | some fd => (do pure (fd.offset, (← sizeOf fd.type) != 0)) | none => pure (0, false) : Sem (Nat × Bool)) w = .ok (1, true) w := fun w => by kernel_rfl
theorem fo_89_2 : ∀ w, Sem.run PP (do match (#[({ name := "row", type := 87, offset := 0, embedded := false, tag := "", pkgPath := "spate/table", byteOffset := 0 } : Field), ({ name := "elder", type := 87, offset := 1, embedded := false, tag := "", pkgPath := "spate/table", byteOffset := 24 } : Field), ({ name := "moved", type := 3, offset := 2, embedded := false, tag := "", pkgPath := "spate/table", byteOffset := 48 } : Field), ({ name := "count", type := 3, offset := 3, embedded := false, tag := "", pkgPath := "spate/table", byteOffset := 56 } : Field)])[2]? with | some fd => (do pure (fd.offset, (← sizeOf fd.type) != 0)) | none => pure (0, false) : Sem (Nat × Bool)) w = .ok (2, true) w := fun w => by kernel_rfl
theorem fo_89_3 : ∀ w, Sem.run PP (do match (#[({ name := "row", type := 87, offset := 0, embedded := false, tag := "", pkgPath := "spate/table", byteOffset := 0 } : Field), ({ name := "elder", type := 87, offset := 1, embedded := false, tag := "", pkgPath := "spate/table", byteOffset := 24 } : Field), ({ name := "moved", type := 3, offset := 2, embedded := false, tag := "", pkgPath := "spate/table", byteOffset := 48 } : Field), ({ name := "count", type := 3, offset := 3, embedded := false, tag := "", pkgPath := "spate/table", byteOffset := 56 } : Field)])[3]? with | some fd => (do pure (fd.offset, (← sizeOf fd.type) != 0)) | none => pure (0, false) : Sem (Nat × Bool)) w = .ok (3, true) w := fun w => by kernel_rfl
theorem fo_93_0 : ∀ w, Sem.run PP (do match (#[({ name := "is", type := 5, offset := 0, embedded := false, tag := "", pkgPath := "spate/table", byteOffset := 0 } : Field), ({ name := "key", type := 9, offset := 1, embedded := false, tag := "", pkgPath := "spate/table", byteOffset := 8 } : Field), ({ name := "value", type := 38, offset := 2, embedded := false, tag := "", pkgPath := "spate/table", byteOffset := 24 } : Field)])[0]? with | some fd => (do pure (fd.offset, (← sizeOf fd.type) != 0)) | none => pure (0, false) : Sem (Nat × Bool)) w = .ok (0, true) w := fun w => by kernel_rfl
theorem fo_93_1 : ∀ w, Sem.run PP (do match (#[({ name := "is", type := 5, offset := 0, embedded := false, tag := "", pkgPath := "spate/table", byteOffset := 0 } : Field), ({ name := "key", type := 9, offset := 1, embedded := false, tag := "", pkgPath := "spate/table", byteOffset := 8 } : Field), ({ name := "value", type := 38, offset := 2, embedded := false, tag := "", pkgPath := "spate/table", byteOffset := 24 } : Field)])[1]? with | some fd => (do pure (fd.offset, (← sizeOf fd.type) != 0)) | none => pure (0, false) : Sem (Nat × Bool)) w = .ok (1, true) w := fun w => by kernel_rfl
theorem fo_93_2 : ∀ w, Sem.run PP (do match (#[({ name := "is", type := 5, offset := 0, embedded := false, tag := "", pkgPath := "spate/table", byteOffset := 0 } : Field), ({ name := "key", type := 9, offset := 1, embedded := false, tag := "", pkgPath := "spate/table", byteOffset := 8 } : Field), ({ name := "value", type := 38, offset := 2, embedded := false, tag := "", pkgPath := "spate/table", byteOffset := 24 } : Field)])[2]? with | some fd => (do pure (fd.offset, (← sizeOf fd.type) != 0)) | none => pure (0, false) : Sem (Nat × Bool)) w = .ok (2, true) w := fun w => by kernel_rfl
theorem bd_65_0 (y0 : Sl) : ∀ w, (Instr.build 65 ([(0, y0.enc)] : List (Nat × Value)).toArray).run PP w = .ok (.agg (⟨y0, (⟨none, 0, 0⟩ : Sl), 0, 0⟩ : S_table_Table_string).cells.toArray) w := fun w => by kernel_rfl
theorem bd_68_0 (y0 : Int) : ∀ w, (Instr.build 68 ([(0, (.int .u8 y0))] : List (Nat × Value)).toArray).run PP w = .ok (.agg (⟨y0, (⟨#[]⟩ : ByteArray), (⟨#[]⟩ : ByteArray)⟩ : S_table_place_string).cells.toArray) w := fun w => by kernel_rfl
theorem bd_73_0 (y0 : Sl) : ∀ w, (Instr.build 73 ([(0, y0.enc)] : List (Nat × Value)).toArray).run PP w = .ok (.agg (⟨y0, (⟨none, 0, 0⟩ : Sl), 0, 0⟩ : S_table_Table_int).cells.toArray) w := fun w => by kernel_rfl
theorem bl_70_1_0 (y0 : Int) : ∀ w, (Instr.buildSlice 70 1 ([(0, (.int .u8 y0))] : List (Nat × Value)).toArray).run PP w = .ok (.slice (some ⟨w.heap.size, 0, none⟩) 1 1) { w with heap := w.heap.push (.cells #[(.int .u8 y0)] ty_5) } := fun w => by kernel_rfl
theorem bd_77_0 (y0 : Int) : ∀ w, (Instr.build 77 ([(0, (.int .u8 y0))] : List (Nat × Value)).toArray).run PP w = .ok (.agg (⟨y0, (⟨#[]⟩ : ByteArray), 0⟩ : S_table_place_int).cells.toArray) w := fun w => by kernel_rfl
theorem bd_77_0_1_2 (y0 : Int) (y1 : ByteArray) (y2 : Int) : ∀ w, (Instr.build 77 ([(0, (.int .u8 y0)), (1, (.string y1)), (2, (.int .i64 y2))] : List (Nat × Value)).toArray).run PP w = .ok (.agg (⟨y0, y1, y2⟩ : S_table_place_int).cells.toArray) w := fun w => by kernel_rfl
theorem bd_89_0 (y0 : Sl) : ∀ w, (Instr.build 89 ([(0, y0.enc)] : List (Nat × Value)).toArray).run PP w = .ok (.agg (⟨y0, (⟨none, 0, 0⟩ : Sl), 0, 0⟩ : S_table_Table_Slint).cells.toArray) w := fun w => by kernel_rfl
theorem bl_38_2_0_1 (y0 : Int) (y1 : Int) : ∀ w, (Instr.buildSlice 38 2 ([(0, (.int .i64 y0)), (1, (.int .i64 y1))] : List (Nat × Value)).toArray).run PP w = .ok (.slice (some ⟨w.heap.size, 0, none⟩) 2 2) { w with heap := w.heap.push (.cells #[(.int .i64 y0), (.int .i64 y1)] ty_3) } := fun w => by kernel_rfl
theorem bd_93_0 (y0 : Int) : ∀ w, (Instr.build 93 ([(0, (.int .u8 y0))] : List (Nat × Value)).toArray).run PP w = .ok (.agg (⟨y0, (⟨#[]⟩ : ByteArray), (⟨none, 0, 0⟩ : Sl)⟩ : S_table_place_Slint).cells.toArray) w := fun w => by kernel_rfl
theorem bd_93_0_1_2 (y0 : Int) (y1 : ByteArray) (y2 : Sl) : ∀ w, (Instr.build 93 ([(0, (.int .u8 y0)), (1, (.string y1)), (2, y2.enc)] : List (Nat × Value)).toArray).run PP w = .ok (.agg (⟨y0, y1, y2⟩ : S_table_place_Slint).cells.toArray) w := fun w => by kernel_rfl
theorem bd_93_  : ∀ w, (Instr.build 93 ([] : List (Nat × Value)).toArray).run PP w = .ok (.agg (⟨0, (⟨#[]⟩ : ByteArray), (⟨none, 0, 0⟩ : Sl)⟩ : S_table_place_Slint).cells.toArray) w := fun w => by kernel_rfl
theorem bl_110_2_0_1 (y0 : Sl) (y1 : Sl) : ∀ w, (Instr.buildSlice 110 2 ([(0, y0.enc), (1, y1.enc)] : List (Nat × Value)).toArray).run PP w = .ok (.slice (some ⟨w.heap.size, 0, none⟩) 2 2) { w with heap := w.heap.push (.cells #[y0.enc, y1.enc] ty_87) } := fun w => by kernel_rfl
theorem bl_37_1_0 (y0 : ByteArray) : ∀ w, (Instr.buildSlice 37 1 ([(0, (.string y0))] : List (Nat × Value)).toArray).run PP w = .ok (.slice (some ⟨w.heap.size, 0, none⟩) 1 1) { w with heap := w.heap.push (.cells #[(.string y0)] ty_9) } := fun w => by kernel_rfl
theorem bd_77_  : ∀ w, (Instr.build 77 ([] : List (Nat × Value)).toArray).run PP w = .ok (.agg (⟨0, (⟨#[]⟩ : ByteArray), 0⟩ : S_table_place_int).cells.toArray) w := fun w => by kernel_rfl
theorem bl_71_0_  : ∀ w, (Instr.buildSlice 71 0 ([] : List (Nat × Value)).toArray).run PP w = .ok (.slice (some ⟨w.heap.size, 0, none⟩) 0 0) { w with heap := w.heap.push (.cells (([]).toArray) ty_77) } := fun w => by kernel_rfl
theorem bl_81_2_0_1 (y0 : Sl) (y1 : Sl) : ∀ w, (Instr.buildSlice 81 2 ([(0, y0.enc), (1, y1.enc)] : List (Nat × Value)).toArray).run PP w = .ok (.slice (some ⟨w.heap.size, 0, none⟩) 2 2) { w with heap := w.heap.push (.cells #[y0.enc, y1.enc] ty_71) } := fun w => by kernel_rfl

end Go.Proofs.Ytkedkajdiclmjaa.V
