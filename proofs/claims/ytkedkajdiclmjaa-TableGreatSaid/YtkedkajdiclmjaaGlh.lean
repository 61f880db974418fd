/- Printed by a program of this session (gen.py): for each Go function a Lean function over the heap, and that the Go code does what it says; no condition. -/
import Derived.Test.YtkedkajdiclmjaaVn
import Derived.Test.YtkedkajdiclmjaaProg
namespace Go.Proofs.Ytkedkajdiclmjaa.V
open Go
set_option linter.unusedVariables false
set_option maxRecDepth 100000
noncomputable abbrev PP : Program := Try.prog
theorem mixed : PP.follows .mixedOrders = true := by kernel_rfl
theorem one1 {u : Value} (h : u.oneCell' = true) : ∀ v ∈ [u], v.oneCell' = true := by intro v hv; simp at hv; subst hv; exact h
theorem ones_app {a b : List Value} (ha : ∀ v ∈ a, v.oneCell' = true) (hb : ∀ v ∈ b, v.oneCell' = true) : ∀ v ∈ a ++ b, v.oneCell' = true := fun v hv => (List.mem_append.1 hv).elim (ha v) (hb v)
structure S_table_Table_string where
  row : Sl
  elder : Sl
  moved : Int
  count : Int
def S_table_Table_string.cells (x : S_table_Table_string) : List Value := [x.row.enc] ++ [x.elder.enc] ++ [(.int .i64 x.moved)] ++ [(.int .i64 x.count)]
def ld_S_table_Table_string (h : H) (a : Addr) (K : S_table_Table_string → Prop) : Prop := ∃ x : S_table_Table_string, Cells h a x.cells ∧ K x
theorem ones_S_table_Table_string (x : S_table_Table_string) : ∀ v ∈ x.cells, v.oneCell' = true := ones_app (ones_app (ones_app (one1 rfl) (one1 rfl)) (one1 rfl)) (one1 rfl)
structure S_table_place_string where
  is_ : Int
  key : ByteArray
  value : ByteArray
def S_table_place_string.cells (x : S_table_place_string) : List Value := [(.int .u8 x.is_)] ++ [(.string x.key)] ++ [(.string x.value)]
def ld_S_table_place_string (h : H) (a : Addr) (K : S_table_place_string → Prop) : Prop := ∃ x : S_table_place_string, Cells h a x.cells ∧ K x
theorem ones_S_table_place_string (x : S_table_place_string) : ∀ v ∈ x.cells, v.oneCell' = true := ones_app (ones_app (one1 rfl) (one1 rfl)) (one1 rfl)
structure S_table_Table_int where
  row : Sl
  elder : Sl
  moved : Int
  count : Int
def S_table_Table_int.cells (x : S_table_Table_int) : List Value := [x.row.enc] ++ [x.elder.enc] ++ [(.int .i64 x.moved)] ++ [(.int .i64 x.count)]
def ld_S_table_Table_int (h : H) (a : Addr) (K : S_table_Table_int → Prop) : Prop := ∃ x : S_table_Table_int, Cells h a x.cells ∧ K x
theorem ones_S_table_Table_int (x : S_table_Table_int) : ∀ v ∈ x.cells, v.oneCell' = true := ones_app (ones_app (ones_app (one1 rfl) (one1 rfl)) (one1 rfl)) (one1 rfl)
structure S_table_place_int where
  is_ : Int
  key : ByteArray
  value : Int
def S_table_place_int.cells (x : S_table_place_int) : List Value := [(.int .u8 x.is_)] ++ [(.string x.key)] ++ [(.int .i64 x.value)]
def ld_S_table_place_int (h : H) (a : Addr) (K : S_table_place_int → Prop) : Prop := ∃ x : S_table_place_int, Cells h a x.cells ∧ K x
theorem ones_S_table_place_int (x : S_table_place_int) : ∀ v ∈ x.cells, v.oneCell' = true := ones_app (ones_app (one1 rfl) (one1 rfl)) (one1 rfl)
structure S_spatelaw6_Step where
  Kind : Int
  N : Int
  Key : ByteArray
def S_spatelaw6_Step.cells (x : S_spatelaw6_Step) : List Value := [(.int .i64 x.Kind)] ++ [(.int .i64 x.N)] ++ [(.string x.Key)]
def ld_S_spatelaw6_Step (h : H) (a : Addr) (K : S_spatelaw6_Step → Prop) : Prop := ∃ x : S_spatelaw6_Step, Cells h a x.cells ∧ K x
theorem ones_S_spatelaw6_Step (x : S_spatelaw6_Step) : ∀ v ∈ x.cells, v.oneCell' = true := ones_app (ones_app (one1 rfl) (one1 rfl)) (one1 rfl)
structure S_table_Table_Slint where
  row : Sl
  elder : Sl
  moved : Int
  count : Int
def S_table_Table_Slint.cells (x : S_table_Table_Slint) : List Value := [x.row.enc] ++ [x.elder.enc] ++ [(.int .i64 x.moved)] ++ [(.int .i64 x.count)]
def ld_S_table_Table_Slint (h : H) (a : Addr) (K : S_table_Table_Slint → Prop) : Prop := ∃ x : S_table_Table_Slint, Cells h a x.cells ∧ K x
theorem ones_S_table_Table_Slint (x : S_table_Table_Slint) : ∀ v ∈ x.cells, v.oneCell' = true := ones_app (ones_app (ones_app (one1 rfl) (one1 rfl)) (one1 rfl)) (one1 rfl)
structure S_spateref6_Table where
  Row : Sl
  Elder : Sl
  Next : Int
  Len : Int
def S_spateref6_Table.cells (x : S_spateref6_Table) : List Value := [x.Row.enc] ++ [x.Elder.enc] ++ [(.int .i64 x.Next)] ++ [(.int .i64 x.Len)]
def ld_S_spateref6_Table (h : H) (a : Addr) (K : S_spateref6_Table → Prop) : Prop := ∃ x : S_spateref6_Table, Cells h a x.cells ∧ K x
theorem ones_S_spateref6_Table (x : S_spateref6_Table) : ∀ v ∈ x.cells, v.oneCell' = true := ones_app (ones_app (ones_app (one1 rfl) (one1 rfl)) (one1 rfl)) (one1 rfl)
structure S_spateref6_Place where
  Taken : Bool
  Gone : Bool
  Key : ByteArray
  Value_ : Int
def S_spateref6_Place.cells (x : S_spateref6_Place) : List Value := [(.bool x.Taken)] ++ [(.bool x.Gone)] ++ [(.string x.Key)] ++ [(.int .i64 x.Value_)]
def ld_S_spateref6_Place (h : H) (a : Addr) (K : S_spateref6_Place → Prop) : Prop := ∃ x : S_spateref6_Place, Cells h a x.cells ∧ K x
theorem ones_S_spateref6_Place (x : S_spateref6_Place) : ∀ v ∈ x.cells, v.oneCell' = true := ones_app (ones_app (ones_app (one1 rfl) (one1 rfl)) (one1 rfl)) (one1 rfl)
abbrev ty_3 : TypeId := 3
abbrev ty_4 : TypeId := 4
abbrev ty_5 : TypeId := 5
abbrev ty_9 : TypeId := 9
abbrev ty_30 : TypeId := 30
abbrev ty_37 : TypeId := 37
abbrev ty_38 : TypeId := 38
abbrev ty_46 : TypeId := 46
abbrev ty_48 : TypeId := 48
abbrev ty_50 : TypeId := 50
abbrev ty_65 : TypeId := 65
abbrev ty_73 : TypeId := 73
abbrev ty_77 : TypeId := 77
abbrev ty_89 : TypeId := 89
abbrev ty_104 : TypeId := 104
abbrev ty_114 : TypeId := 114
theorem fo_46_0 : ∀ w, Sem.run PP (do match (#[({ name := "Kind", type := 3, offset := 0, embedded := false, tag := "", pkgPath := "", byteOffset := 0 } : Field), ({ name := "N", type := 3, offset := 1, embedded := false, tag := "", pkgPath := "", byteOffset := 8 } : Field), ({ name := "Key", type := 9, offset := 2, embedded := false, tag := "", pkgPath := "", byteOffset := 16 } : Field)])[0]? with | some fd => (do pure (fd.offset, (← sizeOf fd.type) != 0)) | none => pure (0, false) : Sem (Nat × Bool)) w = .ok (0, true) w := fun w => by kernel_rfl
theorem fo_46_1 : ∀ w, Sem.run PP (do match (#[({ name := "Kind", type := 3, offset := 0, embedded := false, tag := "", pkgPath := "", byteOffset := 0 } : Field), ({ name := "N", type := 3, offset := 1, embedded := false, tag := "", pkgPath := "", byteOffset := 8 } : Field), ({ name := "Key", type := 9, offset := 2, embedded := false, tag := "", pkgPath := "", byteOffset := 16 } : Field)])[1]? with | some fd => (do pure (fd.offset, (← sizeOf fd.type) != 0)) | none => pure (0, false) : Sem (Nat × Bool)) w = .ok (1, true) w := fun w => by kernel_rfl
theorem fo_46_2 : ∀ w, Sem.run PP (do match (#[({ name := "Kind", type := 3, offset := 0, embedded := false, tag := "", pkgPath := "", byteOffset := 0 } : Field), ({ name := "N", type := 3, offset := 1, embedded := false, tag := "", pkgPath := "", byteOffset := 8 } : Field), ({ name := "Key", type := 9, offset := 2, embedded := false, tag := "", pkgPath := "", byteOffset := 16 } : Field)])[2]? with | some fd => (do pure (fd.offset, (← sizeOf fd.type) != 0)) | none => pure (0, false) : Sem (Nat × Bool)) w = .ok (2, true) w := fun w => by kernel_rfl
theorem fo_65_0 : ∀ w, Sem.run PP (do match (#[({ name := "row", type := 63, offset := 0, embedded := false, tag := "", pkgPath := "spate/table", byteOffset := 0 } : Field), ({ name := "elder", type := 63, offset := 1, embedded := false, tag := "", pkgPath := "spate/table", byteOffset := 24 } : Field), ({ name := "moved", type := 3, offset := 2, embedded := false, tag := "", pkgPath := "spate/table", byteOffset := 48 } : Field), ({ name := "count", type := 3, offset := 3, embedded := false, tag := "", pkgPath := "spate/table", byteOffset := 56 } : Field)])[0]? with | some fd => (do pure (fd.offset, (← sizeOf fd.type) != 0)) | none => pure (0, false) : Sem (Nat × Bool)) w = .ok (0, true) w := fun w => by kernel_rfl
theorem fo_65_1 : ∀ w, Sem.run PP (do match (#[({ name := "row", type := 63, offset := 0, embedded := false, tag := "", pkgPath := "spate/table", byteOffset := 0 } : Field), ({ name := "elder", type := 63, offset := 1, embedded := false, tag := "", pkgPath := "spate/table", byteOffset := 24 } : Field), ({ name := "moved", type := 3, offset := 2, embedded := false, tag := "", pkgPath := "spate/table", byteOffset := 48 } : Field), ({ name := "count", type := 3, offset := 3, embedded := false, tag := "", pkgPath := "spate/table", byteOffset := 56 } : Field)])[1]? with | some fd => (do pure (fd.offset, (← sizeOf fd.type) != 0)) | none => pure (0, false) : Sem (Nat × Bool)) w = .ok (1, true) w := fun w => by kernel_rfl
theorem fo_65_2 : ∀ w, Sem.run PP (do match (#[({ name := "row", type := 63, offset := 0, embedded := false, tag := "", pkgPath := "spate/table", byteOffset := 0 } : Field), ({ name := "elder", type := 63, offset := 1, embedded := false, tag := "", pkgPath := "spate/table", byteOffset := 24 } : Field), ({ name := "moved", type := 3, offset := 2, embedded := false, tag := "", pkgPath := "spate/table", byteOffset := 48 } : Field), ({ name := "count", type := 3, offset := 3, embedded := false, tag := "", pkgPath := "spate/table", byteOffset := 56 } : Field)])[2]? with | some fd => (do pure (fd.offset, (← sizeOf fd.type) != 0)) | none => pure (0, false) : Sem (Nat × Bool)) w = .ok (2, true) w := fun w => by kernel_rfl
theorem fo_65_3 : ∀ w, Sem.run PP (do match (#[({ name := "row", type := 63, offset := 0, embedded := false, tag := "", pkgPath := "spate/table", byteOffset := 0 } : Field), ({ name := "elder", type := 63, offset := 1, embedded := false, tag := "", pkgPath := "spate/table", byteOffset := 24 } : Field), ({ name := "moved", type := 3, offset := 2, embedded := false, tag := "", pkgPath := "spate/table", byteOffset := 48 } : Field), ({ name := "count", type := 3, offset := 3, embedded := false, tag := "", pkgPath := "spate/table", byteOffset := 56 } : Field)])[3]? with | some fd => (do pure (fd.offset, (← sizeOf fd.type) != 0)) | none => pure (0, false) : Sem (Nat × Bool)) w = .ok (3, true) w := fun w => by kernel_rfl
theorem fo_68_0 : ∀ w, Sem.run PP (do match (#[({ name := "is", type := 5, offset := 0, embedded := false, tag := "", pkgPath := "spate/table", byteOffset := 0 } : Field), ({ name := "key", type := 9, offset := 1, embedded := false, tag := "", pkgPath := "spate/table", byteOffset := 8 } : Field), ({ name := "value", type := 9, offset := 2, embedded := false, tag := "", pkgPath := "spate/table", byteOffset := 24 } : Field)])[0]? with | some fd => (do pure (fd.offset, (← sizeOf fd.type) != 0)) | none => pure (0, false) : Sem (Nat × Bool)) w = .ok (0, true) w := fun w => by kernel_rfl
theorem fo_68_1 : ∀ w, Sem.run PP (do match (#[({ name := "is", type := 5, offset := 0, embedded := false, tag := "", pkgPath := "spate/table", byteOffset := 0 } : Field), ({ name := "key", type := 9, offset := 1, embedded := false, tag := "", pkgPath := "spate/table", byteOffset := 8 } : Field), ({ name := "value", type := 9, offset := 2, embedded := false, tag := "", pkgPath := "spate/table", byteOffset := 24 } : Field)])[1]? with | some fd => (do pure (fd.offset, (← sizeOf fd.type) != 0)) | none => pure (0, false) : Sem (Nat × Bool)) w = .ok (1, true) w := fun w => by kernel_rfl
theorem fo_73_0 : ∀ w, Sem.run PP (do match (#[({ name := "row", type := 71, offset := 0, embedded := false, tag := "", pkgPath := "spate/table", byteOffset := 0 } : Field), ({ name := "elder", type := 71, offset := 1, embedded := false, tag := "", pkgPath := "spate/table", byteOffset := 24 } : Field), ({ name := "moved", type := 3, offset := 2, embedded := false, tag := "", pkgPath := "spate/table", byteOffset := 48 } : Field), ({ name := "count", type := 3, offset := 3, embedded := false, tag := "", pkgPath := "spate/table", byteOffset := 56 } : Field)])[0]? with | some fd => (do pure (fd.offset, (← sizeOf fd.type) != 0)) | none => pure (0, false) : Sem (Nat × Bool)) w = .ok (0, true) w := fun w => by kernel_rfl
theorem fo_73_1 : ∀ w, Sem.run PP (do match (#[({ name := "row", type := 71, offset := 0, embedded := false, tag := "", pkgPath := "spate/table", byteOffset := 0 } : Field), ({ name := "elder", type := 71, offset := 1, embedded := false, tag := "", pkgPath := "spate/table", byteOffset := 24 } : Field), ({ name := "moved", type := 3, offset := 2, embedded := false, tag := "", pkgPath := "spate/table", byteOffset := 48 } : Field), ({ name := "count", type := 3, offset := 3, embedded := false, tag := "", pkgPath := "spate/table", byteOffset := 56 } : Field)])[1]? with | some fd => (do pure (fd.offset, (← sizeOf fd.type) != 0)) | none => pure (0, false) : Sem (Nat × Bool)) w = .ok (1, true) w := fun w => by kernel_rfl
theorem fo_73_2 : ∀ w, Sem.run PP (do match (#[({ name := "row", type := 71, offset := 0, embedded := false, tag := "", pkgPath := "spate/table", byteOffset := 0 } : Field), ({ name := "elder", type := 71, offset := 1, embedded := false, tag := "", pkgPath := "spate/table", byteOffset := 24 } : Field), ({ name := "moved", type := 3, offset := 2, embedded := false, tag := "", pkgPath := "spate/table", byteOffset := 48 } : Field), ({ name := "count", type := 3, offset := 3, embedded := false, tag := "", pkgPath := "spate/table", byteOffset := 56 } : Field)])[2]? with | some fd => (do pure (fd.offset, (← sizeOf fd.type) != 0)) | none => pure (0, false) : Sem (Nat × Bool)) w = .ok (2, true) w := fun w => by kernel_rfl
theorem fo_73_3 : ∀ w, Sem.run PP (do match (#[({ name := "row", type := 71, offset := 0, embedded := false, tag := "", pkgPath := "spate/table", byteOffset := 0 } : Field), ({ name := "elder", type := 71, offset := 1, embedded := false, tag := "", pkgPath := "spate/table", byteOffset := 24 } : Field), ({ name := "moved", type := 3, offset := 2, embedded := false, tag := "", pkgPath := "spate/table", byteOffset := 48 } : Field), ({ name := "count", type := 3, offset := 3, embedded := false, tag := "", pkgPath := "spate/table", byteOffset := 56 } : Field)])[3]? with | some fd => (do pure (fd.offset, (← sizeOf fd.type) != 0)) | none => pure (0, false) : Sem (Nat × Bool)) w = .ok (3, true) w := fun w => by kernel_rfl
theorem fo_77_0 : ∀ w, Sem.run PP (do match (#[({ name := "is", type := 5, offset := 0, embedded := false, tag := "", pkgPath := "spate/table", byteOffset := 0 } : Field), ({ name := "key", type := 9, offset := 1, embedded := false, tag := "", pkgPath := "spate/table", byteOffset := 8 } : Field), ({ name := "value", type := 3, offset := 2, embedded := false, tag := "", pkgPath := "spate/table", byteOffset := 24 } : Field)])[0]? with | some fd => (do pure (fd.offset, (← sizeOf fd.type) != 0)) | none => pure (0, false) : Sem (Nat × Bool)) w = .ok (0, true) w := fun w => by kernel_rfl
theorem fo_77_1 : ∀ w, Sem.run PP (do match (#[({ name := "is", type := 5, offset := 0, embedded := false, tag := "", pkgPath := "spate/table", byteOffset := 0 } : Field), ({ name := "key", type := 9, offset := 1, embedded := false, tag := "", pkgPath := "spate/table", byteOffset := 8 } : Field), ({ name := "value", type := 3, offset := 2, embedded := false, tag := "", pkgPath := "spate/table", byteOffset := 24 } : Field)])[1]? with | some fd => (do pure (fd.offset, (← sizeOf fd.type) != 0)) | none => pure (0, false) : Sem (Nat × Bool)) w = .ok (1, true) w := fun w => by kernel_rfl
theorem fo_77_2 : ∀ w, Sem.run PP (do match (#[({ name := "is", type := 5, offset := 0, embedded := false, tag := "", pkgPath := "spate/table", byteOffset := 0 } : Field), ({ name := "key", type := 9, offset := 1, embedded := false, tag := "", pkgPath := "spate/table", byteOffset := 8 } : Field), ({ name := "value", type := 3, offset := 2, embedded := false, tag := "", pkgPath := "spate/table", byteOffset := 24 } : Field)])[2]? with | some fd => (do pure (fd.offset, (← sizeOf fd.type) != 0)) | none => pure (0, false) : Sem (Nat × Bool)) w = .ok (2, true) w := fun w => by kernel_rfl
theorem fo_104_0 : ∀ w, Sem.run PP (do match (#[({ name := "Row", type := 102, offset := 0, embedded := false, tag := "", pkgPath := "", byteOffset := 0 } : Field), ({ name := "Elder", type := 102, offset := 1, embedded := false, tag := "", pkgPath := "", byteOffset := 24 } : Field), ({ name := "Next", type := 3, offset := 2, embedded := false, tag := "", pkgPath := "", byteOffset := 48 } : Field), ({ name := "Len", type := 3, offset := 3, embedded := false, tag := "", pkgPath := "", byteOffset := 56 } : Field)])[0]? with | some fd => (do pure (fd.offset, (← sizeOf fd.type) != 0)) | none => pure (0, false) : Sem (Nat × Bool)) w = .ok (0, true) w := fun w => by kernel_rfl
theorem fo_104_1 : ∀ w, Sem.run PP (do match (#[({ name := "Row", type := 102, offset := 0, embedded := false, tag := "", pkgPath := "", byteOffset := 0 } : Field), ({ name := "Elder", type := 102, offset := 1, embedded := false, tag := "", pkgPath := "", byteOffset := 24 } : Field), ({ name := "Next", type := 3, offset := 2, embedded := false, tag := "", pkgPath := "", byteOffset := 48 } : Field), ({ name := "Len", type := 3, offset := 3, embedded := false, tag := "", pkgPath := "", byteOffset := 56 } : Field)])[1]? with | some fd => (do pure (fd.offset, (← sizeOf fd.type) != 0)) | none => pure (0, false) : Sem (Nat × Bool)) w = .ok (1, true) w := fun w => by kernel_rfl
theorem fo_104_2 : ∀ w, Sem.run PP (do match (#[({ name := "Row", type := 102, offset := 0, embedded := false, tag := "", pkgPath := "", byteOffset := 0 } : Field), ({ name := "Elder", type := 102, offset := 1, embedded := false, tag := "", pkgPath := "", byteOffset := 24 } : Field), ({ name := "Next", type := 3, offset := 2, embedded := false, tag := "", pkgPath := "", byteOffset := 48 } : Field), ({ name := "Len", type := 3, offset := 3, embedded := false, tag := "", pkgPath := "", byteOffset := 56 } : Field)])[2]? with | some fd => (do pure (fd.offset, (← sizeOf fd.type) != 0)) | none => pure (0, false) : Sem (Nat × Bool)) w = .ok (2, true) w := fun w => by kernel_rfl
theorem fo_104_3 : ∀ w, Sem.run PP (do match (#[({ name := "Row", type := 102, offset := 0, embedded := false, tag := "", pkgPath := "", byteOffset := 0 } : Field), ({ name := "Elder", type := 102, offset := 1, embedded := false, tag := "", pkgPath := "", byteOffset := 24 } : Field), ({ name := "Next", type := 3, offset := 2, embedded := false, tag := "", pkgPath := "", byteOffset := 48 } : Field), ({ name := "Len", type := 3, offset := 3, embedded := false, tag := "", pkgPath := "", byteOffset := 56 } : Field)])[3]? with | some fd => (do pure (fd.offset, (← sizeOf fd.type) != 0)) | none => pure (0, false) : Sem (Nat × Bool)) w = .ok (3, true) w := fun w => by kernel_rfl
theorem fo_114_0 : ∀ w, Sem.run PP (do match (#[({ name := "Taken", type := 4, offset := 0, embedded := false, tag := "", pkgPath := "", byteOffset := 0 } : Field), ({ name := "Gone", type := 4, offset := 1, embedded := false, tag := "", pkgPath := "", byteOffset := 1 } : Field), ({ name := "Key", type := 9, offset := 2, embedded := false, tag := "", pkgPath := "", byteOffset := 8 } : Field), ({ name := "Value", type := 3, offset := 3, embedded := false, tag := "", pkgPath := "", byteOffset := 24 } : Field)])[0]? with | some fd => (do pure (fd.offset, (← sizeOf fd.type) != 0)) | none => pure (0, false) : Sem (Nat × Bool)) w = .ok (0, true) w := fun w => by kernel_rfl
theorem fo_114_1 : ∀ w, Sem.run PP (do match (#[({ name := "Taken", type := 4, offset := 0, embedded := false, tag := "", pkgPath := "", byteOffset := 0 } : Field), ({ name := "Gone", type := 4, offset := 1, embedded := false, tag := "", pkgPath := "", byteOffset := 1 } : Field), ({ name := "Key", type := 9, offset := 2, embedded := false, tag := "", pkgPath := "", byteOffset := 8 } : Field), ({ name := "Value", type := 3, offset := 3, embedded := false, tag := "", pkgPath := "", byteOffset := 24 } : Field)])[1]? with | some fd => (do pure (fd.offset, (← sizeOf fd.type) != 0)) | none => pure (0, false) : Sem (Nat × Bool)) w = .ok (1, true) w := fun w => by kernel_rfl
theorem fo_114_2 : ∀ w, Sem.run PP (do match (#[({ name := "Taken", type := 4, offset := 0, embedded := false, tag := "", pkgPath := "", byteOffset := 0 } : Field), ({ name := "Gone", type := 4, offset := 1, embedded := false, tag := "", pkgPath := "", byteOffset := 1 } : Field), ({ name := "Key", type := 9, offset := 2, embedded := false, tag := "", pkgPath := "", byteOffset := 8 } : Field), ({ name := "Value", type := 3, offset := 3, embedded := false, tag := "", pkgPath := "", byteOffset := 24 } : Field)])[2]? with | some fd => (do pure (fd.offset, (← sizeOf fd.type) != 0)) | none => pure (0, false) : Sem (Nat × Bool)) w = .ok (2, true) w := fun w => by kernel_rfl
theorem fo_114_3 : ∀ w, Sem.run PP (do match (#[({ name := "Taken", type := 4, offset := 0, embedded := false, tag := "", pkgPath := "", byteOffset := 0 } : Field), ({ name := "Gone", type := 4, offset := 1, embedded := false, tag := "", pkgPath := "", byteOffset := 1 } : Field), ({ name := "Key", type := 9, offset := 2, embedded := false, tag := "", pkgPath := "", byteOffset := 8 } : Field), ({ name := "Value", type := 3, offset := 3, embedded := false, tag := "", pkgPath := "", byteOffset := 24 } : Field)])[3]? with | some fd => (do pure (fd.offset, (← sizeOf fd.type) != 0)) | none => pure (0, false) : Sem (Nat × Bool)) w = .ok (3, true) w := fun w => by kernel_rfl
theorem bd_65_0 (y0 : Sl) : ∀ w, (Instr.build 65 ([(0, y0.enc)] : List (Nat × Value)).toArray).run PP w = .ok (.agg (⟨y0, (⟨none, 0, 0⟩ : Sl), 0, 0⟩ : S_table_Table_string).cells.toArray) w := fun w => by kernel_rfl
theorem bd_68_0 (y0 : Int) : ∀ w, (Instr.build 68 ([(0, (.int .u8 y0))] : List (Nat × Value)).toArray).run PP w = .ok (.agg (⟨y0, (⟨#[]⟩ : ByteArray), (⟨#[]⟩ : ByteArray)⟩ : S_table_place_string).cells.toArray) w := fun w => by kernel_rfl
theorem bd_73_0 (y0 : Sl) : ∀ w, (Instr.build 73 ([(0, y0.enc)] : List (Nat × Value)).toArray).run PP w = .ok (.agg (⟨y0, (⟨none, 0, 0⟩ : Sl), 0, 0⟩ : S_table_Table_int).cells.toArray) w := fun w => by kernel_rfl
theorem bl_70_1_0 (y0 : Int) : ∀ w, (Instr.buildSlice 70 1 ([(0, (.int .u8 y0))] : List (Nat × Value)).toArray).run PP w = .ok (.slice (some ⟨w.heap.size, 0, none⟩) 1 1) { w with heap := w.heap.push (.cells #[(.int .u8 y0)] ty_5) } := fun w => by kernel_rfl
theorem bd_77_0 (y0 : Int) : ∀ w, (Instr.build 77 ([(0, (.int .u8 y0))] : List (Nat × Value)).toArray).run PP w = .ok (.agg (⟨y0, (⟨#[]⟩ : ByteArray), 0⟩ : S_table_place_int).cells.toArray) w := fun w => by kernel_rfl
theorem bd_77_0_1_2 (y0 : Int) (y1 : ByteArray) (y2 : Int) : ∀ w, (Instr.build 77 ([(0, (.int .u8 y0)), (1, (.string y1)), (2, (.int .i64 y2))] : List (Nat × Value)).toArray).run PP w = .ok (.agg (⟨y0, y1, y2⟩ : S_table_place_int).cells.toArray) w := fun w => by kernel_rfl
theorem bd_77_  : ∀ w, (Instr.build 77 ([] : List (Nat × Value)).toArray).run PP w = .ok (.agg (⟨0, (⟨#[]⟩ : ByteArray), 0⟩ : S_table_place_int).cells.toArray) w := fun w => by kernel_rfl
theorem bl_71_0_  : ∀ w, (Instr.buildSlice 71 0 ([] : List (Nat × Value)).toArray).run PP w = .ok (.slice (some ⟨w.heap.size, 0, none⟩) 0 0) { w with heap := w.heap.push (.cells (([]).toArray) ty_77) } := fun w => by kernel_rfl
theorem bd_89_0 (y0 : Sl) : ∀ w, (Instr.build 89 ([(0, y0.enc)] : List (Nat × Value)).toArray).run PP w = .ok (.agg (⟨y0, (⟨none, 0, 0⟩ : Sl), 0, 0⟩ : S_table_Table_Slint).cells.toArray) w := fun w => by kernel_rfl
theorem bd_104_0 (y0 : Sl) : ∀ w, (Instr.build 104 ([(0, y0.enc)] : List (Nat × Value)).toArray).run PP w = .ok (.agg (⟨y0, (⟨none, 0, 0⟩ : Sl), 0, 0⟩ : S_spateref6_Table).cells.toArray) w := fun w => by kernel_rfl
theorem bd_114_1 (y1 : Bool) : ∀ w, (Instr.build 114 ([(1, (.bool y1))] : List (Nat × Value)).toArray).run PP w = .ok (.agg (⟨false, y1, (⟨#[]⟩ : ByteArray), 0⟩ : S_spateref6_Place).cells.toArray) w := fun w => by kernel_rfl
theorem bd_114_0_2_3 (y0 : Bool) (y2 : ByteArray) (y3 : Int) : ∀ w, (Instr.build 114 ([(0, (.bool y0)), (2, (.string y2)), (3, (.int .i64 y3))] : List (Nat × Value)).toArray).run PP w = .ok (.agg (⟨y0, false, y2, y3⟩ : S_spateref6_Place).cells.toArray) w := fun w => by kernel_rfl
theorem bd_114_  : ∀ w, (Instr.build 114 ([] : List (Nat × Value)).toArray).run PP w = .ok (.agg (⟨false, false, (⟨#[]⟩ : ByteArray), 0⟩ : S_spateref6_Place).cells.toArray) w := fun w => by kernel_rfl
theorem bl_102_1_0 (y0 : S_spateref6_Place) : ∀ w, (Instr.buildSlice 102 1 ([(0, (.agg y0.cells.toArray))] : List (Nat × Value)).toArray).run PP w = .ok (.slice (some ⟨w.heap.size, 0, none⟩) 1 1) { w with heap := w.heap.push (.cells ((y0.cells).toArray) ty_114) } := fun w => by kernel_rfl
theorem bl_37_1_0 (y0 : ByteArray) : ∀ w, (Instr.buildSlice 37 1 ([(0, (.string y0))] : List (Nat × Value)).toArray).run PP w = .ok (.slice (some ⟨w.heap.size, 0, none⟩) 1 1) { w with heap := w.heap.push (.cells #[(.string y0)] ty_9) } := fun w => by kernel_rfl
theorem bl_38_1_0 (y0 : Int) : ∀ w, (Instr.buildSlice 38 1 ([(0, (.int .i64 y0))] : List (Nat × Value)).toArray).run PP w = .ok (.slice (some ⟨w.heap.size, 0, none⟩) 1 1) { w with heap := w.heap.push (.cells #[(.int .i64 y0)] ty_3) } := fun w => by kernel_rfl

end Go.Proofs.Ytkedkajdiclmjaa.V
