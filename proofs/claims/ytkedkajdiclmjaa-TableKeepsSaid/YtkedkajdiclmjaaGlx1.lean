/- Printed by a program of this session (gen.py): Go functions as Lean functions over the heap, and that the Go code does what they say; no condition. -/
import Derived.Test.YtkedkajdiclmjaaGlx0
namespace Go.Proofs.Ytkedkajdiclmjaa.V
open Go
set_option linter.unusedVariables false
set_option maxRecDepth 100000
def F.spatelaw6_lies.j3 (Q : Bool → H → Prop) (K1 : H → Prop) (J1 : Nat → H → Prop) (l1 : Nat) (x5 : Addr) (x6 : Addr) (x9 : ByteArray) (h : H) : Prop :=
  stH h x6 [(.string x9)] fun h39 =>
  ldI .i64 h39 x5 fun y40 =>
  stH h39 x5 [(.int .i64 (IntKind.wrap .i64 (y40 + 1)))] fun h42 =>
  K1 h42
def F.spatelaw6_lies.j2 (Q : Bool → H → Prop) (K1 : H → Prop) (J1 : Nat → H → Prop) (l1 : Nat) (x5 : Addr) (x6 : Addr) (x7 : Addr) (x8 : Addr) (x9 : ByteArray) (x13 : Int) (x14 : Bool) (h : H) : Prop :=
  (x14 = true →
  ldV h x8 fun y44 =>
  RunS PP (Instr.mapUpdate 96 y44 (.int .i64 x13) (.bool true)) h fun _ h46 =>
  F.spatelaw6_lies.j3 Q K1 J1 l1 x5 x6 x9 h46) ∧
  (x14 = false →
  ldV h x7 fun y47 =>
  RunS PP (Instr.mapUpdate 96 y47 (.int .i64 x13) (.bool true)) h fun _ h49 =>
  F.spatelaw6_lies.j3 Q K1 J1 l1 x5 x6 x9 h49)
def F.spatelaw6_lies.j4 (Q : Bool → H → Prop) (K1 : H → Prop) (J1 : Nat → H → Prop) (l1 : Nat) (x4 : Addr) (x5 : Addr) (x6 : Addr) (x7 : Addr) (x8 : Addr) (x9 : ByteArray) (x13 : Int) (x14 : Bool) (x100 : Bool) (h : H) : Prop :=
  (x100 = true →
  stH h x4 [(.bool false)] fun h51 =>
  J1 0 h51) ∧
  (x100 = false →
  F.spatelaw6_lies.j2 Q K1 J1 l1 x5 x6 x7 x8 x9 x13 x14 h)
def F.spatelaw6_lies.j1 (Q : Bool → H → Prop) (K1 : H → Prop) (J1 : Nat → H → Prop) (l1 : Nat) (x2 : Addr) (x4 : Addr) (x5 : Addr) (x6 : Addr) (x7 : Addr) (x8 : Addr) (x9 : ByteArray) (x13 : Int) (x14 : Bool) (h : H) : Prop :=
  (x14 = true →
  ldV h x8 fun y53 =>
  RunS PP (Instr.lookup 96 y53 (.int .i64 x13) false) h fun u h55 => ∃ r56 : Bool, u = (.bool r56) ∧
  (r56 = true →
  F.spatelaw6_lies.j4 Q K1 J1 l1 x4 x5 x6 x7 x8 x9 x13 x14 true h55) ∧
  (r56 = false →
  ((!x14) = true →
  ldV h55 x7 fun y59 =>
  RunS PP (Instr.lookup 96 y59 (.int .i64 x13) false) h55 fun u h61 => ∃ r62 : Bool, u = (.bool r62) ∧
  (r62 = true →
  F.spatelaw6_lies.j4 Q K1 J1 l1 x4 x5 x6 x7 x8 x9 x13 x14 true h61) ∧
  (r62 = false →
  ((decide (x13 < 0)) = true →
  F.spatelaw6_lies.j4 Q K1 J1 l1 x4 x5 x6 x7 x8 x9 x13 x14 true h61) ∧
  ((decide (x13 < 0)) = false →
  ((!x14) = true →
  ldP h61 x2 fun y66 =>
  F.table_Table_Slint_Slots y66 h61 fun r69 h68 =>
  ((decide (x13 ≥ r69)) = true →
  F.spatelaw6_lies.j4 Q K1 J1 l1 x4 x5 x6 x7 x8 x9 x13 x14 true h68) ∧
  ((decide (x13 ≥ r69)) = false →
  (x14 = true →
  ldP h68 x2 fun y72 =>
  F.table_Table_Slint_Slots y72 h68 fun r75 h74 =>
  (2 : Int) ≠ 0 ∧
  F.spatelaw6_lies.j4 Q K1 J1 l1 x4 x5 x6 x7 x8 x9 x13 x14 (decide (x13 ≥ (IntKind.wrap .i64 (Int.tdiv r75 2)))) h74) ∧
  (x14 = false →
  F.spatelaw6_lies.j4 Q K1 J1 l1 x4 x5 x6 x7 x8 x9 x13 x14 false h68))) ∧
  ((!x14) = false →
  (x14 = true →
  ldP h61 x2 fun y78 =>
  F.table_Table_Slint_Slots y78 h61 fun r81 h80 =>
  (2 : Int) ≠ 0 ∧
  F.spatelaw6_lies.j4 Q K1 J1 l1 x4 x5 x6 x7 x8 x9 x13 x14 (decide (x13 ≥ (IntKind.wrap .i64 (Int.tdiv r81 2)))) h80) ∧
  (x14 = false →
  F.spatelaw6_lies.j4 Q K1 J1 l1 x4 x5 x6 x7 x8 x9 x13 x14 false h61))))) ∧
  ((!x14) = false →
  ((decide (x13 < 0)) = true →
  F.spatelaw6_lies.j4 Q K1 J1 l1 x4 x5 x6 x7 x8 x9 x13 x14 true h55) ∧
  ((decide (x13 < 0)) = false →
  ((!x14) = true →
  ldP h55 x2 fun y85 =>
  F.table_Table_Slint_Slots y85 h55 fun r88 h87 =>
  ((decide (x13 ≥ r88)) = true →
  F.spatelaw6_lies.j4 Q K1 J1 l1 x4 x5 x6 x7 x8 x9 x13 x14 true h87) ∧
  ((decide (x13 ≥ r88)) = false →
  (x14 = true →
  ldP h87 x2 fun y91 =>
  F.table_Table_Slint_Slots y91 h87 fun r94 h93 =>
  (2 : Int) ≠ 0 ∧
  F.spatelaw6_lies.j4 Q K1 J1 l1 x4 x5 x6 x7 x8 x9 x13 x14 (decide (x13 ≥ (IntKind.wrap .i64 (Int.tdiv r94 2)))) h93) ∧
  (x14 = false →
  F.spatelaw6_lies.j4 Q K1 J1 l1 x4 x5 x6 x7 x8 x9 x13 x14 false h87))) ∧
  ((!x14) = false →
  (x14 = true →
  ldP h55 x2 fun y97 =>
  F.table_Table_Slint_Slots y97 h55 fun r100 h99 =>
  (2 : Int) ≠ 0 ∧
  F.spatelaw6_lies.j4 Q K1 J1 l1 x4 x5 x6 x7 x8 x9 x13 x14 (decide (x13 ≥ (IntKind.wrap .i64 (Int.tdiv r100 2)))) h99) ∧
  (x14 = false →
  F.spatelaw6_lies.j4 Q K1 J1 l1 x4 x5 x6 x7 x8 x9 x13 x14 false h55)))))) ∧
  (x14 = false →
  ((!x14) = true →
  ldV h x7 fun y103 =>
  RunS PP (Instr.lookup 96 y103 (.int .i64 x13) false) h fun u h105 => ∃ r106 : Bool, u = (.bool r106) ∧
  (r106 = true →
  F.spatelaw6_lies.j4 Q K1 J1 l1 x4 x5 x6 x7 x8 x9 x13 x14 true h105) ∧
  (r106 = false →
  ((decide (x13 < 0)) = true →
  F.spatelaw6_lies.j4 Q K1 J1 l1 x4 x5 x6 x7 x8 x9 x13 x14 true h105) ∧
  ((decide (x13 < 0)) = false →
  ((!x14) = true →
  ldP h105 x2 fun y110 =>
  F.table_Table_Slint_Slots y110 h105 fun r113 h112 =>
  ((decide (x13 ≥ r113)) = true →
  F.spatelaw6_lies.j4 Q K1 J1 l1 x4 x5 x6 x7 x8 x9 x13 x14 true h112) ∧
  ((decide (x13 ≥ r113)) = false →
  (x14 = true →
  ldP h112 x2 fun y116 =>
  F.table_Table_Slint_Slots y116 h112 fun r119 h118 =>
  (2 : Int) ≠ 0 ∧
  F.spatelaw6_lies.j4 Q K1 J1 l1 x4 x5 x6 x7 x8 x9 x13 x14 (decide (x13 ≥ (IntKind.wrap .i64 (Int.tdiv r119 2)))) h118) ∧
  (x14 = false →
  F.spatelaw6_lies.j4 Q K1 J1 l1 x4 x5 x6 x7 x8 x9 x13 x14 false h112))) ∧
  ((!x14) = false →
  (x14 = true →
  ldP h105 x2 fun y122 =>
  F.table_Table_Slint_Slots y122 h105 fun r125 h124 =>
  (2 : Int) ≠ 0 ∧
  F.spatelaw6_lies.j4 Q K1 J1 l1 x4 x5 x6 x7 x8 x9 x13 x14 (decide (x13 ≥ (IntKind.wrap .i64 (Int.tdiv r125 2)))) h124) ∧
  (x14 = false →
  F.spatelaw6_lies.j4 Q K1 J1 l1 x4 x5 x6 x7 x8 x9 x13 x14 false h105))))) ∧
  ((!x14) = false →
  ((decide (x13 < 0)) = true →
  F.spatelaw6_lies.j4 Q K1 J1 l1 x4 x5 x6 x7 x8 x9 x13 x14 true h) ∧
  ((decide (x13 < 0)) = false →
  ((!x14) = true →
  ldP h x2 fun y129 =>
  F.table_Table_Slint_Slots y129 h fun r132 h131 =>
  ((decide (x13 ≥ r132)) = true →
  F.spatelaw6_lies.j4 Q K1 J1 l1 x4 x5 x6 x7 x8 x9 x13 x14 true h131) ∧
  ((decide (x13 ≥ r132)) = false →
  (x14 = true →
  ldP h131 x2 fun y135 =>
  F.table_Table_Slint_Slots y135 h131 fun r138 h137 =>
  (2 : Int) ≠ 0 ∧
  F.spatelaw6_lies.j4 Q K1 J1 l1 x4 x5 x6 x7 x8 x9 x13 x14 (decide (x13 ≥ (IntKind.wrap .i64 (Int.tdiv r138 2)))) h137) ∧
  (x14 = false →
  F.spatelaw6_lies.j4 Q K1 J1 l1 x4 x5 x6 x7 x8 x9 x13 x14 false h131))) ∧
  ((!x14) = false →
  (x14 = true →
  ldP h x2 fun y141 =>
  F.table_Table_Slint_Slots y141 h fun r144 h143 =>
  (2 : Int) ≠ 0 ∧
  F.spatelaw6_lies.j4 Q K1 J1 l1 x4 x5 x6 x7 x8 x9 x13 x14 (decide (x13 ≥ (IntKind.wrap .i64 (Int.tdiv r144 2)))) h143) ∧
  (x14 = false →
  F.spatelaw6_lies.j4 Q K1 J1 l1 x4 x5 x6 x7 x8 x9 x13 x14 false h)))))
def F.spatelaw6_lies.j5 (Q : Bool → H → Prop) (K1 : H → Prop) (J1 : Nat → H → Prop) (l1 : Nat) (x2 : Addr) (x4 : Addr) (x5 : Addr) (x6 : Addr) (x7 : Addr) (x8 : Addr) (x9 : ByteArray) (x13 : Int) (x14 : Bool) (x61 : Bool) (h : H) : Prop :=
  (x61 = true →
  stH h x4 [(.bool false)] fun h147 =>
  J1 0 h147) ∧
  (x61 = false →
  F.spatelaw6_lies.j1 Q K1 J1 l1 x2 x4 x5 x6 x7 x8 x9 x13 x14 h)
def F.spatelaw6_lies.j6 (Q : Bool → H → Prop) (K2 : H → Prop) (J2 : Nat → H → Prop) (l2 : Nat) (x4 : Addr) (x133 : Bool) (h : H) : Prop :=
  (x133 = true →
  stH h x4 [(.bool false)] fun h174 =>
  J2 0 h174) ∧
  (x133 = false →
  K2 h)
def F.spatelaw6_lies.l7 (Q : Bool → H → Prop) (K2 : H → Prop) (J2 : Nat → H → Prop) (l2 : Nat) : Nat → Addr → Addr → Addr → Int → Int → H → Prop
  | 0, _, _, _, _, _, _ => False
  | q7 + 1, x2, x4, x7, x17, x20, h =>
    (((x20 != x17)) = true →
    ldV h x7 fun y199 =>
    RunS PP (Instr.lookup 96 y199 (.int .i64 x20) false) h fun u h201 => ∃ r202 : Bool, u = (.bool r202) ∧
    ((!r202) = true →
    stH h201 x4 [(.bool false)] fun h204 =>
    J2 0 h204) ∧
    ((!r202) = false →
    ldP h201 x2 fun y205 =>
    F.table_Table_Slint_Slots y205 h201 fun r208 h207 =>
    (r208 : Int) ≠ 0 ∧
    (F.spatelaw6_lies.l7 Q K2 J2 l2 q7) x2 x4 x7 x17 (Int.tmod (IntKind.wrap .i64 (x20 + 1)) r208) h207)) ∧
    (((x20 != x17)) = false →
    K2 h)
/-- spate/spatelaw6.lies -/
def F.spatelaw6_lies (p0 : Option Addr) (p1 : Value) (h : H) (Q : Bool → H → Prop) : Prop :=
  new h #[(.pointer p0)] ty_48 fun a2 h1 =>
  p1.cells = #[p1] ∧
  new h1 #[p1] ty_50 fun a4 h3 =>
  new h3 #[(.bool false)] ty_4 fun a6 h5 =>
  new h5 #[(.int .i64 0)] ty_3 fun a8 h7 =>
  stH h7 a8 [(.int .i64 0)] fun h9 =>
  new h9 #[(.string (⟨#[]⟩ : ByteArray))] ty_9 fun a11 h10 =>
  stH h10 a11 [(.string (⟨#[]⟩ : ByteArray))] fun h12 =>
  RunS PP (Instr.makeMap 96 none) h12 fun m14 h13 =>
  new h13 #[(.map none)] ty_96 fun a16 h15 =>
  m14.cells = #[m14] ∧
  m14.oneCell' = true ∧
  stH h15 a16 [m14] fun h17 =>
  RunS PP (Instr.makeMap 96 none) h17 fun m19 h18 =>
  new h18 #[(.map none)] ty_96 fun a21 h20 =>
  m19.cells = #[m19] ∧
  m19.oneCell' = true ∧
  stH h20 a21 [m19] fun h22 =>
  ldP h22 a2 fun y23 =>
  F.table_Table_Slint_All y23 h22 fun r26 h25 =>
  rng PP r26 h25 [Code.ret] (fun bg1 l1 args h K1 J1 => ∃ (y1_25 : ByteArray), ∃ (y1_26 : Sl), args = [(.string y1_25), y1_26.enc] ∧
    bg1 h fun h27 =>
    ldV h27 a4 fun y28 =>
    RunS PP (Instr.lookup 50 y28 (.string y1_25) true) h27 fun u h30 => ∃ (r31 : Int) (r32 : Bool), u = (.tuple #[(.int .i64 r31), (.bool r32)]) ∧
    ldP h30 a2 fun y33 =>
    F.table_Table_Slint_Place y33 y1_25 h30 fun r36 r37 r38 h35 =>
    ((!r32) = true →
    F.spatelaw6_lies.j5 Q K1 J1 l1 a2 a6 a8 a11 a16 a21 y1_25 r36 r37 true h35) ∧
    ((!r32) = false →
    ((!r38) = true →
    F.spatelaw6_lies.j5 Q K1 J1 l1 a2 a6 a8 a11 a16 a21 y1_25 r36 r37 true h35) ∧
    ((!r38) = false →
    idxA y1_26 0 1 fun a150 =>
    ldI .i64 h35 a150 fun y152 =>
    (((y152 != r31)) = true →
    F.spatelaw6_lies.j5 Q K1 J1 l1 a2 a6 a8 a11 a16 a21 y1_25 r36 r37 true h35) ∧
    (((y152 != r31)) = false →
    ldI .i64 h35 a8 fun y155 =>
    ((decide (y155 > 0)) = true →
    ldS h35 a11 fun y158 =>
    F.spatelaw6_lies.j5 Q K1 J1 l1 a2 a6 a8 a11 a16 a21 y1_25 r36 r37 (Op.bytesLess y1_25.toList y158.toList || (y1_25.toList == y158.toList)) h35) ∧
    ((decide (y155 > 0)) = false →
    F.spatelaw6_lies.j5 Q K1 J1 l1 a2 a6 a8 a11 a16 a21 y1_25 r36 r37 false h35))))) (fun h160 =>
    ldP h160 a2 fun y161 =>
    F.table_Table_Slint_All y161 h160 fun r164 h163 =>
    rng PP r164 h163 [Code.ret] (fun bg2 l2 args h K2 J2 => ∃ (y2_111 : ByteArray), ∃ (y2_112 : Sl), args = [(.string y2_111), y2_112.enc] ∧
      bg2 h fun h165 =>
      ldP h165 a2 fun y166 =>
      F.table_Table_Slint_Place y166 y2_111 h165 fun r169 r170 r171 h168 =>
      (r170 = true →
      ldP h168 a2 fun y175 =>
      F.table_Table_Slint_Left y175 h168 fun r178 h177 =>
      (((r178 == 0)) = true →
      F.spatelaw6_lies.j6 Q K2 J2 l2 a6 true h177) ∧
      (((r178 == 0)) = false →
      ldP h177 a2 fun y180 =>
      ldP h177 a2 fun y182 =>
      F.table_Table_Slint_Slots y180 h177 fun r185 h184 =>
      cellH h184 a2 = some (.pointer y182) ∧
      (2 : Int) ≠ 0 ∧
      F.table_Table_Slint_Left y182 h184 fun r189 h188 =>
      F.spatelaw6_lies.j6 Q K2 J2 l2 a6 (decide (r169 < (IntKind.wrap .i64 ((IntKind.wrap .i64 (Int.tdiv r185 2)) - r189)))) h188)) ∧
      (r170 = false →
      ldP h168 a2 fun y190 =>
      F.table_Hash y2_111 h168 fun r193 h192 =>
      cellH h192 a2 = some (.pointer y190) ∧
      F.table_Table_Slint_Slots y190 h192 fun r196 h195 =>
      ((IntKind.wrap .u64 r196) : Int) ≠ 0 ∧
      ∃ m, F.spatelaw6_lies.l7 Q K2 J2 l2 m a2 a6 a16 r169 (IntKind.wrap .i64 (Int.tmod r193 (IntKind.wrap .u64 r196))) h195)) (fun h211 =>
      ldI .i64 h211 a8 fun y212 =>
      ldV h211 a4 fun y214 =>
      RunS PP (Builtin.len_ #[50] 3 #[y214]) h211 fun u h216 => ∃ s217 : Int, u = (.int .i64 s217) ∧
      stH h216 a6 [(.bool ((y212 == s217)))] fun h218 =>
      shuts (h163.size :: (h25.size :: ([] : List Nat))) h218 fun h219 =>
      ldB h219 a6 fun y220 =>
      Q y220 h219) (fun jj h222 =>
      (jj = 0 →
        shuts (h163.size :: (h25.size :: ([] : List Nat))) h222 fun h223 =>
        ldB h223 a6 fun y224 =>
        Q y224 h223))) (fun jj h226 =>
    (jj = 0 →
      shuts (h25.size :: ([] : List Nat)) h226 fun h227 =>
      ldB h227 a6 fun y228 =>
      Q y228 h227))
theorem F.spatelaw6_lies_ok {p0 : Option Addr} {p1 : Value} {h : H} {Q : Bool → H → Prop} (H : F.spatelaw6_lies p0 p1 h Q) : Fn PP 39 ([(.pointer p0), p1] : List Value).toArray h fun r h' => ∃ r0, r = (.bool r0) ∧ Q r0 h' := by
  unfold F.spatelaw6_lies at H
  refine fn_ofM Try.func39 Try.ntmps39 rfl rfl fun w0 => ?_
  refine tr_sub [(0, (.pointer p0)), (1, p1)] ⟨rfl, rfl, trivial⟩ ?_
  refine tr_seq ?_
  refine tr_region ?_
  refine tr_e (f_box (cs := #[(.pointer p0)]) rfl rfl H) rfl rfl ?_
  rintro _ h1 ⟨a2, rfl, H⟩
  refine tr_e (f_box (cs := #[p1]) rfl H.1 H.2) rfl rfl ?_
  rintro _ h3 ⟨a4, rfl, H⟩
  refine tr_e (f_alloc (cs := #[(.bool false)]) Try.zeroValue4 rfl H) rfl rfl ?_
  rintro _ h5 ⟨a6, rfl, H⟩
  refine tr_nil ?_
  refine tr_thenN ?_
  refine tr_seq ?_
  refine tr_region ?_
  refine tr_e (f_alloc (cs := #[(.int .i64 0)]) Try.zeroValue3 rfl H) rfl rfl ?_
  rintro _ h7 ⟨a8, rfl, H⟩
  refine tr_e (f_store (vs := [(.int .i64 0)]) Try.sizeOf3 rfl rfl rfl rfl (one1 rfl) H) rfl rfl ?_
  rintro _ h9 ⟨rfl, H⟩
  refine tr_nil ?_
  refine tr_thenN ?_
  refine tr_seq ?_
  refine tr_region ?_
  refine tr_e (f_alloc (cs := #[(.string (⟨#[]⟩ : ByteArray))]) Try.zeroValue9 rfl H) rfl rfl ?_
  rintro _ h10 ⟨a11, rfl, H⟩
  refine tr_e (f_store (vs := [(.string (⟨#[]⟩ : ByteArray))]) Try.sizeOf9 rfl rfl rfl rfl (one1 rfl) H) rfl rfl ?_
  rintro _ h12 ⟨rfl, H⟩
  refine tr_nil ?_
  refine tr_thenN ?_
  refine tr_seq ?_
  refine tr_region ?_
  refine tr_e (f_mkN H) rfl rfl ?_
  rintro m14 h13 H
  refine tr_e (f_alloc (cs := #[(.map none)]) Try.zeroValue96 rfl H) rfl rfl ?_
  rintro _ h15 ⟨a16, rfl, H⟩
  refine tr_e (f_store (vs := [m14]) Try.sizeOf96 rfl rfl (congrArg Array.toList H.1) rfl (one1 H.2.1) H.2.2) rfl rfl ?_
  rintro _ h17 ⟨rfl, H⟩
  refine tr_nil ?_
  refine tr_thenN ?_
  refine tr_seq ?_
  refine tr_region ?_
  refine tr_e (f_mkN H) rfl rfl ?_
  rintro m19 h18 H
  refine tr_e (f_alloc (cs := #[(.map none)]) Try.zeroValue96 rfl H) rfl rfl ?_
  rintro _ h20 ⟨a21, rfl, H⟩
  refine tr_e (f_store (vs := [m19]) Try.sizeOf96 rfl rfl (congrArg Array.toList H.1) rfl (one1 H.2.1) H.2.2) rfl rfl ?_
  rintro _ h22 ⟨rfl, H⟩
  refine tr_nil ?_
  refine tr_thenN ?_
  refine tr_seq ?_
  refine tr_seq ?_
  refine tr_region ?_
  obtain ⟨y23, k24, H⟩ := H
  refine tr_h (y_ld Try.isAgg48 rfl) k24 rfl rfl ?_
  refine tr_e (e_call Try.call56 rfl (F.table_Table_Slint_All_ok H)) rfl rfl ?_
  rintro r26 h25 ⟨_, rfl, H⟩
  refine tr_nil ?_
  refine tr_thenN ?_
  refine tr_block ?_
  refine tr_range rfl (by kernel_rfl) H ?_ ?_ ?_
  · intro bg1 l1 args h K1 J1 w1 hbg1 H
    obtain ⟨y1_25, y1_26, rfl, H⟩ := H
    refine ⟨rfl, ?_⟩
    refine tr_sub [(0, (.pointer p0)), (1, p1), (2, (.pointer (some a2))), (3, (.pointer (some a4))), (4, (.pointer (some a6))), (5, (.pointer (some a8))), (6, (.pointer (some a11))), (21, m14), (7, (.pointer (some a16))), (22, m19), (8, (.pointer (some a21))), (23, (.pointer y23)), (24, r26), (25, (.string y1_25)), (26, y1_26.enc)] ⟨rfl, rfl, rfl, rfl, rfl, rfl, rfl, rfl, rfl, rfl, rfl, rfl, rfl, rfl, rfl, trivial⟩ ?_
    refine tr_seq ?_
    refine tr_region ?_
    refine tr_p (y_assign rfl) rfl rfl ?_
    refine tr_nil ?_
    refine tr_thenN ?_
    refine tr_region ?_
    refine tr_p (y_assign rfl) rfl rfl ?_
    refine tr_nil ?_
    refine tr_thenN ?_
    refine tr_bgn hbg1 H fun h27 H => ?_
    refine tr_block ?_
    refine tr_seq ?_
    refine tr_region ?_
    obtain ⟨y28, k29, H⟩ := H
    refine tr_h (y_ld Try.isAgg50 rfl) k29 rfl rfl ?_
    refine tr_p (y_move rfl) rfl rfl ?_
    refine tr_e (f_lk rfl rfl H) rfl rfl ?_
    rintro _ h30 ⟨r31, r32, rfl, H⟩
    refine tr_p (y_move rfl) rfl rfl ?_
    refine tr_p (y_ext rfl rfl) rfl rfl ?_
    refine tr_p (y_ext rfl rfl) rfl rfl ?_
    refine tr_p (y_assign rfl) rfl rfl ?_
    refine tr_p (y_assign rfl) rfl rfl ?_
    refine tr_nil ?_
    refine tr_thenN ?_
    refine tr_seq ?_
    refine tr_region ?_
    obtain ⟨y33, k34, H⟩ := H
    refine tr_h (y_ld Try.isAgg48 rfl) k34 rfl rfl ?_
    refine tr_p (y_move rfl) rfl rfl ?_
    refine tr_e (e_call Try.call57 rfl (F.table_Table_Slint_Place_ok H)) rfl rfl ?_
    rintro _ h35 ⟨r36, r37, r38, rfl, H⟩
    refine tr_p (y_move rfl) rfl rfl ?_
    refine tr_p (y_ext rfl rfl) rfl rfl ?_
    refine tr_p (y_ext rfl rfl) rfl rfl ?_
    refine tr_p (y_ext rfl rfl) rfl rfl ?_
    refine tr_p (y_assign rfl) rfl rfl ?_
    refine tr_p (y_assign rfl) rfl rfl ?_
    refine tr_p (y_assign rfl) rfl rfl ?_
    refine tr_nil ?_
    refine tr_thenN ?_
    refine tr_seq_j (fun L' h => ∃ (x2 : Addr) (x4 : Addr) (x5 : Addr) (x6 : Addr) (x7 : Addr) (x8 : Addr) (x9 : ByteArray) (x13 : Int) (x14 : Bool), L' = [(2, (.pointer (some x2))), (4, (.pointer (some x4))), (5, (.pointer (some x5))), (6, (.pointer (some x6))), (7, (.pointer (some x7))), (8, (.pointer (some x8))), (9, (.string x9)), (13, (.int .i64 x13)), (14, (.bool x14))] ∧ F.spatelaw6_lies.j1 Q K1 J1 l1 x2 x4 x5 x6 x7 x8 x9 x13 x14 h) ?_ ?_
    · rintro L' h ⟨x2, x4, x5, x6, x7, x8, x9, x13, x14, rfl, H⟩
      unfold F.spatelaw6_lies.j1 at H
      refine tr_seq_j (fun L' h => ∃ (x5 : Addr) (x6 : Addr) (x7 : Addr) (x8 : Addr) (x9 : ByteArray) (x13 : Int) (x14 : Bool), L' = [(5, (.pointer (some x5))), (6, (.pointer (some x6))), (7, (.pointer (some x7))), (8, (.pointer (some x8))), (9, (.string x9)), (13, (.int .i64 x13)), (14, (.bool x14))] ∧ F.spatelaw6_lies.j2 Q K1 J1 l1 x5 x6 x7 x8 x9 x13 x14 h) ?_ ?_
      · rintro L' h ⟨x5, x6, x7, x8, x9, x13, x14, rfl, H⟩
        unfold F.spatelaw6_lies.j2 at H
        refine tr_seq_j (fun L' h => ∃ (x5 : Addr) (x6 : Addr) (x9 : ByteArray), L' = [(5, (.pointer (some x5))), (6, (.pointer (some x6))), (9, (.string x9))] ∧ F.spatelaw6_lies.j3 Q K1 J1 l1 x5 x6 x9 h) ?_ ?_
        · rintro L' h ⟨x5, x6, x9, rfl, H⟩
          unfold F.spatelaw6_lies.j3 at H
          refine tr_seq ?_
          refine tr_region ?_
          refine tr_p (y_move rfl) rfl rfl ?_
          refine tr_e (f_store (vs := [(.string x9)]) Try.sizeOf9 rfl rfl rfl rfl (one1 rfl) H) rfl rfl ?_
          rintro _ h39 ⟨rfl, H⟩
          refine tr_nil ?_
          refine tr_thenN ?_
          refine tr_region ?_
          obtain ⟨y40, k41, H⟩ := H
          refine tr_h (y_ld Try.isAgg3 rfl) k41 rfl rfl ?_
          refine tr_p (y_add rfl rfl) rfl rfl ?_
          refine tr_e (f_store (vs := [(.int .i64 (IntKind.wrap .i64 (y40 + 1)))]) Try.sizeOf3 rfl rfl rfl rfl (one1 rfl) H) rfl rfl ?_
          rintro _ h42 ⟨rfl, H⟩
          refine tr_nil ?_
          refine tr_blockN ?_
          exact tr_rN H
        · refine tr_seq ?_
          refine tr_region ?_
          refine tr_p (y_move rfl) rfl rfl ?_
          refine tr_nil ?_
          refine tr_thenN ?_
          refine tr_cond rfl (fun g43 => ?_) (fun g43 => ?_)
          · replace H := H.1 g43
            refine tr_region ?_
            obtain ⟨y44, k45, H⟩ := H
            refine tr_h (y_ld Try.isAgg96 rfl) k45 rfl rfl ?_
            refine tr_p (y_move rfl) rfl rfl ?_
            refine tr_e (f_mu rfl rfl rfl H) rfl rfl ?_
            rintro _ h46 ⟨rfl, H⟩
            refine tr_nil ?_
            refine tr_thenN ?_
            exact tr_join [(5, (.pointer (some x5))), (6, (.pointer (some x6))), (9, (.string x9))] ⟨rfl, rfl, rfl, trivial⟩ ⟨_, _, _, rfl, H⟩
          · replace H := H.2 g43
            refine tr_region ?_
            obtain ⟨y47, k48, H⟩ := H
            refine tr_h (y_ld Try.isAgg96 rfl) k48 rfl rfl ?_
            refine tr_p (y_move rfl) rfl rfl ?_
            refine tr_e (f_mu rfl rfl rfl H) rfl rfl ?_
            rintro _ h49 ⟨rfl, H⟩
            refine tr_nil ?_
            refine tr_thenN ?_
            exact tr_join [(5, (.pointer (some x5))), (6, (.pointer (some x6))), (9, (.string x9))] ⟨rfl, rfl, rfl, trivial⟩ ⟨_, _, _, rfl, H⟩
      · refine tr_seq_j (fun L' h => ∃ (x4 : Addr) (x5 : Addr) (x6 : Addr) (x7 : Addr) (x8 : Addr) (x9 : ByteArray) (x13 : Int) (x14 : Bool) (x100 : Bool), L' = [(4, (.pointer (some x4))), (5, (.pointer (some x5))), (6, (.pointer (some x6))), (7, (.pointer (some x7))), (8, (.pointer (some x8))), (9, (.string x9)), (13, (.int .i64 x13)), (14, (.bool x14)), (100, (.bool x100))] ∧ F.spatelaw6_lies.j4 Q K1 J1 l1 x4 x5 x6 x7 x8 x9 x13 x14 x100 h) ?_ ?_
        · rintro L' h ⟨x4, x5, x6, x7, x8, x9, x13, x14, x100, rfl, H⟩
          unfold F.spatelaw6_lies.j4 at H
          refine tr_cond rfl (fun g50 => ?_) (fun g50 => ?_)
          · replace H := H.1 g50
            refine tr_seq ?_
            refine tr_region ?_
            refine tr_e (f_store (vs := [(.bool false)]) Try.sizeOf4 rfl rfl rfl rfl (one1 rfl) H) rfl rfl ?_
            rintro _ h51 ⟨rfl, H⟩
            refine tr_nil ?_
            refine tr_thenN ?_
            refine tr_ret ?_
            refine tr_thenR ?_
            refine tr_blockR ?_
            exact tr_rR 0 rfl H
          · replace H := H.2 g50
            refine tr_skip ?_
            refine tr_thenN ?_
            exact tr_join [(5, (.pointer (some x5))), (6, (.pointer (some x6))), (7, (.pointer (some x7))), (8, (.pointer (some x8))), (9, (.string x9)), (13, (.int .i64 x13)), (14, (.bool x14))] ⟨rfl, rfl, rfl, rfl, rfl, rfl, rfl, trivial⟩ ⟨_, _, _, _, _, _, _, rfl, H⟩
        · refine tr_region ?_
          refine tr_p (y_move rfl) rfl rfl ?_
          refine tr_p (y_move rfl) rfl rfl ?_
          refine tr_split (t := 63) rfl (fun g52 => ?_) (fun g52 => ?_)
          · replace H := H.1 g52
            obtain ⟨y53, k54, H⟩ := H
            refine tr_h (y_ld Try.isAgg96 rfl) k54 rfl rfl ?_
            refine tr_p (y_move rfl) rfl rfl ?_
            refine tr_e (f_lk rfl rfl H) rfl rfl ?_
            rintro _ h55 ⟨r56, rfl, H⟩
            refine tr_p (y_pick_t rfl rfl) rfl rfl ?_
            refine tr_p (y_move rfl) rfl rfl ?_
            refine tr_split (t := 68) rfl (fun g57 => ?_) (fun g57 => ?_)
            · replace H := H.1 g57
              refine tr_s rfl rfl ?_
              refine tr_s rfl rfl ?_
              refine tr_s rfl rfl ?_
              refine tr_s rfl rfl ?_
              refine tr_s rfl rfl ?_
              refine tr_s rfl rfl ?_
              refine tr_s rfl rfl ?_
              refine tr_p (y_pick_t rfl rfl) rfl rfl ?_
              refine tr_p (y_move rfl) rfl rfl ?_
              refine tr_s rfl rfl ?_
              refine tr_s rfl rfl ?_
              refine tr_p (y_pick_t rfl rfl) rfl rfl ?_
              refine tr_p (y_move rfl) rfl rfl ?_
              refine tr_s rfl rfl ?_
              refine tr_s rfl rfl ?_
              refine tr_s rfl rfl ?_
              refine tr_s rfl rfl ?_
              refine tr_s rfl rfl ?_
              refine tr_s rfl rfl ?_
              refine tr_s rfl rfl ?_
              refine tr_s rfl rfl ?_
              refine tr_p (y_pick_t rfl rfl) rfl rfl ?_
              refine tr_p (y_move rfl) rfl rfl ?_
              refine tr_s rfl rfl ?_
              refine tr_s rfl rfl ?_
              refine tr_s rfl rfl ?_
              refine tr_s rfl rfl ?_
              refine tr_s rfl rfl ?_
              refine tr_s rfl rfl ?_
              refine tr_s rfl rfl ?_
              refine tr_s rfl rfl ?_
              refine tr_p (y_pick_t rfl rfl) rfl rfl ?_
              refine tr_nil ?_
              refine tr_thenN ?_
              exact tr_join [(4, (.pointer (some x4))), (5, (.pointer (some x5))), (6, (.pointer (some x6))), (7, (.pointer (some x7))), (8, (.pointer (some x8))), (9, (.string x9)), (13, (.int .i64 x13)), (14, (.bool x14)), (100, (.bool true))] ⟨rfl, rfl, rfl, rfl, rfl, rfl, rfl, rfl, rfl, trivial⟩ ⟨_, _, _, _, _, _, _, _, _, rfl, H⟩
            · replace H := H.2 g57
              refine tr_p (y_move rfl) rfl rfl ?_
              refine tr_p (y_not rfl) rfl rfl ?_
              refine tr_p (y_move rfl) rfl rfl ?_
              refine tr_split (t := 71) rfl (fun g58 => ?_) (fun g58 => ?_)
              · replace H := H.1 g58
                obtain ⟨y59, k60, H⟩ := H
                refine tr_h (y_ld Try.isAgg96 rfl) k60 rfl rfl ?_
                refine tr_p (y_move rfl) rfl rfl ?_
                refine tr_e (f_lk rfl rfl H) rfl rfl ?_
                rintro _ h61 ⟨r62, rfl, H⟩
                refine tr_p (y_pick_t rfl rfl) rfl rfl ?_
                refine tr_p (y_pick_f rfl rfl) rfl rfl ?_
                refine tr_p (y_move rfl) rfl rfl ?_
                refine tr_split (t := 77) rfl (fun g63 => ?_) (fun g63 => ?_)
                · replace H := H.1 g63
                  refine tr_s rfl rfl ?_
                  refine tr_s rfl rfl ?_
                  refine tr_p (y_pick_t rfl rfl) rfl rfl ?_
                  refine tr_p (y_move rfl) rfl rfl ?_
                  refine tr_s rfl rfl ?_
                  refine tr_s rfl rfl ?_
                  refine tr_s rfl rfl ?_
                  refine tr_s rfl rfl ?_
                  refine tr_s rfl rfl ?_
                  refine tr_s rfl rfl ?_
                  refine tr_s rfl rfl ?_
                  refine tr_s rfl rfl ?_
                  refine tr_p (y_pick_t rfl rfl) rfl rfl ?_
                  refine tr_p (y_move rfl) rfl rfl ?_
                  refine tr_s rfl rfl ?_
                  refine tr_s rfl rfl ?_
                  refine tr_s rfl rfl ?_
                  refine tr_s rfl rfl ?_
                  refine tr_s rfl rfl ?_
                  refine tr_s rfl rfl ?_
                  refine tr_s rfl rfl ?_
                  refine tr_s rfl rfl ?_
                  refine tr_p (y_pick_t rfl rfl) rfl rfl ?_
                  refine tr_nil ?_
                  refine tr_thenN ?_
                  exact tr_join [(4, (.pointer (some x4))), (5, (.pointer (some x5))), (6, (.pointer (some x6))), (7, (.pointer (some x7))), (8, (.pointer (some x8))), (9, (.string x9)), (13, (.int .i64 x13)), (14, (.bool x14)), (100, (.bool true))] ⟨rfl, rfl, rfl, rfl, rfl, rfl, rfl, rfl, rfl, trivial⟩ ⟨_, _, _, _, _, _, _, _, _, rfl, H⟩
                · replace H := H.2 g63
                  refine tr_p (y_move rfl) rfl rfl ?_
                  refine tr_p (y_lss rfl rfl) rfl rfl ?_
                  refine tr_p (y_pick_f rfl rfl) rfl rfl ?_
                  refine tr_p (y_move rfl) rfl rfl ?_
                  refine tr_split (t := 81) rfl (fun g64 => ?_) (fun g64 => ?_)
                  · replace H := H.1 g64
                    refine tr_s rfl rfl ?_
                    refine tr_s rfl rfl ?_
                    refine tr_s rfl rfl ?_
                    refine tr_s rfl rfl ?_
                    refine tr_s rfl rfl ?_
                    refine tr_s rfl rfl ?_
                    refine tr_s rfl rfl ?_
                    refine tr_s rfl rfl ?_
                    refine tr_p (y_pick_t rfl rfl) rfl rfl ?_
                    refine tr_p (y_move rfl) rfl rfl ?_
                    refine tr_s rfl rfl ?_
                    refine tr_s rfl rfl ?_
                    refine tr_s rfl rfl ?_
                    refine tr_s rfl rfl ?_
                    refine tr_s rfl rfl ?_
                    refine tr_s rfl rfl ?_
                    refine tr_s rfl rfl ?_
                    refine tr_s rfl rfl ?_
                    refine tr_p (y_pick_t rfl rfl) rfl rfl ?_
                    refine tr_nil ?_
                    refine tr_thenN ?_
                    exact tr_join [(4, (.pointer (some x4))), (5, (.pointer (some x5))), (6, (.pointer (some x6))), (7, (.pointer (some x7))), (8, (.pointer (some x8))), (9, (.string x9)), (13, (.int .i64 x13)), (14, (.bool x14)), (100, (.bool true))] ⟨rfl, rfl, rfl, rfl, rfl, rfl, rfl, rfl, rfl, trivial⟩ ⟨_, _, _, _, _, _, _, _, _, rfl, H⟩
                  · replace H := H.2 g64
                    refine tr_p (y_move rfl) rfl rfl ?_
                    refine tr_p (y_not rfl) rfl rfl ?_
                    refine tr_p (y_move rfl) rfl rfl ?_
                    refine tr_split (t := 84) rfl (fun g65 => ?_) (fun g65 => ?_)
                    · replace H := H.1 g65
                      refine tr_p (y_move rfl) rfl rfl ?_
                      obtain ⟨y66, k67, H⟩ := H
                      refine tr_h (y_ld Try.isAgg48 rfl) k67 rfl rfl ?_
                      refine tr_e (e_call Try.call32 rfl (F.table_Table_Slint_Slots_ok H)) rfl rfl ?_
                      rintro _ h68 ⟨r69, rfl, H⟩
                      refine tr_p (y_geq rfl rfl) rfl rfl ?_
                      refine tr_p (y_pick_t rfl rfl) rfl rfl ?_
                      refine tr_p (y_pick_f rfl rfl) rfl rfl ?_
                      refine tr_p (y_move rfl) rfl rfl ?_
                      refine tr_split (t := 91) rfl (fun g70 => ?_) (fun g70 => ?_)
                      · replace H := H.1 g70
                        refine tr_s rfl rfl ?_
                        refine tr_s rfl rfl ?_
                        refine tr_s rfl rfl ?_
                        refine tr_s rfl rfl ?_
                        refine tr_s rfl rfl ?_
                        refine tr_s rfl rfl ?_
                        refine tr_s rfl rfl ?_
                        refine tr_s rfl rfl ?_
                        refine tr_p (y_pick_t rfl rfl) rfl rfl ?_
                        refine tr_nil ?_
                        refine tr_thenN ?_
                        exact tr_join [(4, (.pointer (some x4))), (5, (.pointer (some x5))), (6, (.pointer (some x6))), (7, (.pointer (some x7))), (8, (.pointer (some x8))), (9, (.string x9)), (13, (.int .i64 x13)), (14, (.bool x14)), (100, (.bool true))] ⟨rfl, rfl, rfl, rfl, rfl, rfl, rfl, rfl, rfl, trivial⟩ ⟨_, _, _, _, _, _, _, _, _, rfl, H⟩
                      · replace H := H.2 g70
                        refine tr_p (y_move rfl) rfl rfl ?_
                        refine tr_p (y_move rfl) rfl rfl ?_
                        refine tr_split (t := 93) rfl (fun g71 => ?_) (fun g71 => ?_)
                        · replace H := H.1 g71
                          refine tr_p (y_move rfl) rfl rfl ?_
                          obtain ⟨y72, k73, H⟩ := H
                          refine tr_h (y_ld Try.isAgg48 rfl) k73 rfl rfl ?_
                          refine tr_e (e_call Try.call32 rfl (F.table_Table_Slint_Slots_ok H)) rfl rfl ?_
                          rintro _ h74 ⟨r75, rfl, H⟩
                          obtain ⟨e76, H⟩ := H
                          refine tr_p (y_quo rfl rfl e76) rfl rfl ?_
                          refine tr_p (y_geq rfl rfl) rfl rfl ?_
                          refine tr_p (y_pick_t rfl rfl) rfl rfl ?_
                          refine tr_p (y_pick_f rfl rfl) rfl rfl ?_
                          refine tr_nil ?_
                          refine tr_thenN ?_
                          exact tr_join [(4, (.pointer (some x4))), (5, (.pointer (some x5))), (6, (.pointer (some x6))), (7, (.pointer (some x7))), (8, (.pointer (some x8))), (9, (.string x9)), (13, (.int .i64 x13)), (14, (.bool x14)), (100, (.bool (decide (x13 ≥ (IntKind.wrap .i64 (Int.tdiv r75 2))))))] ⟨rfl, rfl, rfl, rfl, rfl, rfl, rfl, rfl, rfl, trivial⟩ ⟨_, _, _, _, _, _, _, _, _, rfl, H⟩
                        · replace H := H.2 g71
                          refine tr_s rfl rfl ?_
                          refine tr_s rfl rfl ?_
                          refine tr_s rfl rfl ?_
                          refine tr_s rfl rfl ?_
                          refine tr_s rfl rfl ?_
                          refine tr_p (y_pick_f rfl rfl) rfl rfl ?_
                          refine tr_p (y_pick_f rfl rfl) rfl rfl ?_
                          refine tr_nil ?_
                          refine tr_thenN ?_
                          exact tr_join [(4, (.pointer (some x4))), (5, (.pointer (some x5))), (6, (.pointer (some x6))), (7, (.pointer (some x7))), (8, (.pointer (some x8))), (9, (.string x9)), (13, (.int .i64 x13)), (14, (.bool x14)), (100, (.bool false))] ⟨rfl, rfl, rfl, rfl, rfl, rfl, rfl, rfl, rfl, trivial⟩ ⟨_, _, _, _, _, _, _, _, _, rfl, H⟩
                    · replace H := H.2 g65
                      refine tr_s rfl rfl ?_
                      refine tr_s rfl rfl ?_
                      refine tr_s rfl rfl ?_
                      refine tr_s rfl rfl ?_
                      refine tr_p (y_pick_f rfl rfl) rfl rfl ?_
                      refine tr_p (y_pick_f rfl rfl) rfl rfl ?_
                      refine tr_p (y_move rfl) rfl rfl ?_
                      refine tr_p (y_move rfl) rfl rfl ?_
                      refine tr_p (y_move rfl) rfl rfl ?_
                      refine tr_split (t := 93) rfl (fun g77 => ?_) (fun g77 => ?_)
                      · replace H := H.1 g77
                        refine tr_p (y_move rfl) rfl rfl ?_
                        obtain ⟨y78, k79, H⟩ := H
                        refine tr_h (y_ld Try.isAgg48 rfl) k79 rfl rfl ?_
                        refine tr_e (e_call Try.call32 rfl (F.table_Table_Slint_Slots_ok H)) rfl rfl ?_
                        rintro _ h80 ⟨r81, rfl, H⟩
                        obtain ⟨e82, H⟩ := H
                        refine tr_p (y_quo rfl rfl e82) rfl rfl ?_
                        refine tr_p (y_geq rfl rfl) rfl rfl ?_
                        refine tr_p (y_pick_t rfl rfl) rfl rfl ?_
                        refine tr_p (y_pick_f rfl rfl) rfl rfl ?_
                        refine tr_nil ?_
                        refine tr_thenN ?_
                        exact tr_join [(4, (.pointer (some x4))), (5, (.pointer (some x5))), (6, (.pointer (some x6))), (7, (.pointer (some x7))), (8, (.pointer (some x8))), (9, (.string x9)), (13, (.int .i64 x13)), (14, (.bool x14)), (100, (.bool (decide (x13 ≥ (IntKind.wrap .i64 (Int.tdiv r81 2))))))] ⟨rfl, rfl, rfl, rfl, rfl, rfl, rfl, rfl, rfl, trivial⟩ ⟨_, _, _, _, _, _, _, _, _, rfl, H⟩
                      · replace H := H.2 g77
                        refine tr_s rfl rfl ?_
                        refine tr_s rfl rfl ?_
                        refine tr_s rfl rfl ?_
                        refine tr_s rfl rfl ?_
                        refine tr_s rfl rfl ?_
                        refine tr_p (y_pick_f rfl rfl) rfl rfl ?_
                        refine tr_p (y_pick_f rfl rfl) rfl rfl ?_
                        refine tr_nil ?_
                        refine tr_thenN ?_
                        exact tr_join [(4, (.pointer (some x4))), (5, (.pointer (some x5))), (6, (.pointer (some x6))), (7, (.pointer (some x7))), (8, (.pointer (some x8))), (9, (.string x9)), (13, (.int .i64 x13)), (14, (.bool x14)), (100, (.bool false))] ⟨rfl, rfl, rfl, rfl, rfl, rfl, rfl, rfl, rfl, trivial⟩ ⟨_, _, _, _, _, _, _, _, _, rfl, H⟩
              · replace H := H.2 g58
                refine tr_s rfl rfl ?_
                refine tr_s rfl rfl ?_
                refine tr_s rfl rfl ?_
                refine tr_p (y_pick_f rfl rfl) rfl rfl ?_
                refine tr_p (y_pick_f rfl rfl) rfl rfl ?_
                refine tr_p (y_move rfl) rfl rfl ?_
                refine tr_p (y_move rfl) rfl rfl ?_
                refine tr_p (y_lss rfl rfl) rfl rfl ?_
                refine tr_p (y_pick_f rfl rfl) rfl rfl ?_
                refine tr_p (y_move rfl) rfl rfl ?_
                refine tr_split (t := 81) rfl (fun g83 => ?_) (fun g83 => ?_)
                · replace H := H.1 g83
                  refine tr_s rfl rfl ?_
                  refine tr_s rfl rfl ?_
                  refine tr_s rfl rfl ?_
                  refine tr_s rfl rfl ?_
                  refine tr_s rfl rfl ?_
                  refine tr_s rfl rfl ?_
                  refine tr_s rfl rfl ?_
                  refine tr_s rfl rfl ?_
                  refine tr_p (y_pick_t rfl rfl) rfl rfl ?_
                  refine tr_p (y_move rfl) rfl rfl ?_
                  refine tr_s rfl rfl ?_
                  refine tr_s rfl rfl ?_
                  refine tr_s rfl rfl ?_
                  refine tr_s rfl rfl ?_
                  refine tr_s rfl rfl ?_
                  refine tr_s rfl rfl ?_
                  refine tr_s rfl rfl ?_
                  refine tr_s rfl rfl ?_
                  refine tr_p (y_pick_t rfl rfl) rfl rfl ?_
                  refine tr_nil ?_
                  refine tr_thenN ?_
                  exact tr_join [(4, (.pointer (some x4))), (5, (.pointer (some x5))), (6, (.pointer (some x6))), (7, (.pointer (some x7))), (8, (.pointer (some x8))), (9, (.string x9)), (13, (.int .i64 x13)), (14, (.bool x14)), (100, (.bool true))] ⟨rfl, rfl, rfl, rfl, rfl, rfl, rfl, rfl, rfl, trivial⟩ ⟨_, _, _, _, _, _, _, _, _, rfl, H⟩
                · replace H := H.2 g83
                  refine tr_p (y_move rfl) rfl rfl ?_
                  refine tr_p (y_not rfl) rfl rfl ?_
                  refine tr_p (y_move rfl) rfl rfl ?_
                  refine tr_split (t := 84) rfl (fun g84 => ?_) (fun g84 => ?_)
                  · replace H := H.1 g84
                    refine tr_p (y_move rfl) rfl rfl ?_
                    obtain ⟨y85, k86, H⟩ := H
                    refine tr_h (y_ld Try.isAgg48 rfl) k86 rfl rfl ?_
                    refine tr_e (e_call Try.call32 rfl (F.table_Table_Slint_Slots_ok H)) rfl rfl ?_
                    rintro _ h87 ⟨r88, rfl, H⟩
                    refine tr_p (y_geq rfl rfl) rfl rfl ?_
                    refine tr_p (y_pick_t rfl rfl) rfl rfl ?_
                    refine tr_p (y_pick_f rfl rfl) rfl rfl ?_
                    refine tr_p (y_move rfl) rfl rfl ?_
                    refine tr_split (t := 91) rfl (fun g89 => ?_) (fun g89 => ?_)
                    · replace H := H.1 g89
                      refine tr_s rfl rfl ?_
                      refine tr_s rfl rfl ?_
                      refine tr_s rfl rfl ?_
                      refine tr_s rfl rfl ?_
                      refine tr_s rfl rfl ?_
                      refine tr_s rfl rfl ?_
                      refine tr_s rfl rfl ?_
                      refine tr_s rfl rfl ?_
                      refine tr_p (y_pick_t rfl rfl) rfl rfl ?_
                      refine tr_nil ?_
                      refine tr_thenN ?_
                      exact tr_join [(4, (.pointer (some x4))), (5, (.pointer (some x5))), (6, (.pointer (some x6))), (7, (.pointer (some x7))), (8, (.pointer (some x8))), (9, (.string x9)), (13, (.int .i64 x13)), (14, (.bool x14)), (100, (.bool true))] ⟨rfl, rfl, rfl, rfl, rfl, rfl, rfl, rfl, rfl, trivial⟩ ⟨_, _, _, _, _, _, _, _, _, rfl, H⟩
                    · replace H := H.2 g89
                      refine tr_p (y_move rfl) rfl rfl ?_
                      refine tr_p (y_move rfl) rfl rfl ?_
                      refine tr_split (t := 93) rfl (fun g90 => ?_) (fun g90 => ?_)
                      · replace H := H.1 g90
                        refine tr_p (y_move rfl) rfl rfl ?_
                        obtain ⟨y91, k92, H⟩ := H
                        refine tr_h (y_ld Try.isAgg48 rfl) k92 rfl rfl ?_
                        refine tr_e (e_call Try.call32 rfl (F.table_Table_Slint_Slots_ok H)) rfl rfl ?_
                        rintro _ h93 ⟨r94, rfl, H⟩
                        obtain ⟨e95, H⟩ := H
                        refine tr_p (y_quo rfl rfl e95) rfl rfl ?_
                        refine tr_p (y_geq rfl rfl) rfl rfl ?_
                        refine tr_p (y_pick_t rfl rfl) rfl rfl ?_
                        refine tr_p (y_pick_f rfl rfl) rfl rfl ?_
                        refine tr_nil ?_
                        refine tr_thenN ?_
                        exact tr_join [(4, (.pointer (some x4))), (5, (.pointer (some x5))), (6, (.pointer (some x6))), (7, (.pointer (some x7))), (8, (.pointer (some x8))), (9, (.string x9)), (13, (.int .i64 x13)), (14, (.bool x14)), (100, (.bool (decide (x13 ≥ (IntKind.wrap .i64 (Int.tdiv r94 2))))))] ⟨rfl, rfl, rfl, rfl, rfl, rfl, rfl, rfl, rfl, trivial⟩ ⟨_, _, _, _, _, _, _, _, _, rfl, H⟩
                      · replace H := H.2 g90
                        refine tr_s rfl rfl ?_
                        refine tr_s rfl rfl ?_
                        refine tr_s rfl rfl ?_
                        refine tr_s rfl rfl ?_
                        refine tr_s rfl rfl ?_
                        refine tr_p (y_pick_f rfl rfl) rfl rfl ?_
                        refine tr_p (y_pick_f rfl rfl) rfl rfl ?_
                        refine tr_nil ?_
                        refine tr_thenN ?_
                        exact tr_join [(4, (.pointer (some x4))), (5, (.pointer (some x5))), (6, (.pointer (some x6))), (7, (.pointer (some x7))), (8, (.pointer (some x8))), (9, (.string x9)), (13, (.int .i64 x13)), (14, (.bool x14)), (100, (.bool false))] ⟨rfl, rfl, rfl, rfl, rfl, rfl, rfl, rfl, rfl, trivial⟩ ⟨_, _, _, _, _, _, _, _, _, rfl, H⟩
                  · replace H := H.2 g84
                    refine tr_s rfl rfl ?_
                    refine tr_s rfl rfl ?_
                    refine tr_s rfl rfl ?_
                    refine tr_s rfl rfl ?_
                    refine tr_p (y_pick_f rfl rfl) rfl rfl ?_
                    refine tr_p (y_pick_f rfl rfl) rfl rfl ?_
                    refine tr_p (y_move rfl) rfl rfl ?_
                    refine tr_p (y_move rfl) rfl rfl ?_
                    refine tr_p (y_move rfl) rfl rfl ?_
                    refine tr_split (t := 93) rfl (fun g96 => ?_) (fun g96 => ?_)
                    · replace H := H.1 g96
                      refine tr_p (y_move rfl) rfl rfl ?_
                      obtain ⟨y97, k98, H⟩ := H
                      refine tr_h (y_ld Try.isAgg48 rfl) k98 rfl rfl ?_
                      refine tr_e (e_call Try.call32 rfl (F.table_Table_Slint_Slots_ok H)) rfl rfl ?_
                      rintro _ h99 ⟨r100, rfl, H⟩
                      obtain ⟨e101, H⟩ := H
                      refine tr_p (y_quo rfl rfl e101) rfl rfl ?_
                      refine tr_p (y_geq rfl rfl) rfl rfl ?_
                      refine tr_p (y_pick_t rfl rfl) rfl rfl ?_
                      refine tr_p (y_pick_f rfl rfl) rfl rfl ?_
                      refine tr_nil ?_
                      refine tr_thenN ?_
                      exact tr_join [(4, (.pointer (some x4))), (5, (.pointer (some x5))), (6, (.pointer (some x6))), (7, (.pointer (some x7))), (8, (.pointer (some x8))), (9, (.string x9)), (13, (.int .i64 x13)), (14, (.bool x14)), (100, (.bool (decide (x13 ≥ (IntKind.wrap .i64 (Int.tdiv r100 2))))))] ⟨rfl, rfl, rfl, rfl, rfl, rfl, rfl, rfl, rfl, trivial⟩ ⟨_, _, _, _, _, _, _, _, _, rfl, H⟩
                    · replace H := H.2 g96
                      refine tr_s rfl rfl ?_
                      refine tr_s rfl rfl ?_
                      refine tr_s rfl rfl ?_
                      refine tr_s rfl rfl ?_
                      refine tr_s rfl rfl ?_
                      refine tr_p (y_pick_f rfl rfl) rfl rfl ?_
                      refine tr_p (y_pick_f rfl rfl) rfl rfl ?_
                      refine tr_nil ?_
                      refine tr_thenN ?_
                      exact tr_join [(4, (.pointer (some x4))), (5, (.pointer (some x5))), (6, (.pointer (some x6))), (7, (.pointer (some x7))), (8, (.pointer (some x8))), (9, (.string x9)), (13, (.int .i64 x13)), (14, (.bool x14)), (100, (.bool false))] ⟨rfl, rfl, rfl, rfl, rfl, rfl, rfl, rfl, rfl, trivial⟩ ⟨_, _, _, _, _, _, _, _, _, rfl, H⟩
          · replace H := H.2 g52
            refine tr_s rfl rfl ?_
            refine tr_s rfl rfl ?_
            refine tr_s rfl rfl ?_
            refine tr_p (y_pick_f rfl rfl) rfl rfl ?_
            refine tr_p (y_move rfl) rfl rfl ?_
            refine tr_p (y_move rfl) rfl rfl ?_
            refine tr_p (y_not rfl) rfl rfl ?_
            refine tr_p (y_move rfl) rfl rfl ?_
            refine tr_split (t := 71) rfl (fun g102 => ?_) (fun g102 => ?_)
            · replace H := H.1 g102
              obtain ⟨y103, k104, H⟩ := H
              refine tr_h (y_ld Try.isAgg96 rfl) k104 rfl rfl ?_
              refine tr_p (y_move rfl) rfl rfl ?_
              refine tr_e (f_lk rfl rfl H) rfl rfl ?_
              rintro _ h105 ⟨r106, rfl, H⟩
              refine tr_p (y_pick_t rfl rfl) rfl rfl ?_
              refine tr_p (y_pick_f rfl rfl) rfl rfl ?_
              refine tr_p (y_move rfl) rfl rfl ?_
              refine tr_split (t := 77) rfl (fun g107 => ?_) (fun g107 => ?_)
              · replace H := H.1 g107
                refine tr_s rfl rfl ?_
                refine tr_s rfl rfl ?_
                refine tr_p (y_pick_t rfl rfl) rfl rfl ?_
                refine tr_p (y_move rfl) rfl rfl ?_
                refine tr_s rfl rfl ?_
                refine tr_s rfl rfl ?_
                refine tr_s rfl rfl ?_
                refine tr_s rfl rfl ?_
                refine tr_s rfl rfl ?_
                refine tr_s rfl rfl ?_
                refine tr_s rfl rfl ?_
                refine tr_s rfl rfl ?_
                refine tr_p (y_pick_t rfl rfl) rfl rfl ?_
                refine tr_p (y_move rfl) rfl rfl ?_
                refine tr_s rfl rfl ?_
                refine tr_s rfl rfl ?_
                refine tr_s rfl rfl ?_
                refine tr_s rfl rfl ?_
                refine tr_s rfl rfl ?_
                refine tr_s rfl rfl ?_
                refine tr_s rfl rfl ?_
                refine tr_s rfl rfl ?_
                refine tr_p (y_pick_t rfl rfl) rfl rfl ?_
                refine tr_nil ?_
                refine tr_thenN ?_
                exact tr_join [(4, (.pointer (some x4))), (5, (.pointer (some x5))), (6, (.pointer (some x6))), (7, (.pointer (some x7))), (8, (.pointer (some x8))), (9, (.string x9)), (13, (.int .i64 x13)), (14, (.bool x14)), (100, (.bool true))] ⟨rfl, rfl, rfl, rfl, rfl, rfl, rfl, rfl, rfl, trivial⟩ ⟨_, _, _, _, _, _, _, _, _, rfl, H⟩
              · replace H := H.2 g107
                refine tr_p (y_move rfl) rfl rfl ?_
                refine tr_p (y_lss rfl rfl) rfl rfl ?_
                refine tr_p (y_pick_f rfl rfl) rfl rfl ?_
                refine tr_p (y_move rfl) rfl rfl ?_
                refine tr_split (t := 81) rfl (fun g108 => ?_) (fun g108 => ?_)
                · replace H := H.1 g108
                  refine tr_s rfl rfl ?_
                  refine tr_s rfl rfl ?_
                  refine tr_s rfl rfl ?_
                  refine tr_s rfl rfl ?_
                  refine tr_s rfl rfl ?_
                  refine tr_s rfl rfl ?_
                  refine tr_s rfl rfl ?_
                  refine tr_s rfl rfl ?_
                  refine tr_p (y_pick_t rfl rfl) rfl rfl ?_
                  refine tr_p (y_move rfl) rfl rfl ?_
                  refine tr_s rfl rfl ?_
                  refine tr_s rfl rfl ?_
                  refine tr_s rfl rfl ?_
                  refine tr_s rfl rfl ?_
                  refine tr_s rfl rfl ?_
                  refine tr_s rfl rfl ?_
                  refine tr_s rfl rfl ?_
                  refine tr_s rfl rfl ?_
                  refine tr_p (y_pick_t rfl rfl) rfl rfl ?_
                  refine tr_nil ?_
                  refine tr_thenN ?_
                  exact tr_join [(4, (.pointer (some x4))), (5, (.pointer (some x5))), (6, (.pointer (some x6))), (7, (.pointer (some x7))), (8, (.pointer (some x8))), (9, (.string x9)), (13, (.int .i64 x13)), (14, (.bool x14)), (100, (.bool true))] ⟨rfl, rfl, rfl, rfl, rfl, rfl, rfl, rfl, rfl, trivial⟩ ⟨_, _, _, _, _, _, _, _, _, rfl, H⟩
                · replace H := H.2 g108
                  refine tr_p (y_move rfl) rfl rfl ?_
                  refine tr_p (y_not rfl) rfl rfl ?_
                  refine tr_p (y_move rfl) rfl rfl ?_
                  refine tr_split (t := 84) rfl (fun g109 => ?_) (fun g109 => ?_)
                  · replace H := H.1 g109
                    refine tr_p (y_move rfl) rfl rfl ?_
                    obtain ⟨y110, k111, H⟩ := H
                    refine tr_h (y_ld Try.isAgg48 rfl) k111 rfl rfl ?_
                    refine tr_e (e_call Try.call32 rfl (F.table_Table_Slint_Slots_ok H)) rfl rfl ?_
                    rintro _ h112 ⟨r113, rfl, H⟩
                    refine tr_p (y_geq rfl rfl) rfl rfl ?_
                    refine tr_p (y_pick_t rfl rfl) rfl rfl ?_
                    refine tr_p (y_pick_f rfl rfl) rfl rfl ?_
                    refine tr_p (y_move rfl) rfl rfl ?_
                    refine tr_split (t := 91) rfl (fun g114 => ?_) (fun g114 => ?_)
                    · replace H := H.1 g114
                      refine tr_s rfl rfl ?_
                      refine tr_s rfl rfl ?_
                      refine tr_s rfl rfl ?_
                      refine tr_s rfl rfl ?_
                      refine tr_s rfl rfl ?_
                      refine tr_s rfl rfl ?_
                      refine tr_s rfl rfl ?_
                      refine tr_s rfl rfl ?_
                      refine tr_p (y_pick_t rfl rfl) rfl rfl ?_
                      refine tr_nil ?_
                      refine tr_thenN ?_
                      exact tr_join [(4, (.pointer (some x4))), (5, (.pointer (some x5))), (6, (.pointer (some x6))), (7, (.pointer (some x7))), (8, (.pointer (some x8))), (9, (.string x9)), (13, (.int .i64 x13)), (14, (.bool x14)), (100, (.bool true))] ⟨rfl, rfl, rfl, rfl, rfl, rfl, rfl, rfl, rfl, trivial⟩ ⟨_, _, _, _, _, _, _, _, _, rfl, H⟩
                    · replace H := H.2 g114
                      refine tr_p (y_move rfl) rfl rfl ?_
                      refine tr_p (y_move rfl) rfl rfl ?_
                      refine tr_split (t := 93) rfl (fun g115 => ?_) (fun g115 => ?_)
                      · replace H := H.1 g115
                        refine tr_p (y_move rfl) rfl rfl ?_
                        obtain ⟨y116, k117, H⟩ := H
                        refine tr_h (y_ld Try.isAgg48 rfl) k117 rfl rfl ?_
                        refine tr_e (e_call Try.call32 rfl (F.table_Table_Slint_Slots_ok H)) rfl rfl ?_
                        rintro _ h118 ⟨r119, rfl, H⟩
                        obtain ⟨e120, H⟩ := H
                        refine tr_p (y_quo rfl rfl e120) rfl rfl ?_
                        refine tr_p (y_geq rfl rfl) rfl rfl ?_
                        refine tr_p (y_pick_t rfl rfl) rfl rfl ?_
                        refine tr_p (y_pick_f rfl rfl) rfl rfl ?_
                        refine tr_nil ?_
                        refine tr_thenN ?_
                        exact tr_join [(4, (.pointer (some x4))), (5, (.pointer (some x5))), (6, (.pointer (some x6))), (7, (.pointer (some x7))), (8, (.pointer (some x8))), (9, (.string x9)), (13, (.int .i64 x13)), (14, (.bool x14)), (100, (.bool (decide (x13 ≥ (IntKind.wrap .i64 (Int.tdiv r119 2))))))] ⟨rfl, rfl, rfl, rfl, rfl, rfl, rfl, rfl, rfl, trivial⟩ ⟨_, _, _, _, _, _, _, _, _, rfl, H⟩
                      · replace H := H.2 g115
                        refine tr_s rfl rfl ?_
                        refine tr_s rfl rfl ?_
                        refine tr_s rfl rfl ?_
                        refine tr_s rfl rfl ?_
                        refine tr_s rfl rfl ?_
                        refine tr_p (y_pick_f rfl rfl) rfl rfl ?_
                        refine tr_p (y_pick_f rfl rfl) rfl rfl ?_
                        refine tr_nil ?_
                        refine tr_thenN ?_
                        exact tr_join [(4, (.pointer (some x4))), (5, (.pointer (some x5))), (6, (.pointer (some x6))), (7, (.pointer (some x7))), (8, (.pointer (some x8))), (9, (.string x9)), (13, (.int .i64 x13)), (14, (.bool x14)), (100, (.bool false))] ⟨rfl, rfl, rfl, rfl, rfl, rfl, rfl, rfl, rfl, trivial⟩ ⟨_, _, _, _, _, _, _, _, _, rfl, H⟩
                  · replace H := H.2 g109
                    refine tr_s rfl rfl ?_
                    refine tr_s rfl rfl ?_
                    refine tr_s rfl rfl ?_
                    refine tr_s rfl rfl ?_
                    refine tr_p (y_pick_f rfl rfl) rfl rfl ?_
                    refine tr_p (y_pick_f rfl rfl) rfl rfl ?_
                    refine tr_p (y_move rfl) rfl rfl ?_
                    refine tr_p (y_move rfl) rfl rfl ?_
                    refine tr_p (y_move rfl) rfl rfl ?_
                    refine tr_split (t := 93) rfl (fun g121 => ?_) (fun g121 => ?_)
                    · replace H := H.1 g121
                      refine tr_p (y_move rfl) rfl rfl ?_
                      obtain ⟨y122, k123, H⟩ := H
                      refine tr_h (y_ld Try.isAgg48 rfl) k123 rfl rfl ?_
                      refine tr_e (e_call Try.call32 rfl (F.table_Table_Slint_Slots_ok H)) rfl rfl ?_
                      rintro _ h124 ⟨r125, rfl, H⟩
                      obtain ⟨e126, H⟩ := H
                      refine tr_p (y_quo rfl rfl e126) rfl rfl ?_
                      refine tr_p (y_geq rfl rfl) rfl rfl ?_
                      refine tr_p (y_pick_t rfl rfl) rfl rfl ?_
                      refine tr_p (y_pick_f rfl rfl) rfl rfl ?_
                      refine tr_nil ?_
                      refine tr_thenN ?_
                      exact tr_join [(4, (.pointer (some x4))), (5, (.pointer (some x5))), (6, (.pointer (some x6))), (7, (.pointer (some x7))), (8, (.pointer (some x8))), (9, (.string x9)), (13, (.int .i64 x13)), (14, (.bool x14)), (100, (.bool (decide (x13 ≥ (IntKind.wrap .i64 (Int.tdiv r125 2))))))] ⟨rfl, rfl, rfl, rfl, rfl, rfl, rfl, rfl, rfl, trivial⟩ ⟨_, _, _, _, _, _, _, _, _, rfl, H⟩
                    · replace H := H.2 g121
                      refine tr_s rfl rfl ?_
                      refine tr_s rfl rfl ?_
                      refine tr_s rfl rfl ?_
                      refine tr_s rfl rfl ?_
                      refine tr_s rfl rfl ?_
                      refine tr_p (y_pick_f rfl rfl) rfl rfl ?_
                      refine tr_p (y_pick_f rfl rfl) rfl rfl ?_
                      refine tr_nil ?_
                      refine tr_thenN ?_
                      exact tr_join [(4, (.pointer (some x4))), (5, (.pointer (some x5))), (6, (.pointer (some x6))), (7, (.pointer (some x7))), (8, (.pointer (some x8))), (9, (.string x9)), (13, (.int .i64 x13)), (14, (.bool x14)), (100, (.bool false))] ⟨rfl, rfl, rfl, rfl, rfl, rfl, rfl, rfl, rfl, trivial⟩ ⟨_, _, _, _, _, _, _, _, _, rfl, H⟩
            · replace H := H.2 g102
              refine tr_s rfl rfl ?_
              refine tr_s rfl rfl ?_
              refine tr_s rfl rfl ?_
              refine tr_p (y_pick_f rfl rfl) rfl rfl ?_
              refine tr_p (y_pick_f rfl rfl) rfl rfl ?_
              refine tr_p (y_move rfl) rfl rfl ?_
              refine tr_p (y_move rfl) rfl rfl ?_
              refine tr_p (y_lss rfl rfl) rfl rfl ?_
              refine tr_p (y_pick_f rfl rfl) rfl rfl ?_
              refine tr_p (y_move rfl) rfl rfl ?_
              refine tr_split (t := 81) rfl (fun g127 => ?_) (fun g127 => ?_)
              · replace H := H.1 g127
                refine tr_s rfl rfl ?_
                refine tr_s rfl rfl ?_
                refine tr_s rfl rfl ?_
                refine tr_s rfl rfl ?_
                refine tr_s rfl rfl ?_
                refine tr_s rfl rfl ?_
                refine tr_s rfl rfl ?_
                refine tr_s rfl rfl ?_
                refine tr_p (y_pick_t rfl rfl) rfl rfl ?_
                refine tr_p (y_move rfl) rfl rfl ?_
                refine tr_s rfl rfl ?_
                refine tr_s rfl rfl ?_
                refine tr_s rfl rfl ?_
                refine tr_s rfl rfl ?_
                refine tr_s rfl rfl ?_
                refine tr_s rfl rfl ?_
                refine tr_s rfl rfl ?_
                refine tr_s rfl rfl ?_
                refine tr_p (y_pick_t rfl rfl) rfl rfl ?_
                refine tr_nil ?_
                refine tr_thenN ?_
                exact tr_join [(4, (.pointer (some x4))), (5, (.pointer (some x5))), (6, (.pointer (some x6))), (7, (.pointer (some x7))), (8, (.pointer (some x8))), (9, (.string x9)), (13, (.int .i64 x13)), (14, (.bool x14)), (100, (.bool true))] ⟨rfl, rfl, rfl, rfl, rfl, rfl, rfl, rfl, rfl, trivial⟩ ⟨_, _, _, _, _, _, _, _, _, rfl, H⟩
              · replace H := H.2 g127
                refine tr_p (y_move rfl) rfl rfl ?_
                refine tr_p (y_not rfl) rfl rfl ?_
                refine tr_p (y_move rfl) rfl rfl ?_
                refine tr_split (t := 84) rfl (fun g128 => ?_) (fun g128 => ?_)
                · replace H := H.1 g128
                  refine tr_p (y_move rfl) rfl rfl ?_
                  obtain ⟨y129, k130, H⟩ := H
                  refine tr_h (y_ld Try.isAgg48 rfl) k130 rfl rfl ?_
                  refine tr_e (e_call Try.call32 rfl (F.table_Table_Slint_Slots_ok H)) rfl rfl ?_
                  rintro _ h131 ⟨r132, rfl, H⟩
                  refine tr_p (y_geq rfl rfl) rfl rfl ?_
                  refine tr_p (y_pick_t rfl rfl) rfl rfl ?_
                  refine tr_p (y_pick_f rfl rfl) rfl rfl ?_
                  refine tr_p (y_move rfl) rfl rfl ?_
                  refine tr_split (t := 91) rfl (fun g133 => ?_) (fun g133 => ?_)
                  · replace H := H.1 g133
                    refine tr_s rfl rfl ?_
                    refine tr_s rfl rfl ?_
                    refine tr_s rfl rfl ?_
                    refine tr_s rfl rfl ?_
                    refine tr_s rfl rfl ?_
                    refine tr_s rfl rfl ?_
                    refine tr_s rfl rfl ?_
                    refine tr_s rfl rfl ?_
                    refine tr_p (y_pick_t rfl rfl) rfl rfl ?_
                    refine tr_nil ?_
                    refine tr_thenN ?_
                    exact tr_join [(4, (.pointer (some x4))), (5, (.pointer (some x5))), (6, (.pointer (some x6))), (7, (.pointer (some x7))), (8, (.pointer (some x8))), (9, (.string x9)), (13, (.int .i64 x13)), (14, (.bool x14)), (100, (.bool true))] ⟨rfl, rfl, rfl, rfl, rfl, rfl, rfl, rfl, rfl, trivial⟩ ⟨_, _, _, _, _, _, _, _, _, rfl, H⟩
                  · replace H := H.2 g133
                    refine tr_p (y_move rfl) rfl rfl ?_
                    refine tr_p (y_move rfl) rfl rfl ?_
                    refine tr_split (t := 93) rfl (fun g134 => ?_) (fun g134 => ?_)
                    · replace H := H.1 g134
                      refine tr_p (y_move rfl) rfl rfl ?_
                      obtain ⟨y135, k136, H⟩ := H
                      refine tr_h (y_ld Try.isAgg48 rfl) k136 rfl rfl ?_
                      refine tr_e (e_call Try.call32 rfl (F.table_Table_Slint_Slots_ok H)) rfl rfl ?_
                      rintro _ h137 ⟨r138, rfl, H⟩
                      obtain ⟨e139, H⟩ := H
                      refine tr_p (y_quo rfl rfl e139) rfl rfl ?_
                      refine tr_p (y_geq rfl rfl) rfl rfl ?_
                      refine tr_p (y_pick_t rfl rfl) rfl rfl ?_
                      refine tr_p (y_pick_f rfl rfl) rfl rfl ?_
                      refine tr_nil ?_
                      refine tr_thenN ?_
                      exact tr_join [(4, (.pointer (some x4))), (5, (.pointer (some x5))), (6, (.pointer (some x6))), (7, (.pointer (some x7))), (8, (.pointer (some x8))), (9, (.string x9)), (13, (.int .i64 x13)), (14, (.bool x14)), (100, (.bool (decide (x13 ≥ (IntKind.wrap .i64 (Int.tdiv r138 2))))))] ⟨rfl, rfl, rfl, rfl, rfl, rfl, rfl, rfl, rfl, trivial⟩ ⟨_, _, _, _, _, _, _, _, _, rfl, H⟩
                    · replace H := H.2 g134
                      refine tr_s rfl rfl ?_
                      refine tr_s rfl rfl ?_
                      refine tr_s rfl rfl ?_
                      refine tr_s rfl rfl ?_
                      refine tr_s rfl rfl ?_
                      refine tr_p (y_pick_f rfl rfl) rfl rfl ?_
                      refine tr_p (y_pick_f rfl rfl) rfl rfl ?_
                      refine tr_nil ?_
                      refine tr_thenN ?_
                      exact tr_join [(4, (.pointer (some x4))), (5, (.pointer (some x5))), (6, (.pointer (some x6))), (7, (.pointer (some x7))), (8, (.pointer (some x8))), (9, (.string x9)), (13, (.int .i64 x13)), (14, (.bool x14)), (100, (.bool false))] ⟨rfl, rfl, rfl, rfl, rfl, rfl, rfl, rfl, rfl, trivial⟩ ⟨_, _, _, _, _, _, _, _, _, rfl, H⟩
                · replace H := H.2 g128
                  refine tr_s rfl rfl ?_
                  refine tr_s rfl rfl ?_
                  refine tr_s rfl rfl ?_
                  refine tr_s rfl rfl ?_
                  refine tr_p (y_pick_f rfl rfl) rfl rfl ?_
                  refine tr_p (y_pick_f rfl rfl) rfl rfl ?_
                  refine tr_p (y_move rfl) rfl rfl ?_
                  refine tr_p (y_move rfl) rfl rfl ?_
                  refine tr_p (y_move rfl) rfl rfl ?_
                  refine tr_split (t := 93) rfl (fun g140 => ?_) (fun g140 => ?_)
                  · replace H := H.1 g140
                    refine tr_p (y_move rfl) rfl rfl ?_
                    obtain ⟨y141, k142, H⟩ := H
                    refine tr_h (y_ld Try.isAgg48 rfl) k142 rfl rfl ?_
                    refine tr_e (e_call Try.call32 rfl (F.table_Table_Slint_Slots_ok H)) rfl rfl ?_
                    rintro _ h143 ⟨r144, rfl, H⟩
                    obtain ⟨e145, H⟩ := H
                    refine tr_p (y_quo rfl rfl e145) rfl rfl ?_
                    refine tr_p (y_geq rfl rfl) rfl rfl ?_
                    refine tr_p (y_pick_t rfl rfl) rfl rfl ?_
                    refine tr_p (y_pick_f rfl rfl) rfl rfl ?_
                    refine tr_nil ?_
                    refine tr_thenN ?_
                    exact tr_join [(4, (.pointer (some x4))), (5, (.pointer (some x5))), (6, (.pointer (some x6))), (7, (.pointer (some x7))), (8, (.pointer (some x8))), (9, (.string x9)), (13, (.int .i64 x13)), (14, (.bool x14)), (100, (.bool (decide (x13 ≥ (IntKind.wrap .i64 (Int.tdiv r144 2))))))] ⟨rfl, rfl, rfl, rfl, rfl, rfl, rfl, rfl, rfl, trivial⟩ ⟨_, _, _, _, _, _, _, _, _, rfl, H⟩
                  · replace H := H.2 g140
                    refine tr_s rfl rfl ?_
                    refine tr_s rfl rfl ?_
                    refine tr_s rfl rfl ?_
                    refine tr_s rfl rfl ?_
                    refine tr_s rfl rfl ?_
                    refine tr_p (y_pick_f rfl rfl) rfl rfl ?_
                    refine tr_p (y_pick_f rfl rfl) rfl rfl ?_
                    refine tr_nil ?_
                    refine tr_thenN ?_
                    exact tr_join [(4, (.pointer (some x4))), (5, (.pointer (some x5))), (6, (.pointer (some x6))), (7, (.pointer (some x7))), (8, (.pointer (some x8))), (9, (.string x9)), (13, (.int .i64 x13)), (14, (.bool x14)), (100, (.bool false))] ⟨rfl, rfl, rfl, rfl, rfl, rfl, rfl, rfl, rfl, trivial⟩ ⟨_, _, _, _, _, _, _, _, _, rfl, H⟩
    · refine tr_seq_j (fun L' h => ∃ (x2 : Addr) (x4 : Addr) (x5 : Addr) (x6 : Addr) (x7 : Addr) (x8 : Addr) (x9 : ByteArray) (x13 : Int) (x14 : Bool) (x61 : Bool), L' = [(2, (.pointer (some x2))), (4, (.pointer (some x4))), (5, (.pointer (some x5))), (6, (.pointer (some x6))), (7, (.pointer (some x7))), (8, (.pointer (some x8))), (9, (.string x9)), (13, (.int .i64 x13)), (14, (.bool x14)), (61, (.bool x61))] ∧ F.spatelaw6_lies.j5 Q K1 J1 l1 x2 x4 x5 x6 x7 x8 x9 x13 x14 x61 h) ?_ ?_
      · rintro L' h ⟨x2, x4, x5, x6, x7, x8, x9, x13, x14, x61, rfl, H⟩
        unfold F.spatelaw6_lies.j5 at H
        refine tr_cond rfl (fun g146 => ?_) (fun g146 => ?_)
        · replace H := H.1 g146
          refine tr_seq ?_
          refine tr_region ?_
          refine tr_e (f_store (vs := [(.bool false)]) Try.sizeOf4 rfl rfl rfl rfl (one1 rfl) H) rfl rfl ?_
          rintro _ h147 ⟨rfl, H⟩
          refine tr_nil ?_
          refine tr_thenN ?_
          refine tr_ret ?_
          refine tr_thenR ?_
          refine tr_blockR ?_
          exact tr_rR 0 rfl H
        · replace H := H.2 g146
          refine tr_skip ?_
          refine tr_thenN ?_
          exact tr_join [(2, (.pointer (some x2))), (4, (.pointer (some x4))), (5, (.pointer (some x5))), (6, (.pointer (some x6))), (7, (.pointer (some x7))), (8, (.pointer (some x8))), (9, (.string x9)), (13, (.int .i64 x13)), (14, (.bool x14))] ⟨rfl, rfl, rfl, rfl, rfl, rfl, rfl, rfl, rfl, trivial⟩ ⟨_, _, _, _, _, _, _, _, _, rfl, H⟩
      · refine tr_region ?_
        refine tr_p (y_move rfl) rfl rfl ?_
        refine tr_p (y_not rfl) rfl rfl ?_
        refine tr_p (y_move rfl) rfl rfl ?_
        refine tr_split (t := 42) rfl (fun g148 => ?_) (fun g148 => ?_)
        · replace H := H.1 g148
          refine tr_s rfl rfl ?_
          refine tr_s rfl rfl ?_
          refine tr_p (y_pick_t rfl rfl) rfl rfl ?_
          refine tr_p (y_move rfl) rfl rfl ?_
          refine tr_s rfl rfl ?_
          refine tr_s rfl rfl ?_
          refine tr_s rfl rfl ?_
          refine tr_s rfl rfl ?_
          refine tr_s rfl rfl ?_
          refine tr_p (y_pick_t rfl rfl) rfl rfl ?_
          refine tr_p (y_move rfl) rfl rfl ?_
          refine tr_s rfl rfl ?_
          refine tr_s rfl rfl ?_
          refine tr_s rfl rfl ?_
          refine tr_s rfl rfl ?_
          refine tr_s rfl rfl ?_
          refine tr_s rfl rfl ?_
          refine tr_s rfl rfl ?_
          refine tr_p (y_pick_t rfl rfl) rfl rfl ?_
          refine tr_nil ?_
          refine tr_thenN ?_
          exact tr_join [(2, (.pointer (some a2))), (4, (.pointer (some a6))), (5, (.pointer (some a8))), (6, (.pointer (some a11))), (7, (.pointer (some a16))), (8, (.pointer (some a21))), (9, (.string y1_25)), (13, (.int .i64 r36)), (14, (.bool r37)), (61, (.bool true))] ⟨rfl, rfl, rfl, rfl, rfl, rfl, rfl, rfl, rfl, rfl, trivial⟩ ⟨_, _, _, _, _, _, _, _, _, _, rfl, H⟩
        · replace H := H.2 g148
          refine tr_p (y_move rfl) rfl rfl ?_
          refine tr_p (y_not rfl) rfl rfl ?_
          refine tr_p (y_pick_f rfl rfl) rfl rfl ?_
          refine tr_p (y_move rfl) rfl rfl ?_
          refine tr_split (t := 46) rfl (fun g149 => ?_) (fun g149 => ?_)
          · replace H := H.1 g149
            refine tr_s rfl rfl ?_
            refine tr_s rfl rfl ?_
            refine tr_s rfl rfl ?_
            refine tr_s rfl rfl ?_
            refine tr_s rfl rfl ?_
            refine tr_p (y_pick_t rfl rfl) rfl rfl ?_
            refine tr_p (y_move rfl) rfl rfl ?_
            refine tr_s rfl rfl ?_
            refine tr_s rfl rfl ?_
            refine tr_s rfl rfl ?_
            refine tr_s rfl rfl ?_
            refine tr_s rfl rfl ?_
            refine tr_s rfl rfl ?_
            refine tr_s rfl rfl ?_
            refine tr_p (y_pick_t rfl rfl) rfl rfl ?_
            refine tr_nil ?_
            refine tr_thenN ?_
            exact tr_join [(2, (.pointer (some a2))), (4, (.pointer (some a6))), (5, (.pointer (some a8))), (6, (.pointer (some a11))), (7, (.pointer (some a16))), (8, (.pointer (some a21))), (9, (.string y1_25)), (13, (.int .i64 r36)), (14, (.bool r37)), (61, (.bool true))] ⟨rfl, rfl, rfl, rfl, rfl, rfl, rfl, rfl, rfl, rfl, trivial⟩ ⟨_, _, _, _, _, _, _, _, _, _, rfl, H⟩
          · replace H := H.2 g149
            refine tr_p (y_move rfl) rfl rfl ?_
            obtain ⟨a150, e151, H⟩ := H
            refine tr_p (f_idx (s := y1_26) Try.runUnderlying38 Try.sizeOf3 rfl rfl e151) rfl rfl ?_
            obtain ⟨y152, k153, H⟩ := H
            refine tr_h (y_ld Try.isAgg3 rfl) k153 rfl rfl ?_
            refine tr_p (y_move rfl) rfl rfl ?_
            refine tr_p (y_neq rfl rfl) rfl rfl ?_
            refine tr_p (y_pick_f rfl rfl) rfl rfl ?_
            refine tr_p (y_move rfl) rfl rfl ?_
            refine tr_split (t := 53) rfl (fun g154 => ?_) (fun g154 => ?_)
            · replace H := H.1 g154
              refine tr_s rfl rfl ?_
              refine tr_s rfl rfl ?_
              refine tr_s rfl rfl ?_
              refine tr_s rfl rfl ?_
              refine tr_s rfl rfl ?_
              refine tr_s rfl rfl ?_
              refine tr_s rfl rfl ?_
              refine tr_p (y_pick_t rfl rfl) rfl rfl ?_
              refine tr_nil ?_
              refine tr_thenN ?_
              exact tr_join [(2, (.pointer (some a2))), (4, (.pointer (some a6))), (5, (.pointer (some a8))), (6, (.pointer (some a11))), (7, (.pointer (some a16))), (8, (.pointer (some a21))), (9, (.string y1_25)), (13, (.int .i64 r36)), (14, (.bool r37)), (61, (.bool true))] ⟨rfl, rfl, rfl, rfl, rfl, rfl, rfl, rfl, rfl, rfl, trivial⟩ ⟨_, _, _, _, _, _, _, _, _, _, rfl, H⟩
            · replace H := H.2 g154
              obtain ⟨y155, k156, H⟩ := H
              refine tr_h (y_ld Try.isAgg3 rfl) k156 rfl rfl ?_
              refine tr_p (y_gtr rfl rfl) rfl rfl ?_
              refine tr_p (y_move rfl) rfl rfl ?_
              refine tr_split (t := 56) rfl (fun g157 => ?_) (fun g157 => ?_)
              · replace H := H.1 g157
                refine tr_p (y_move rfl) rfl rfl ?_
                obtain ⟨y158, k159, H⟩ := H
                refine tr_h (y_ld Try.isAgg9 rfl) k159 rfl rfl ?_
                refine tr_p (y_sleq rfl rfl) rfl rfl ?_
                refine tr_p (y_pick_t rfl rfl) rfl rfl ?_
                refine tr_p (y_pick_f rfl rfl) rfl rfl ?_
                refine tr_nil ?_
                refine tr_thenN ?_
                exact tr_join [(2, (.pointer (some a2))), (4, (.pointer (some a6))), (5, (.pointer (some a8))), (6, (.pointer (some a11))), (7, (.pointer (some a16))), (8, (.pointer (some a21))), (9, (.string y1_25)), (13, (.int .i64 r36)), (14, (.bool r37)), (61, (.bool (Op.bytesLess y1_25.toList y158.toList || (y1_25.toList == y158.toList))))] ⟨rfl, rfl, rfl, rfl, rfl, rfl, rfl, rfl, rfl, rfl, trivial⟩ ⟨_, _, _, _, _, _, _, _, _, _, rfl, H⟩
              · replace H := H.2 g157
                refine tr_s rfl rfl ?_
                refine tr_s rfl rfl ?_
                refine tr_s rfl rfl ?_
                refine tr_p (y_pick_f rfl rfl) rfl rfl ?_
                refine tr_p (y_pick_f rfl rfl) rfl rfl ?_
                refine tr_nil ?_
                refine tr_thenN ?_
                exact tr_join [(2, (.pointer (some a2))), (4, (.pointer (some a6))), (5, (.pointer (some a8))), (6, (.pointer (some a11))), (7, (.pointer (some a16))), (8, (.pointer (some a21))), (9, (.string y1_25)), (13, (.int .i64 r36)), (14, (.bool r37)), (61, (.bool false))] ⟨rfl, rfl, rfl, rfl, rfl, rfl, rfl, rfl, rfl, rfl, trivial⟩ ⟨_, _, _, _, _, _, _, _, _, _, rfl, H⟩
  · intro h160 H
    refine tr_blockN ?_
    refine tr_thenN ?_
    refine tr_seq ?_
    refine tr_seq ?_
    refine tr_region ?_
    obtain ⟨y161, k162, H⟩ := H
    refine tr_h (y_ld Try.isAgg48 rfl) k162 rfl rfl ?_
    refine tr_e (e_call Try.call56 rfl (F.table_Table_Slint_All_ok H)) rfl rfl ?_
    rintro r164 h163 ⟨_, rfl, H⟩
    refine tr_nil ?_
    refine tr_thenN ?_
    refine tr_block ?_
    refine tr_range rfl (by kernel_rfl) H ?_ ?_ ?_
    · intro bg2 l2 args h K2 J2 w2 hbg2 H
      obtain ⟨y2_111, y2_112, rfl, H⟩ := H
      refine ⟨rfl, ?_⟩
      refine tr_sub [(0, (.pointer p0)), (1, p1), (2, (.pointer (some a2))), (3, (.pointer (some a4))), (4, (.pointer (some a6))), (5, (.pointer (some a8))), (6, (.pointer (some a11))), (21, m14), (7, (.pointer (some a16))), (22, m19), (8, (.pointer (some a21))), (23, (.pointer y23)), (24, r26), (109, (.pointer y161)), (110, r164), (111, (.string y2_111)), (112, y2_112.enc)] ⟨rfl, rfl, rfl, rfl, rfl, rfl, rfl, rfl, rfl, rfl, rfl, rfl, rfl, rfl, rfl, rfl, rfl, trivial⟩ ?_
      refine tr_region ?_
      refine tr_p (y_assign rfl) rfl rfl ?_
      refine tr_nil ?_
      refine tr_thenN ?_
      refine tr_bgn hbg2 H fun h165 H => ?_
      refine tr_block ?_
      refine tr_seq ?_
      refine tr_region ?_
      obtain ⟨y166, k167, H⟩ := H
      refine tr_h (y_ld Try.isAgg48 rfl) k167 rfl rfl ?_
      refine tr_p (y_move rfl) rfl rfl ?_
      refine tr_e (e_call Try.call57 rfl (F.table_Table_Slint_Place_ok H)) rfl rfl ?_
      rintro _ h168 ⟨r169, r170, r171, rfl, H⟩
      refine tr_p (y_move rfl) rfl rfl ?_
      refine tr_p (y_ext rfl rfl) rfl rfl ?_
      refine tr_p (y_ext rfl rfl) rfl rfl ?_
      refine tr_p (y_ext rfl rfl) rfl rfl ?_
      refine tr_p (y_assign rfl) rfl rfl ?_
      refine tr_p (y_assign rfl) rfl rfl ?_
      refine tr_p (y_assign rfl) rfl rfl ?_
      refine tr_nil ?_
      refine tr_thenN ?_
      refine tr_seq ?_
      refine tr_seq ?_
      refine tr_region ?_
      refine tr_p (y_move rfl) rfl rfl ?_
      refine tr_nil ?_
      refine tr_thenN ?_
      refine tr_cond rfl (fun g172 => ?_) (fun g172 => ?_)
      · replace H := H.1 g172
        refine tr_seq ?_
        refine tr_seq_j (fun L' h => ∃ (x4 : Addr) (x133 : Bool), L' = [(4, (.pointer (some x4))), (133, (.bool x133))] ∧ F.spatelaw6_lies.j6 Q K2 J2 l2 x4 x133 h) ?_ ?_
        · rintro L' h ⟨x4, x133, rfl, H⟩
          unfold F.spatelaw6_lies.j6 at H
          refine tr_cond rfl (fun g173 => ?_) (fun g173 => ?_)
          · replace H := H.1 g173
            refine tr_seq ?_
            refine tr_region ?_
            refine tr_e (f_store (vs := [(.bool false)]) Try.sizeOf4 rfl rfl rfl rfl (one1 rfl) H) rfl rfl ?_
            rintro _ h174 ⟨rfl, H⟩
            refine tr_nil ?_
            refine tr_thenN ?_
            refine tr_ret ?_
            refine tr_thenR ?_
            refine tr_thenR ?_
            refine tr_blockR ?_
            exact tr_rR 0 rfl H
          · replace H := H.2 g173
            refine tr_skip ?_
            refine tr_thenN ?_
            refine tr_exit ?_
            refine tr_thenE ?_
            refine tr_hit ?_
            exact tr_rN H
        · refine tr_draw mixed [0, 1, 3, 7, 15, 15, 47, 111, 15, 367, 1007, 2047, 4095] (by kernel_rfl) ?_
          obtain ⟨y175, k176, H⟩ := H
          refine g_h 0 1 rfl (by kernel_rfl) (y_ld Try.isAgg48 rfl) k176 rfl rfl ?_
          refine g_e 1 3 [] (by kernel_rfl) rfl (by kernel_rfl) (e_call Try.call33 rfl (F.table_Table_Slint_Left_ok H)) rfl rfl ?_
          rintro _ h177 ⟨r178, rfl, H⟩
          refine ⟨trivial, ?_⟩
          refine g_p 2 7 rfl (by kernel_rfl) (y_eql rfl rfl) rfl rfl ?_
          refine g_p 3 15 rfl (by kernel_rfl) (y_move rfl) rfl rfl ?_
          refine g_split (t := 124) rfl (fun g179 => ?_) (fun g179 => ?_)
          · replace H := H.1 g179
            refine g_s 4 31 rfl (by kernel_rfl) rfl rfl ?_
            refine g_s 5 63 rfl (by kernel_rfl) rfl rfl ?_
            refine g_s 6 127 rfl (by kernel_rfl) rfl rfl ?_
            refine g_s 7 255 rfl (by kernel_rfl) rfl rfl ?_
            refine g_s 8 511 rfl (by kernel_rfl) rfl rfl ?_
            refine g_s 9 1023 rfl (by kernel_rfl) rfl rfl ?_
            refine g_s 10 2047 rfl (by kernel_rfl) rfl rfl ?_
            refine g_s 11 4095 rfl (by kernel_rfl) rfl rfl ?_
            refine g_p 12 8191 rfl (by kernel_rfl) (y_pick_t rfl rfl) rfl rfl ?_
            refine g_d (by kernel_rfl) ?_
            refine tr_thenN ?_
            exact tr_join [(4, (.pointer (some a6))), (133, (.bool true))] ⟨rfl, rfl, trivial⟩ ⟨_, _, rfl, H⟩
          · replace H := H.2 g179
            refine g_p 4 31 rfl (by kernel_rfl) (y_move rfl) rfl rfl ?_
            obtain ⟨y180, k181, H⟩ := H
            refine g_h 5 63 rfl (by kernel_rfl) (y_ld Try.isAgg48 rfl) k181 rfl rfl ?_
            obtain ⟨y182, k183, H⟩ := H
            refine g_h 8 319 rfl (by kernel_rfl) (y_ld Try.isAgg48 rfl) k183 rfl rfl ?_
            refine g_e 6 383 [(8, fun h => cellH h a2 = some (.pointer y182))] (by kernel_rfl) rfl (by kernel_rfl) (e_call Try.call32 rfl (F.table_Table_Slint_Slots_ok H)) rfl rfl ?_
            rintro _ h184 ⟨r185, rfl, H⟩
            obtain ⟨k186, H⟩ := H
            refine ⟨And.intro k186 trivial, ?_⟩
            obtain ⟨e187, H⟩ := H
            refine g_p 7 511 rfl (by kernel_rfl) (y_quo rfl rfl e187) rfl rfl ?_
            refine g_e 9 1023 [] (by kernel_rfl) rfl (by kernel_rfl) (e_call Try.call33 rfl (F.table_Table_Slint_Left_ok H)) rfl rfl ?_
            rintro _ h188 ⟨r189, rfl, H⟩
            refine ⟨trivial, ?_⟩
            refine g_p 10 2047 rfl (by kernel_rfl) (y_sub rfl rfl) rfl rfl ?_
            refine g_p 11 4095 rfl (by kernel_rfl) (y_lss rfl rfl) rfl rfl ?_
            refine g_p 12 8191 rfl (by kernel_rfl) (y_pick_f rfl rfl) rfl rfl ?_
            refine g_d (by kernel_rfl) ?_
            refine tr_thenN ?_
            exact tr_join [(4, (.pointer (some a6))), (133, (.bool (decide (r169 < (IntKind.wrap .i64 ((IntKind.wrap .i64 (Int.tdiv r185 2)) - r189))))))] ⟨rfl, rfl, trivial⟩ ⟨_, _, rfl, H⟩
      · replace H := H.2 g172
        refine tr_skip ?_
        refine tr_thenN ?_
        refine tr_seq ?_
        refine tr_draw mixed [0, 1, 0, 7, 15, 31, 63, 127] (by kernel_rfl) ?_
        refine g_p 0 1 rfl (by kernel_rfl) (y_move rfl) rfl rfl ?_
        obtain ⟨y190, k191, H⟩ := H
        refine g_h 2 5 rfl (by kernel_rfl) (y_ld Try.isAgg48 rfl) k191 rfl rfl ?_
        refine g_e 1 7 [(2, fun h => cellH h a2 = some (.pointer y190))] (by kernel_rfl) rfl (by kernel_rfl) (e_call Try.call16 rfl (F.table_Hash_ok H)) rfl rfl ?_
        rintro _ h192 ⟨r193, rfl, H⟩
        obtain ⟨k194, H⟩ := H
        refine ⟨And.intro k194 trivial, ?_⟩
        refine g_e 3 15 [] (by kernel_rfl) rfl (by kernel_rfl) (e_call Try.call32 rfl (F.table_Table_Slint_Slots_ok H)) rfl rfl ?_
        rintro _ h195 ⟨r196, rfl, H⟩
        refine ⟨trivial, ?_⟩
        refine g_p 4 31 rfl (by kernel_rfl) (y_cvt Try.runUnderlying3 Try.runUnderlying26 rfl) rfl rfl ?_
        obtain ⟨e197, H⟩ := H
        refine g_p 5 63 rfl (by kernel_rfl) (y_rem rfl rfl e197) rfl rfl ?_
        refine g_p 6 127 rfl (by kernel_rfl) (y_cvt Try.runUnderlying26 Try.runUnderlying3 rfl) rfl rfl ?_
        refine g_p 7 255 rfl (by kernel_rfl) (y_assign rfl) rfl rfl ?_
        refine g_d (by kernel_rfl) ?_
        refine tr_thenN ?_
        refine tr_block ?_
        obtain ⟨m210, H⟩ := H
        refine tr_sub [(2, (.pointer (some a2))), (4, (.pointer (some a6))), (7, (.pointer (some a16))), (17, (.int .i64 r169)), (20, (.int .i64 (IntKind.wrap .i64 (Int.tmod r193 (IntKind.wrap .u64 r196)))))] ⟨rfl, rfl, rfl, rfl, rfl, trivial⟩ ?_
        refine tr_loop_j (fun m L' h => ∃ (x2 : Addr) (x4 : Addr) (x7 : Addr) (x17 : Int) (x20 : Int), L' = [(2, (.pointer (some x2))), (4, (.pointer (some x4))), (7, (.pointer (some x7))), (17, (.int .i64 x17)), (20, (.int .i64 x20))] ∧ F.spatelaw6_lies.l7 Q K2 J2 l2 m x2 x4 x7 x17 x20 h) ?_ ?_ m210 ⟨_, _, _, _, _, rfl, H⟩
        · rintro L' h ⟨_, _, _, _, _, _, H⟩; exact H
        · rintro q7 L' h ⟨x2, x4, x7, x17, x20, rfl, H⟩
          unfold F.spatelaw6_lies.l7 at H
          refine tr_seq ?_
          refine tr_seq ?_
          refine tr_region ?_
          refine tr_p (y_move rfl) rfl rfl ?_
          refine tr_p (y_move rfl) rfl rfl ?_
          refine tr_p (y_neq rfl rfl) rfl rfl ?_
          refine tr_nil ?_
          refine tr_thenN ?_
          refine tr_cond rfl (fun g198 => ?_) (fun g198 => ?_)
          · replace H := H.1 g198
            refine tr_skip ?_
            refine tr_thenN ?_
            refine tr_seq ?_
            refine tr_block ?_
            refine tr_seq ?_
            refine tr_region ?_
            obtain ⟨y199, k200, H⟩ := H
            refine tr_h (y_ld Try.isAgg96 rfl) k200 rfl rfl ?_
            refine tr_p (y_move rfl) rfl rfl ?_
            refine tr_e (f_lk rfl rfl H) rfl rfl ?_
            rintro _ h201 ⟨r202, rfl, H⟩
            refine tr_p (y_not rfl) rfl rfl ?_
            refine tr_nil ?_
            refine tr_thenN ?_
            refine tr_cond rfl (fun g203 => ?_) (fun g203 => ?_)
            · replace H := H.1 g203
              refine tr_seq ?_
              refine tr_region ?_
              refine tr_e (f_store (vs := [(.bool false)]) Try.sizeOf4 rfl rfl rfl rfl (one1 rfl) H) rfl rfl ?_
              rintro _ h204 ⟨rfl, H⟩
              refine tr_nil ?_
              refine tr_thenN ?_
              refine tr_ret ?_
              refine tr_blockR ?_
              refine tr_thenR ?_
              refine tr_thenR ?_
              refine tr_blockR ?_
              refine tr_blockR ?_
              exact tr_rR 0 rfl H
            · replace H := H.2 g203
              refine tr_skip ?_
              refine tr_blockN ?_
              refine tr_thenN ?_
              refine tr_region ?_
              refine tr_p (y_move rfl) rfl rfl ?_
              refine tr_p (y_add rfl rfl) rfl rfl ?_
              obtain ⟨y205, k206, H⟩ := H
              refine tr_h (y_ld Try.isAgg48 rfl) k206 rfl rfl ?_
              refine tr_e (e_call Try.call32 rfl (F.table_Table_Slint_Slots_ok H)) rfl rfl ?_
              rintro _ h207 ⟨r208, rfl, H⟩
              obtain ⟨e209, H⟩ := H
              refine tr_p (y_rem rfl rfl e209) rfl rfl ?_
              refine tr_p (y_assign rfl) rfl rfl ?_
              refine tr_nil ?_
              refine tr_thenN ?_
              exact tr_join [(2, (.pointer (some x2))), (4, (.pointer (some x4))), (7, (.pointer (some x7))), (17, (.int .i64 x17)), (20, (.int .i64 (Int.tmod (IntKind.wrap .i64 (x20 + 1)) r208)))] ⟨rfl, rfl, rfl, rfl, rfl, trivial⟩ ⟨_, _, _, _, _, rfl, H⟩
          · replace H := H.2 g198
            refine tr_exit ?_
            refine tr_thenE ?_
            refine tr_thenE ?_
            refine tr_hit ?_
            refine tr_blockN ?_
            exact tr_rN H
    · intro h211 H
      refine tr_blockN ?_
      refine tr_thenN ?_
      refine tr_seq ?_
      refine tr_region ?_
      obtain ⟨y212, k213, H⟩ := H
      refine tr_h (y_ld Try.isAgg3 rfl) k213 rfl rfl ?_
      obtain ⟨y214, k215, H⟩ := H
      refine tr_h (y_ld Try.isAgg50 rfl) k215 rfl rfl ?_
      refine tr_e (f_lenM rfl H) rfl rfl ?_
      rintro _ h216 ⟨s217, rfl, H⟩
      refine tr_p (y_eql rfl rfl) rfl rfl ?_
      refine tr_e (f_store (vs := [(.bool ((y212 == s217)))]) Try.sizeOf4 rfl rfl rfl rfl (one1 rfl) H) rfl rfl ?_
      rintro _ h218 ⟨rfl, H⟩
      refine tr_nil ?_
      refine tr_thenN ?_
      refine tr_ret ?_
      refine tr_shut (h163.size :: (h25.size :: ([] : List Nat))) rfl H fun h219 H => ?_
      obtain ⟨y220, k221, H⟩ := H
      exact tr_rv1 rfl (rv_cell Try.isAgg4 rfl k221) ⟨_, rfl, H⟩
    · intro jj c h222 hjc H
      rcases jj with _ | jj
      · obtain rfl : Code.ret = c := by simpa using hjc
        replace H := H rfl
        refine tr_ret ?_
        refine tr_blockR ?_
        refine tr_thenR ?_
        refine tr_shut (h163.size :: (h25.size :: ([] : List Nat))) rfl H fun h223 H => ?_
        obtain ⟨y224, k225, H⟩ := H
        exact tr_rv1 rfl (rv_cell Try.isAgg4 rfl k225) ⟨_, rfl, H⟩
      · simp at hjc
  · intro jj c h226 hjc H
    rcases jj with _ | jj
    · obtain rfl : Code.ret = c := by simpa using hjc
      replace H := H rfl
      refine tr_ret ?_
      refine tr_blockR ?_
      refine tr_thenR ?_
      refine tr_shut (h25.size :: ([] : List Nat)) rfl H fun h227 H => ?_
      obtain ⟨y228, k229, H⟩ := H
      exact tr_rv1 rfl (rv_cell Try.isAgg4 rfl k229) ⟨_, rfl, H⟩
    · simp at hjc

def F.spatelaw6_TableKeeps.j3 (Q : Bool → H → Prop) (C1 : Sl → (Option Addr) → Value → Int → H → Prop) (x0 : Sl) (x3 : Option Addr) (x4 : Value) (x5 : Int) (h : H) : Prop :=
  C1 x0 x3 x4 (IntKind.wrap .i64 (x5 + 1)) h
def F.spatelaw6_TableKeeps.j5 (Q : Bool → H → Prop) (C1 : Sl → (Option Addr) → Value → Int → H → Prop) (x0 : Sl) (x3 : Option Addr) (x4 : Value) (x5 : Int) (x191 : Bool) (h : H) : Prop :=
  (x191 = true →
  Q false h) ∧
  (x191 = false →
  F.spatelaw6_TableKeeps.j3 Q C1 x0 x3 x4 x5 h)
def F.spatelaw6_TableKeeps.j4 (Q : Bool → H → Prop) (C1 : Sl → (Option Addr) → Value → Int → H → Prop) (x0 : Sl) (x3 : Option Addr) (x4 : Value) (x5 : Int) (h : H) : Prop :=
  F.table_Table_Slint_Len x3 h fun r27 h26 =>
  RunS PP (Builtin.len_ #[50] 3 #[x4]) h26 fun u h28 => ∃ s29 : Int, u = (.int .i64 s29) ∧
  (((r27 != s29)) = true →
  F.spatelaw6_TableKeeps.j5 Q C1 x0 x3 x4 x5 true h28) ∧
  (((r27 != s29)) = false →
  F.table_Table_Slint_Len x3 h28 fun r32 h31 =>
  F.table_Table_Slint_Slots x3 h31 fun r34 h33 =>
  F.spatelaw6_TableKeeps.j5 Q C1 x0 x3 x4 x5 (decide ((IntKind.wrap .i64 (4 * r32)) > (IntKind.wrap .i64 (3 * r34)))) h33)
def F.spatelaw6_TableKeeps.j6 (Q : Bool → H → Prop) (C1 : Sl → (Option Addr) → Value → Int → H → Prop) (x0 : Sl) (x3 : Option Addr) (x4 : Value) (x5 : Int) (x87 : Bool) (h : H) : Prop :=
  (x87 = true →
  Q false h) ∧
  (x87 = false →
  F.spatelaw6_TableKeeps.j4 Q C1 x0 x3 x4 x5 h)
def F.spatelaw6_TableKeeps.j7 (Q : Bool → H → Prop) (C1 : Sl → (Option Addr) → Value → Int → H → Prop) (x0 : Sl) (x3 : Option Addr) (x4 : Value) (x5 : Int) (x6 : Addr) (h : H) : Prop :=
  ldS h (x6.add 2) fun y67 =>
  RunS PP (Builtin.delete_ #[50, 9] 0 #[x4, (.string y67)]) h fun u h69 => u = (.tuple #[]) ∧
  F.spatelaw6_TableKeeps.j4 Q C1 x0 x3 x4 x5 h69
def F.spatelaw6_TableKeeps.j8 (Q : Bool → H → Prop) (C1 : Sl → (Option Addr) → Value → Int → H → Prop) (x0 : Sl) (x3 : Option Addr) (x4 : Value) (x5 : Int) (x6 : Addr) (x121 : Bool) (h : H) : Prop :=
  (x121 = true →
  Q false h) ∧
  (x121 = false →
  F.spatelaw6_TableKeeps.j7 Q C1 x0 x3 x4 x5 x6 h)
def F.spatelaw6_TableKeeps.j9 (Q : Bool → H → Prop) (C1 : Sl → (Option Addr) → Value → Int → H → Prop) (x0 : Sl) (x3 : Option Addr) (x4 : Value) (x5 : Int) (x143 : Bool) (h : H) : Prop :=
  (x143 = true →
  Q false h) ∧
  (x143 = false →
  F.spatelaw6_TableKeeps.j4 Q C1 x0 x3 x4 x5 h)
def F.spatelaw6_TableKeeps.j10 (Q : Bool → H → Prop) (C1 : Sl → (Option Addr) → Value → Int → H → Prop) (x0 : Sl) (x3 : Option Addr) (x4 : Value) (x5 : Int) (x177 : Bool) (h : H) : Prop :=
  (x177 = true →
  Q false h) ∧
  (x177 = false →
  F.spatelaw6_TableKeeps.j4 Q C1 x0 x3 x4 x5 h)
def F.spatelaw6_TableKeeps.j2 (Q : Bool → H → Prop) (C1 : Sl → (Option Addr) → Value → Int → H → Prop) (x0 : Sl) (x3 : Option Addr) (x4 : Value) (x5 : Int) (h : H) : Prop :=
  idxA x0 x5 3 fun a9 =>
  ld_S_spatelaw6_Step h a9 fun y11 =>
  new h (((⟨0, 0, (⟨#[]⟩ : ByteArray)⟩ : S_spatelaw6_Step) : S_spatelaw6_Step).cells.toArray) ty_46 fun a14 h13 =>
  stH h13 a14 y11.cells fun h15 =>
  ldS h15 (a14.add 2) fun y16 =>
  RunS PP (Instr.lookup 50 x4 (.string y16) true) h15 fun u h18 => ∃ (r19 : Int) (r20 : Bool), u = (.tuple #[(.int .i64 r19), (.bool r20)]) ∧
  F.table_Table_Slint_Slots x3 h18 fun r22 h21 =>
  F.table_Table_Slint_Left x3 h21 fun r24 h23 =>
  ldI .i64 h23 (a14.add 0) fun y35 =>
  (((y35 == 1)) = true →
  ldS h23 (a14.add 2) fun y38 =>
  ldI .i64 h23 (a14.add 1) fun y40 =>
  newL h23 #[(.int .i64 y40), (.int .i64 x5)] ty_3 2 fun s43 h42 =>
  F.table_Table_Slint_Put x3 y38 s43 h42 fun h44 =>
  ldS h44 (a14.add 2) fun y45 =>
  ldI .i64 h44 (a14.add 1) fun y47 =>
  RunS PP (Instr.mapUpdate 50 x4 (.string y45) (.int .i64 y47)) h44 fun _ h49 =>
  F.table_Table_Slint_Slots x3 h49 fun r52 h51 =>
  (((r52 != r22)) = true →
  (r20 = true →
  F.spatelaw6_TableKeeps.j6 Q C1 x0 x3 x4 x5 true h51) ∧
  (r20 = false →
  ((decide (r24 > 4)) = true →
  F.spatelaw6_TableKeeps.j6 Q C1 x0 x3 x4 x5 true h51) ∧
  ((decide (r24 > 4)) = false →
  F.table_Table_Slint_Left x3 h51 fun r57 h56 =>
  (((r57 != r22)) = true →
  F.spatelaw6_TableKeeps.j6 Q C1 x0 x3 x4 x5 true h56) ∧
  (((r57 != r22)) = false →
  F.table_Table_Slint_Slots x3 h56 fun r60 h59 =>
  F.spatelaw6_TableKeeps.j6 Q C1 x0 x3 x4 x5 ((r60 != (IntKind.wrap .i64 (2 * r22)))) h59)))) ∧
  (((r52 != r22)) = false →
  F.spatelaw6_TableKeeps.j6 Q C1 x0 x3 x4 x5 false h51)) ∧
  (((y35 == 1)) = false →
  (((y35 == 3)) = true →
  ldS h23 (a14.add 2) fun y62 =>
  F.table_Table_Slint_Drop x3 y62 h23 fun r65 r66 h64 =>
  ((!(r66 == r20)) = true →
  F.spatelaw6_TableKeeps.j8 Q C1 x0 x3 x4 x5 a14 true h64) ∧
  ((!(r66 == r20)) = false →
  (r66 = true →
  idxA r65 0 1 fun a74 =>
  ldI .i64 h64 a74 fun y76 =>
  ldS h64 (a14.add 2) fun y78 =>
  RunS PP (Instr.lookup 50 x4 (.string y78) false) h64 fun u h80 => ∃ r81 : Int, u = (.int .i64 r81) ∧
  cellH h80 a74 = some (.int .i64 y76) ∧
  (((y76 != r81)) = true →
  F.spatelaw6_TableKeeps.j8 Q C1 x0 x3 x4 x5 a14 true h80) ∧
  (((y76 != r81)) = false →
  ((!r66) = true →
  F.spatelaw6_TableKeeps.j8 Q C1 x0 x3 x4 x5 a14 (((r65.len : Int) != 0)) h80) ∧
  ((!r66) = false →
  F.spatelaw6_TableKeeps.j8 Q C1 x0 x3 x4 x5 a14 false h80))) ∧
  (r66 = false →
  ((!r66) = true →
  F.spatelaw6_TableKeeps.j8 Q C1 x0 x3 x4 x5 a14 (((r65.len : Int) != 0)) h64) ∧
  ((!r66) = false →
  F.spatelaw6_TableKeeps.j8 Q C1 x0 x3 x4 x5 a14 false h64)))) ∧
  (((y35 == 3)) = false →
  (((y35 == 4)) = true →
  ldI .i64 h23 (a14.add 1) fun y87 =>
  F.table_Table_Slint_Move x3 y87 h23 fun r90 h89 =>
  F.table_Table_Slint_Left x3 h89 fun r93 h92 =>
  (((r90 != r93)) = true →
  F.spatelaw6_TableKeeps.j9 Q C1 x0 x3 x4 x5 true h92) ∧
  (((r90 != r93)) = false →
  ((decide (r90 > r24)) = true →
  F.spatelaw6_TableKeeps.j9 Q C1 x0 x3 x4 x5 true h92) ∧
  ((decide (r90 > r24)) = false →
  F.spatelaw6_TableKeeps.j9 Q C1 x0 x3 x4 x5 (decide (r90 < 0)) h92))) ∧
  (((y35 == 4)) = false →
  (((y35 == 2)) = true →
  ldS h23 (a14.add 2) fun y97 =>
  F.table_Table_Slint_Get x3 y97 h23 fun r100 r101 h99 =>
  ((!(r101 == r20)) = true →
  F.spatelaw6_TableKeeps.j10 Q C1 x0 x3 x4 x5 true h99) ∧
  ((!(r101 == r20)) = false →
  (r101 = true →
  idxA r100 0 1 fun a105 =>
  ldI .i64 h99 a105 fun y107 =>
  ldS h99 (a14.add 2) fun y109 =>
  RunS PP (Instr.lookup 50 x4 (.string y109) false) h99 fun u h111 => ∃ r112 : Int, u = (.int .i64 r112) ∧
  cellH h111 a105 = some (.int .i64 y107) ∧
  (((y107 != r112)) = true →
  F.spatelaw6_TableKeeps.j10 Q C1 x0 x3 x4 x5 true h111) ∧
  (((y107 != r112)) = false →
  ((!r101) = true →
  F.spatelaw6_TableKeeps.j10 Q C1 x0 x3 x4 x5 (((r100.len : Int) != 0)) h111) ∧
  ((!r101) = false →
  F.spatelaw6_TableKeeps.j10 Q C1 x0 x3 x4 x5 false h111))) ∧
  (r101 = false →
  ((!r101) = true →
  F.spatelaw6_TableKeeps.j10 Q C1 x0 x3 x4 x5 (((r100.len : Int) != 0)) h99) ∧
  ((!r101) = false →
  F.spatelaw6_TableKeeps.j10 Q C1 x0 x3 x4 x5 false h99)))) ∧
  (((y35 == 2)) = false →
  F.spatelaw6_TableKeeps.j4 Q C1 x0 x3 x4 x5 h23))))
def F.spatelaw6_TableKeeps.j11 (Q : Bool → H → Prop) (C1 : Sl → (Option Addr) → Value → Int → H → Prop) (x0 : Sl) (x3 : Option Addr) (x4 : Value) (x5 : Int) (x29 : Bool) (h : H) : Prop :=
  (x29 = true →
  F.spatelaw6_TableKeeps.j2 Q C1 x0 x3 x4 x5 h) ∧
  (x29 = false →
  F.spatelaw6_lies x3 x4 h fun r119 h118 =>
  Q r119 h118)
def F.spatelaw6_TableKeeps.l1 (Q : Bool → H → Prop) : Nat → Sl → (Option Addr) → Value → Int → H → Prop
  | 0, _, _, _, _, _ => False
  | q1 + 1, x0, x3, x4, x5, h =>
    ((decide (x5 < (x0.len : Int))) = true →
    F.spatelaw6_TableKeeps.j11 Q (F.spatelaw6_TableKeeps.l1 Q q1) x0 x3 x4 x5 (decide (x5 < 4000)) h) ∧
    ((decide (x5 < (x0.len : Int))) = false →
    F.spatelaw6_TableKeeps.j11 Q (F.spatelaw6_TableKeeps.l1 Q q1) x0 x3 x4 x5 false h)
/-- spate/spatelaw6.TableKeeps -/
def F.spatelaw6_TableKeeps (p0 : Sl) (h : H) (Q : Bool → H → Prop) : Prop :=
  F.spatelaw6_known  h fun r2 h1 =>
  ((!r2) = true →
  Q false h1) ∧
  ((!r2) = false →
  F.table_New_Slint  h1 fun r5 h4 =>
  (r5.isNone = true →
  Q false h4) ∧
  (r5.isNone = false →
  RunS PP (Instr.makeMap 50 none) h4 fun m8 h7 =>
  ∃ m, F.spatelaw6_TableKeeps.l1 Q m p0 r5 m8 0 h7))
theorem F.spatelaw6_TableKeeps_ok {p0 : Sl} {h : H} {Q : Bool → H → Prop} (H : F.spatelaw6_TableKeeps p0 h Q) : Fn PP 8 ([p0.enc] : List Value).toArray h fun r h' => ∃ r0, r = (.bool r0) ∧ Q r0 h' := by
  unfold F.spatelaw6_TableKeeps at H
  refine fn_of Try.func8 Try.ntmps8 rfl rfl fun w0 => ?_
  refine tr_sub [(0, p0.enc)] ⟨rfl, trivial⟩ ?_
  refine tr_seq ?_
  refine tr_region ?_
  refine tr_p (y_assign rfl) rfl rfl ?_
  refine tr_nil ?_
  refine tr_thenN ?_
  refine tr_seq ?_
  refine tr_seq ?_
  refine tr_region ?_
  refine tr_e (e_call Try.call17 rfl (F.spatelaw6_known_ok H)) rfl rfl ?_
  rintro _ h1 ⟨r2, rfl, H⟩
  refine tr_p (y_not rfl) rfl rfl ?_
  refine tr_nil ?_
  refine tr_thenN ?_
  refine tr_cond rfl (fun g3 => ?_) (fun g3 => ?_)
  · replace H := H.1 g3
    refine tr_seq ?_
    refine tr_region ?_
    refine tr_p (y_assign rfl) rfl rfl ?_
    refine tr_nil ?_
    refine tr_thenN ?_
    refine tr_ret ?_
    refine tr_thenR ?_
    exact tr_ret1 rfl rfl ⟨_, rfl, H⟩
  · replace H := H.2 g3
    refine tr_skip ?_
    refine tr_thenN ?_
    refine tr_seq ?_
    refine tr_region ?_
    refine tr_e (e_call Try.call31 rfl (F.table_New_Slint_ok H)) rfl rfl ?_
    rintro _ h4 ⟨r5, rfl, H⟩
    refine tr_p (y_assign rfl) rfl rfl ?_
    refine tr_nil ?_
    refine tr_thenN ?_
    refine tr_seq ?_
    refine tr_seq ?_
    refine tr_region ?_
    refine tr_p (y_move rfl) rfl rfl ?_
    refine tr_p (y_pnil_eql Try.runUnderlying48 rfl rfl) rfl rfl ?_
    refine tr_nil ?_
    refine tr_thenN ?_
    refine tr_cond rfl (fun g6 => ?_) (fun g6 => ?_)
    · replace H := H.1 g6
      refine tr_seq ?_
      refine tr_region ?_
      refine tr_p (y_assign rfl) rfl rfl ?_
      refine tr_nil ?_
      refine tr_thenN ?_
      refine tr_ret ?_
      refine tr_thenR ?_
      exact tr_ret1 rfl rfl ⟨_, rfl, H⟩
    · replace H := H.2 g6
      refine tr_skip ?_
      refine tr_thenN ?_
      refine tr_seq ?_
      refine tr_region ?_
      refine tr_e (f_mkN H) rfl rfl ?_
      rintro m8 h7 H
      refine tr_p (y_assign rfl) rfl rfl ?_
      refine tr_nil ?_
      refine tr_thenN ?_
      refine tr_seq ?_
      refine tr_seq ?_
      refine tr_region ?_
      refine tr_p (y_assign rfl) rfl rfl ?_
      refine tr_nil ?_
      refine tr_thenN ?_
      refine tr_block ?_
      obtain ⟨m121, H⟩ := H
      refine tr_sub [(0, p0.enc), (3, (.pointer r5)), (4, m8), (5, (.int .i64 0))] ⟨rfl, rfl, rfl, rfl, trivial⟩ ?_
      refine tr_loop_j (fun m L' h => ∃ (x0 : Sl) (x3 : Option Addr) (x4 : Value) (x5 : Int), L' = [(0, x0.enc), (3, (.pointer x3)), (4, x4), (5, (.int .i64 x5))] ∧ F.spatelaw6_TableKeeps.l1 Q m x0 x3 x4 x5 h) ?_ ?_ m121 ⟨_, _, _, _, rfl, H⟩
      · rintro L' h ⟨_, _, _, _, _, H⟩; exact H
      · rintro q1 L' h ⟨x0, x3, x4, x5, rfl, H⟩
        unfold F.spatelaw6_TableKeeps.l1 at H
        refine tr_seq_j (fun L' h => ∃ (x0 : Sl) (x3 : Option Addr) (x4 : Value) (x5 : Int), L' = [(0, x0.enc), (3, (.pointer x3)), (4, x4), (5, (.int .i64 x5))] ∧ F.spatelaw6_TableKeeps.j2 Q (F.spatelaw6_TableKeeps.l1 Q q1) x0 x3 x4 x5 h) ?_ ?_
        · rintro L' h ⟨x0, x3, x4, x5, rfl, H⟩
          unfold F.spatelaw6_TableKeeps.j2 at H
          refine tr_seq_j (fun L' h => ∃ (x0 : Sl) (x3 : Option Addr) (x4 : Value) (x5 : Int), L' = [(0, x0.enc), (3, (.pointer x3)), (4, x4), (5, (.int .i64 x5))] ∧ F.spatelaw6_TableKeeps.j3 Q (F.spatelaw6_TableKeeps.l1 Q q1) x0 x3 x4 x5 h) ?_ ?_
          · rintro L' h ⟨x0, x3, x4, x5, rfl, H⟩
            unfold F.spatelaw6_TableKeeps.j3 at H
            refine tr_region ?_
            refine tr_p (y_move rfl) rfl rfl ?_
            refine tr_p (y_add rfl rfl) rfl rfl ?_
            refine tr_p (y_assign rfl) rfl rfl ?_
            refine tr_nil ?_
            refine tr_thenN ?_
            exact tr_join [(0, x0.enc), (3, (.pointer x3)), (4, x4), (5, (.int .i64 (IntKind.wrap .i64 (x5 + 1))))] ⟨rfl, rfl, rfl, rfl, trivial⟩ ⟨_, _, _, _, rfl, H⟩
          · refine tr_block ?_
            refine tr_seq ?_
            refine tr_region ?_
            refine tr_p (y_move rfl) rfl rfl ?_
            refine tr_p (y_move rfl) rfl rfl ?_
            obtain ⟨a9, e10, H⟩ := H
            refine tr_p (f_idx (s := x0) Try.runUnderlying43 Try.sizeOf46 rfl rfl e10) rfl rfl ?_
            obtain ⟨y11, k12, H⟩ := H
            refine tr_h (y_ldS Try.isAgg46 Try.sizeOf46 rfl rfl) k12 rfl rfl ?_
            refine tr_e (f_alloc (cs := ((⟨0, 0, (⟨#[]⟩ : ByteArray)⟩ : S_spatelaw6_Step) : S_spatelaw6_Step).cells.toArray) Try.zeroValue46 rfl H) rfl rfl ?_
            rintro _ h13 ⟨a14, rfl, H⟩
            refine tr_e (f_store (vs := y11.cells) Try.sizeOf46 rfl rfl cellsOfStruct rfl (by intro v hv; exact ones_S_spatelaw6_Step _ v hv) H) rfl rfl ?_
            rintro _ h15 ⟨rfl, H⟩
            refine tr_nil ?_
            refine tr_thenN ?_
            refine tr_seq ?_
            refine tr_region ?_
            refine tr_p (y_move rfl) rfl rfl ?_
            refine tr_p (y_fa (off := 2) Try.runUnderlying46 fo_46_2 rfl) rfl rfl ?_
            obtain ⟨y16, k17, H⟩ := H
            refine tr_h (y_ld Try.isAgg9 rfl) k17 rfl rfl ?_
            refine tr_e (f_lk rfl rfl H) rfl rfl ?_
            rintro _ h18 ⟨r19, r20, rfl, H⟩
            refine tr_p (y_move rfl) rfl rfl ?_
            refine tr_p (y_ext rfl rfl) rfl rfl ?_
            refine tr_p (y_ext rfl rfl) rfl rfl ?_
            refine tr_p (y_assign rfl) rfl rfl ?_
            refine tr_p (y_assign rfl) rfl rfl ?_
            refine tr_nil ?_
            refine tr_thenN ?_
            refine tr_seq ?_
            refine tr_region ?_
            refine tr_p (y_move rfl) rfl rfl ?_
            refine tr_e (e_call Try.call32 rfl (F.table_Table_Slint_Slots_ok H)) rfl rfl ?_
            rintro _ h21 ⟨r22, rfl, H⟩
            refine tr_p (y_assign rfl) rfl rfl ?_
            refine tr_nil ?_
            refine tr_thenN ?_
            refine tr_seq ?_
            refine tr_region ?_
            refine tr_p (y_move rfl) rfl rfl ?_
            refine tr_e (e_call Try.call33 rfl (F.table_Table_Slint_Left_ok H)) rfl rfl ?_
            rintro _ h23 ⟨r24, rfl, H⟩
            refine tr_p (y_assign rfl) rfl rfl ?_
            refine tr_nil ?_
            refine tr_thenN ?_
            refine tr_seq_j (fun L' h => ∃ (x0 : Sl) (x3 : Option Addr) (x4 : Value) (x5 : Int), L' = [(0, x0.enc), (3, (.pointer x3)), (4, x4), (5, (.int .i64 x5))] ∧ F.spatelaw6_TableKeeps.j4 Q (F.spatelaw6_TableKeeps.l1 Q q1) x0 x3 x4 x5 h) ?_ ?_
            · rintro L' h ⟨x0, x3, x4, x5, rfl, H⟩
              unfold F.spatelaw6_TableKeeps.j4 at H
              refine tr_seq_j (fun L' h => ∃ (x0 : Sl) (x3 : Option Addr) (x4 : Value) (x5 : Int) (x191 : Bool), L' = [(0, x0.enc), (3, (.pointer x3)), (4, x4), (5, (.int .i64 x5)), (191, (.bool x191))] ∧ F.spatelaw6_TableKeeps.j5 Q (F.spatelaw6_TableKeeps.l1 Q q1) x0 x3 x4 x5 x191 h) ?_ ?_
              · rintro L' h ⟨x0, x3, x4, x5, x191, rfl, H⟩
                unfold F.spatelaw6_TableKeeps.j5 at H
                refine tr_cond rfl (fun g25 => ?_) (fun g25 => ?_)
                · replace H := H.1 g25
                  refine tr_seq ?_
                  refine tr_region ?_
                  refine tr_p (y_assign rfl) rfl rfl ?_
                  refine tr_nil ?_
                  refine tr_thenN ?_
                  refine tr_ret ?_
                  refine tr_blockR ?_
                  refine tr_thenR ?_
                  refine tr_thenR ?_
                  refine tr_blockR ?_
                  refine tr_thenR ?_
                  exact tr_ret1 rfl rfl ⟨_, rfl, H⟩
                · replace H := H.2 g25
                  refine tr_skip ?_
                  refine tr_blockN ?_
                  refine tr_thenN ?_
                  exact tr_join [(0, x0.enc), (3, (.pointer x3)), (4, x4), (5, (.int .i64 x5))] ⟨rfl, rfl, rfl, rfl, trivial⟩ ⟨_, _, _, _, rfl, H⟩
              · refine tr_region ?_
                refine tr_p (y_move rfl) rfl rfl ?_
                refine tr_e (e_call Try.call38 rfl (F.table_Table_Slint_Len_ok H)) rfl rfl ?_
                rintro _ h26 ⟨r27, rfl, H⟩
                refine tr_p (y_move rfl) rfl rfl ?_
                refine tr_e (f_lenM rfl H) rfl rfl ?_
                rintro _ h28 ⟨s29, rfl, H⟩
                refine tr_p (y_neq rfl rfl) rfl rfl ?_
                refine tr_p (y_move rfl) rfl rfl ?_
                refine tr_split (t := 183) rfl (fun g30 => ?_) (fun g30 => ?_)
                · replace H := H.1 g30
                  refine tr_s rfl rfl ?_
                  refine tr_s rfl rfl ?_
                  refine tr_s rfl rfl ?_
                  refine tr_s rfl rfl ?_
                  refine tr_s rfl rfl ?_
                  refine tr_s rfl rfl ?_
                  refine tr_s rfl rfl ?_
                  refine tr_p (y_pick_t rfl rfl) rfl rfl ?_
                  refine tr_nil ?_
                  refine tr_thenN ?_
                  exact tr_join [(0, x0.enc), (3, (.pointer x3)), (4, x4), (5, (.int .i64 x5)), (191, (.bool true))] ⟨rfl, rfl, rfl, rfl, rfl, trivial⟩ ⟨_, _, _, _, _, rfl, H⟩
                · replace H := H.2 g30
                  refine tr_p (y_move rfl) rfl rfl ?_
                  refine tr_e (e_call Try.call38 rfl (F.table_Table_Slint_Len_ok H)) rfl rfl ?_
                  rintro _ h31 ⟨r32, rfl, H⟩
                  refine tr_p (y_mul rfl rfl) rfl rfl ?_
                  refine tr_p (y_move rfl) rfl rfl ?_
                  refine tr_e (e_call Try.call32 rfl (F.table_Table_Slint_Slots_ok H)) rfl rfl ?_
                  rintro _ h33 ⟨r34, rfl, H⟩
                  refine tr_p (y_mul rfl rfl) rfl rfl ?_
                  refine tr_p (y_gtr rfl rfl) rfl rfl ?_
                  refine tr_p (y_pick_f rfl rfl) rfl rfl ?_
                  refine tr_nil ?_
                  refine tr_thenN ?_
                  exact tr_join [(0, x0.enc), (3, (.pointer x3)), (4, x4), (5, (.int .i64 x5)), (191, (.bool (decide ((IntKind.wrap .i64 (4 * r32)) > (IntKind.wrap .i64 (3 * r34))))))] ⟨rfl, rfl, rfl, rfl, rfl, trivial⟩ ⟨_, _, _, _, _, rfl, H⟩
            · refine tr_seq ?_
              refine tr_region ?_
              refine tr_p (y_fa (off := 0) Try.runUnderlying46 fo_46_0 rfl) rfl rfl ?_
              obtain ⟨y35, k36, H⟩ := H
              refine tr_h (y_ld Try.isAgg3 rfl) k36 rfl rfl ?_
              refine tr_nil ?_
              refine tr_thenN ?_
              refine tr_block ?_
              refine tr_seq ?_
              refine tr_region ?_
              refine tr_p (y_eql rfl rfl) rfl rfl ?_
              refine tr_p (y_assign rfl) rfl rfl ?_
              refine tr_nil ?_
              refine tr_thenN ?_
              refine tr_cond rfl (fun g37 => ?_) (fun g37 => ?_)
              · replace H := H.1 g37
                refine tr_seq ?_
                refine tr_region ?_
                refine tr_p (y_move rfl) rfl rfl ?_
                refine tr_p (y_fa (off := 2) Try.runUnderlying46 fo_46_2 rfl) rfl rfl ?_
                obtain ⟨y38, k39, H⟩ := H
                refine tr_h (y_ld Try.isAgg9 rfl) k39 rfl rfl ?_
                refine tr_p (y_fa (off := 1) Try.runUnderlying46 fo_46_1 rfl) rfl rfl ?_
                obtain ⟨y40, k41, H⟩ := H
                refine tr_h (y_ld Try.isAgg3 rfl) k41 rfl rfl ?_
                refine tr_p (y_move rfl) rfl rfl ?_
                refine tr_e (f_buildL (cs := #[(.int .i64 y40), (.int .i64 x5)]) rfl rfl (bl_38_2_0_1 y40 x5) H) rfl rfl ?_
                rintro _ h42 ⟨s43, rfl, H⟩
                refine tr_e (e_call Try.call34 rfl (F.table_Table_Slint_Put_ok H)) rfl rfl ?_
                rintro _ h44 ⟨rfl, H⟩
                refine tr_nil ?_
                refine tr_thenN ?_
                refine tr_seq ?_
                refine tr_region ?_
                refine tr_p (y_move rfl) rfl rfl ?_
                refine tr_p (y_fa (off := 2) Try.runUnderlying46 fo_46_2 rfl) rfl rfl ?_
                obtain ⟨y45, k46, H⟩ := H
                refine tr_h (y_ld Try.isAgg9 rfl) k46 rfl rfl ?_
                refine tr_p (y_fa (off := 1) Try.runUnderlying46 fo_46_1 rfl) rfl rfl ?_
                obtain ⟨y47, k48, H⟩ := H
                refine tr_h (y_ld Try.isAgg3 rfl) k48 rfl rfl ?_
                refine tr_e (f_mu rfl rfl rfl H) rfl rfl ?_
                rintro _ h49 ⟨rfl, H⟩
                refine tr_nil ?_
                refine tr_thenN ?_
                refine tr_seq_j (fun L' h => ∃ (x0 : Sl) (x3 : Option Addr) (x4 : Value) (x5 : Int) (x87 : Bool), L' = [(0, x0.enc), (3, (.pointer x3)), (4, x4), (5, (.int .i64 x5)), (87, (.bool x87))] ∧ F.spatelaw6_TableKeeps.j6 Q (F.spatelaw6_TableKeeps.l1 Q q1) x0 x3 x4 x5 x87 h) ?_ ?_
                · rintro L' h ⟨x0, x3, x4, x5, x87, rfl, H⟩
                  unfold F.spatelaw6_TableKeeps.j6 at H
                  refine tr_cond rfl (fun g50 => ?_) (fun g50 => ?_)
                  · replace H := H.1 g50
                    refine tr_seq ?_
                    refine tr_region ?_
                    refine tr_p (y_assign rfl) rfl rfl ?_
                    refine tr_nil ?_
                    refine tr_thenN ?_
                    refine tr_ret ?_
                    refine tr_blockR ?_
                    refine tr_thenR ?_
                    refine tr_blockR ?_
                    refine tr_thenR ?_
                    refine tr_thenR ?_
                    refine tr_blockR ?_
                    refine tr_thenR ?_
                    exact tr_ret1 rfl rfl ⟨_, rfl, H⟩
                  · replace H := H.2 g50
                    refine tr_skip ?_
                    refine tr_blockN ?_
                    refine tr_thenN ?_
                    exact tr_join [(0, x0.enc), (3, (.pointer x3)), (4, x4), (5, (.int .i64 x5))] ⟨rfl, rfl, rfl, rfl, trivial⟩ ⟨_, _, _, _, rfl, H⟩
                · refine tr_region ?_
                  refine tr_p (y_move rfl) rfl rfl ?_
                  refine tr_e (e_call Try.call32 rfl (F.table_Table_Slint_Slots_ok H)) rfl rfl ?_
                  rintro _ h51 ⟨r52, rfl, H⟩
                  refine tr_p (y_move rfl) rfl rfl ?_
                  refine tr_p (y_neq rfl rfl) rfl rfl ?_
                  refine tr_p (y_move rfl) rfl rfl ?_
                  refine tr_split (t := 68) rfl (fun g53 => ?_) (fun g53 => ?_)
                  · replace H := H.1 g53
                    refine tr_p (y_move rfl) rfl rfl ?_
                    refine tr_p (y_move rfl) rfl rfl ?_
                    refine tr_split (t := 70) rfl (fun g54 => ?_) (fun g54 => ?_)
                    · replace H := H.1 g54
                      refine tr_s rfl rfl ?_
                      refine tr_s rfl rfl ?_
                      refine tr_p (y_pick_t rfl rfl) rfl rfl ?_
                      refine tr_p (y_move rfl) rfl rfl ?_
                      refine tr_s rfl rfl ?_
                      refine tr_s rfl rfl ?_
                      refine tr_s rfl rfl ?_
                      refine tr_s rfl rfl ?_
                      refine tr_p (y_pick_t rfl rfl) rfl rfl ?_
                      refine tr_p (y_move rfl) rfl rfl ?_
                      refine tr_s rfl rfl ?_
                      refine tr_s rfl rfl ?_
                      refine tr_s rfl rfl ?_
                      refine tr_s rfl rfl ?_
                      refine tr_s rfl rfl ?_
                      refine tr_p (y_pick_t rfl rfl) rfl rfl ?_
                      refine tr_p (y_pick_t rfl rfl) rfl rfl ?_
                      refine tr_nil ?_
                      refine tr_thenN ?_
                      exact tr_join [(0, x0.enc), (3, (.pointer x3)), (4, x4), (5, (.int .i64 x5)), (87, (.bool true))] ⟨rfl, rfl, rfl, rfl, rfl, trivial⟩ ⟨_, _, _, _, _, rfl, H⟩
                    · replace H := H.2 g54
                      refine tr_p (y_move rfl) rfl rfl ?_
                      refine tr_p (y_gtr rfl rfl) rfl rfl ?_
                      refine tr_p (y_pick_f rfl rfl) rfl rfl ?_
                      refine tr_p (y_move rfl) rfl rfl ?_
                      refine tr_split (t := 74) rfl (fun g55 => ?_) (fun g55 => ?_)
                      · replace H := H.1 g55
                        refine tr_s rfl rfl ?_
                        refine tr_s rfl rfl ?_
                        refine tr_s rfl rfl ?_
                        refine tr_s rfl rfl ?_
                        refine tr_p (y_pick_t rfl rfl) rfl rfl ?_
                        refine tr_p (y_move rfl) rfl rfl ?_
                        refine tr_s rfl rfl ?_
                        refine tr_s rfl rfl ?_
                        refine tr_s rfl rfl ?_
                        refine tr_s rfl rfl ?_
                        refine tr_s rfl rfl ?_
                        refine tr_p (y_pick_t rfl rfl) rfl rfl ?_
                        refine tr_p (y_pick_t rfl rfl) rfl rfl ?_
                        refine tr_nil ?_
                        refine tr_thenN ?_
                        exact tr_join [(0, x0.enc), (3, (.pointer x3)), (4, x4), (5, (.int .i64 x5)), (87, (.bool true))] ⟨rfl, rfl, rfl, rfl, rfl, trivial⟩ ⟨_, _, _, _, _, rfl, H⟩
                      · replace H := H.2 g55
                        refine tr_p (y_move rfl) rfl rfl ?_
                        refine tr_e (e_call Try.call33 rfl (F.table_Table_Slint_Left_ok H)) rfl rfl ?_
                        rintro _ h56 ⟨r57, rfl, H⟩
                        refine tr_p (y_move rfl) rfl rfl ?_
                        refine tr_p (y_neq rfl rfl) rfl rfl ?_
                        refine tr_p (y_pick_f rfl rfl) rfl rfl ?_
                        refine tr_p (y_move rfl) rfl rfl ?_
                        refine tr_split (t := 80) rfl (fun g58 => ?_) (fun g58 => ?_)
                        · replace H := H.1 g58
                          refine tr_s rfl rfl ?_
                          refine tr_s rfl rfl ?_
                          refine tr_s rfl rfl ?_
                          refine tr_s rfl rfl ?_
                          refine tr_s rfl rfl ?_
                          refine tr_p (y_pick_t rfl rfl) rfl rfl ?_
                          refine tr_p (y_pick_t rfl rfl) rfl rfl ?_
                          refine tr_nil ?_
                          refine tr_thenN ?_
                          exact tr_join [(0, x0.enc), (3, (.pointer x3)), (4, x4), (5, (.int .i64 x5)), (87, (.bool true))] ⟨rfl, rfl, rfl, rfl, rfl, trivial⟩ ⟨_, _, _, _, _, rfl, H⟩
                        · replace H := H.2 g58
                          refine tr_p (y_move rfl) rfl rfl ?_
                          refine tr_e (e_call Try.call32 rfl (F.table_Table_Slint_Slots_ok H)) rfl rfl ?_
                          rintro _ h59 ⟨r60, rfl, H⟩
                          refine tr_p (y_move rfl) rfl rfl ?_
                          refine tr_p (y_mul rfl rfl) rfl rfl ?_
                          refine tr_p (y_neq rfl rfl) rfl rfl ?_
                          refine tr_p (y_pick_f rfl rfl) rfl rfl ?_
                          refine tr_p (y_pick_t rfl rfl) rfl rfl ?_
                          refine tr_nil ?_
                          refine tr_thenN ?_
                          exact tr_join [(0, x0.enc), (3, (.pointer x3)), (4, x4), (5, (.int .i64 x5)), (87, (.bool ((r60 != (IntKind.wrap .i64 (2 * r22))))))] ⟨rfl, rfl, rfl, rfl, rfl, trivial⟩ ⟨_, _, _, _, _, rfl, H⟩
                  · replace H := H.2 g53
                    refine tr_s rfl rfl ?_
                    refine tr_s rfl rfl ?_
                    refine tr_s rfl rfl ?_
                    refine tr_s rfl rfl ?_
                    refine tr_s rfl rfl ?_
                    refine tr_s rfl rfl ?_
                    refine tr_s rfl rfl ?_
                    refine tr_s rfl rfl ?_
                    refine tr_s rfl rfl ?_
                    refine tr_s rfl rfl ?_
                    refine tr_s rfl rfl ?_
                    refine tr_s rfl rfl ?_
                    refine tr_s rfl rfl ?_
                    refine tr_s rfl rfl ?_
                    refine tr_s rfl rfl ?_
                    refine tr_s rfl rfl ?_
                    refine tr_s rfl rfl ?_
                    refine tr_s rfl rfl ?_
                    refine tr_p (y_pick_f rfl rfl) rfl rfl ?_
                    refine tr_nil ?_
                    refine tr_thenN ?_
                    exact tr_join [(0, x0.enc), (3, (.pointer x3)), (4, x4), (5, (.int .i64 x5)), (87, (.bool false))] ⟨rfl, rfl, rfl, rfl, rfl, trivial⟩ ⟨_, _, _, _, _, rfl, H⟩
              · replace H := H.2 g37
                refine tr_seq ?_
                refine tr_region ?_
                refine tr_p (y_eql rfl rfl) rfl rfl ?_
                refine tr_p (y_assign rfl) rfl rfl ?_
                refine tr_nil ?_
                refine tr_thenN ?_
                refine tr_cond rfl (fun g61 => ?_) (fun g61 => ?_)
                · replace H := H.1 g61
                  refine tr_seq ?_
                  refine tr_region ?_
                  refine tr_p (y_move rfl) rfl rfl ?_
                  refine tr_p (y_fa (off := 2) Try.runUnderlying46 fo_46_2 rfl) rfl rfl ?_
                  obtain ⟨y62, k63, H⟩ := H
                  refine tr_h (y_ld Try.isAgg9 rfl) k63 rfl rfl ?_
                  refine tr_e (e_call Try.call35 rfl (F.table_Table_Slint_Drop_ok H)) rfl rfl ?_
                  rintro _ h64 ⟨r65, r66, rfl, H⟩
                  refine tr_p (y_move rfl) rfl rfl ?_
                  refine tr_p (y_ext rfl rfl) rfl rfl ?_
                  refine tr_p (y_ext rfl rfl) rfl rfl ?_
                  refine tr_p (y_assign rfl) rfl rfl ?_
                  refine tr_p (y_assign rfl) rfl rfl ?_
                  refine tr_nil ?_
                  refine tr_thenN ?_
                  refine tr_seq_j (fun L' h => ∃ (x0 : Sl) (x3 : Option Addr) (x4 : Value) (x5 : Int) (x6 : Addr), L' = [(0, x0.enc), (3, (.pointer x3)), (4, x4), (5, (.int .i64 x5)), (6, (.pointer (some x6)))] ∧ F.spatelaw6_TableKeeps.j7 Q (F.spatelaw6_TableKeeps.l1 Q q1) x0 x3 x4 x5 x6 h) ?_ ?_
                  · rintro L' h ⟨x0, x3, x4, x5, x6, rfl, H⟩
                    unfold F.spatelaw6_TableKeeps.j7 at H
                    refine tr_region ?_
                    refine tr_p (y_move rfl) rfl rfl ?_
                    refine tr_p (y_fa (off := 2) Try.runUnderlying46 fo_46_2 rfl) rfl rfl ?_
                    obtain ⟨y67, k68, H⟩ := H
                    refine tr_h (y_ld Try.isAgg9 rfl) k68 rfl rfl ?_
                    refine tr_e (f_del rfl H) rfl rfl ?_
                    rintro _ h69 ⟨rfl, H⟩
                    refine tr_nil ?_
                    refine tr_blockN ?_
                    refine tr_thenN ?_
                    exact tr_join [(0, x0.enc), (3, (.pointer x3)), (4, x4), (5, (.int .i64 x5))] ⟨rfl, rfl, rfl, rfl, trivial⟩ ⟨_, _, _, _, rfl, H⟩
                  · refine tr_seq_j (fun L' h => ∃ (x0 : Sl) (x3 : Option Addr) (x4 : Value) (x5 : Int) (x6 : Addr) (x121 : Bool), L' = [(0, x0.enc), (3, (.pointer x3)), (4, x4), (5, (.int .i64 x5)), (6, (.pointer (some x6))), (121, (.bool x121))] ∧ F.spatelaw6_TableKeeps.j8 Q (F.spatelaw6_TableKeeps.l1 Q q1) x0 x3 x4 x5 x6 x121 h) ?_ ?_
                    · rintro L' h ⟨x0, x3, x4, x5, x6, x121, rfl, H⟩
                      unfold F.spatelaw6_TableKeeps.j8 at H
                      refine tr_cond rfl (fun g71 => ?_) (fun g71 => ?_)
                      · replace H := H.1 g71
                        refine tr_seq ?_
                        refine tr_region ?_
                        refine tr_p (y_assign rfl) rfl rfl ?_
                        refine tr_nil ?_
                        refine tr_thenN ?_
                        refine tr_ret ?_
                        refine tr_thenR ?_
                        refine tr_blockR ?_
                        refine tr_thenR ?_
                        refine tr_blockR ?_
                        refine tr_thenR ?_
                        refine tr_thenR ?_
                        refine tr_blockR ?_
                        refine tr_thenR ?_
                        exact tr_ret1 rfl rfl ⟨_, rfl, H⟩
                      · replace H := H.2 g71
                        refine tr_skip ?_
                        refine tr_thenN ?_
                        exact tr_join [(0, x0.enc), (3, (.pointer x3)), (4, x4), (5, (.int .i64 x5)), (6, (.pointer (some x6)))] ⟨rfl, rfl, rfl, rfl, rfl, trivial⟩ ⟨_, _, _, _, _, rfl, H⟩
                    · refine tr_draw mixed [0, 0, 3, 7, 15, 31, 63, 127, 255, 63, 63, 1087, 3647, 8191, 16383, 32767, 65535, 131071, 262143, 524287, 1048575, 2097151, 4194303, 8388607, 16777215] (by kernel_rfl) ?_
                      refine g_p 0 1 rfl (by kernel_rfl) (y_move rfl) rfl rfl ?_
                      refine g_p 1 3 rfl (by kernel_rfl) (y_move rfl) rfl rfl ?_
                      refine g_p 2 7 rfl (by kernel_rfl) (y_bneq Try.underlying4 rfl rfl) rfl rfl ?_
                      refine g_p 3 15 rfl (by kernel_rfl) (y_move rfl) rfl rfl ?_
                      refine g_split (t := 100) rfl (fun g72 => ?_) (fun g72 => ?_)
                      · replace H := H.1 g72
                        refine g_s 4 31 rfl (by kernel_rfl) rfl rfl ?_
                        refine g_s 5 63 rfl (by kernel_rfl) rfl rfl ?_
                        refine g_s 6 127 rfl (by kernel_rfl) rfl rfl ?_
                        refine g_s 7 255 rfl (by kernel_rfl) rfl rfl ?_
                        refine g_s 8 511 rfl (by kernel_rfl) rfl rfl ?_
                        refine g_s 9 1023 rfl (by kernel_rfl) rfl rfl ?_
                        refine g_s 10 2047 rfl (by kernel_rfl) rfl rfl ?_
                        refine g_s 11 4095 rfl (by kernel_rfl) rfl rfl ?_
                        refine g_s 12 8191 rfl (by kernel_rfl) rfl rfl ?_
                        refine g_s 13 16383 rfl (by kernel_rfl) rfl rfl ?_
                        refine g_s 14 32767 rfl (by kernel_rfl) rfl rfl ?_
                        refine g_p 15 65535 rfl (by kernel_rfl) (y_pick_t rfl rfl) rfl rfl ?_
                        refine g_p 16 131071 rfl (by kernel_rfl) (y_move rfl) rfl rfl ?_
                        refine g_s 17 262143 rfl (by kernel_rfl) rfl rfl ?_
                        refine g_s 18 524287 rfl (by kernel_rfl) rfl rfl ?_
                        refine g_s 19 1048575 rfl (by kernel_rfl) rfl rfl ?_
                        refine g_s 20 2097151 rfl (by kernel_rfl) rfl rfl ?_
                        refine g_s 21 4194303 rfl (by kernel_rfl) rfl rfl ?_
                        refine g_s 22 8388607 rfl (by kernel_rfl) rfl rfl ?_
                        refine g_s 23 16777215 rfl (by kernel_rfl) rfl rfl ?_
                        refine g_p 24 33554431 rfl (by kernel_rfl) (y_pick_t rfl rfl) rfl rfl ?_
                        refine g_d (by kernel_rfl) ?_
                        refine tr_thenN ?_
                        exact tr_join [(0, x0.enc), (3, (.pointer x3)), (4, x4), (5, (.int .i64 x5)), (6, (.pointer (some a14))), (121, (.bool true))] ⟨rfl, rfl, rfl, rfl, rfl, rfl, trivial⟩ ⟨_, _, _, _, _, _, rfl, H⟩
                      · replace H := H.2 g72
                        refine g_p 4 31 rfl (by kernel_rfl) (y_move rfl) rfl rfl ?_
                        refine g_p 5 63 rfl (by kernel_rfl) (y_move rfl) rfl rfl ?_
                        refine g_split (t := 102) rfl (fun g73 => ?_) (fun g73 => ?_)
                        · replace H := H.1 g73
                          refine g_p 6 127 rfl (by kernel_rfl) (y_move rfl) rfl rfl ?_
                          obtain ⟨a74, e75, H⟩ := H
                          refine g_p 7 255 rfl (by kernel_rfl) (f_idx (s := r65) Try.runUnderlying38 Try.sizeOf3 rfl rfl e75) rfl rfl ?_
                          obtain ⟨y76, k77, H⟩ := H
                          refine g_h 8 511 rfl (by kernel_rfl) (y_ld Try.isAgg3 rfl) k77 rfl rfl ?_
                          refine g_p 9 1023 rfl (by kernel_rfl) (y_move rfl) rfl rfl ?_
                          refine g_p 10 2047 rfl (by kernel_rfl) (y_fa (off := 2) Try.runUnderlying46 fo_46_2 rfl) rfl rfl ?_
                          obtain ⟨y78, k79, H⟩ := H
                          refine g_h 11 4095 rfl (by kernel_rfl) (y_ld Try.isAgg9 rfl) k79 rfl rfl ?_
                          refine g_e 12 8191 [(8, fun h => cellH h a74 = some (.int .i64 y76))] (by kernel_rfl) rfl (by kernel_rfl) (f_lk rfl rfl H) rfl rfl ?_
                          rintro _ h80 ⟨r81, rfl, H⟩
                          obtain ⟨k82, H⟩ := H
                          refine ⟨And.intro k82 trivial, ?_⟩
                          refine g_p 13 16383 rfl (by kernel_rfl) (y_neq rfl rfl) rfl rfl ?_
                          refine g_p 14 32767 rfl (by kernel_rfl) (y_pick_t rfl rfl) rfl rfl ?_
                          refine g_p 15 65535 rfl (by kernel_rfl) (y_pick_f rfl rfl) rfl rfl ?_
                          refine g_p 16 131071 rfl (by kernel_rfl) (y_move rfl) rfl rfl ?_
                          refine g_split (t := 113) rfl (fun g83 => ?_) (fun g83 => ?_)
                          · replace H := H.1 g83
                            refine g_s 17 262143 rfl (by kernel_rfl) rfl rfl ?_
                            refine g_s 18 524287 rfl (by kernel_rfl) rfl rfl ?_
                            refine g_s 19 1048575 rfl (by kernel_rfl) rfl rfl ?_
                            refine g_s 20 2097151 rfl (by kernel_rfl) rfl rfl ?_
                            refine g_s 21 4194303 rfl (by kernel_rfl) rfl rfl ?_
                            refine g_s 22 8388607 rfl (by kernel_rfl) rfl rfl ?_
                            refine g_s 23 16777215 rfl (by kernel_rfl) rfl rfl ?_
                            refine g_p 24 33554431 rfl (by kernel_rfl) (y_pick_t rfl rfl) rfl rfl ?_
                            refine g_d (by kernel_rfl) ?_
                            refine tr_thenN ?_
                            exact tr_join [(0, x0.enc), (3, (.pointer x3)), (4, x4), (5, (.int .i64 x5)), (6, (.pointer (some a14))), (121, (.bool true))] ⟨rfl, rfl, rfl, rfl, rfl, rfl, trivial⟩ ⟨_, _, _, _, _, _, rfl, H⟩
                          · replace H := H.2 g83
                            refine g_p 17 262143 rfl (by kernel_rfl) (y_move rfl) rfl rfl ?_
                            refine g_p 18 524287 rfl (by kernel_rfl) (y_not rfl) rfl rfl ?_
                            refine g_p 19 1048575 rfl (by kernel_rfl) (y_move rfl) rfl rfl ?_
                            refine g_split (t := 116) rfl (fun g84 => ?_) (fun g84 => ?_)
                            · replace H := H.1 g84
                              refine g_p 20 2097151 rfl (by kernel_rfl) (y_move rfl) rfl rfl ?_
                              refine g_p 21 4194303 rfl (by kernel_rfl) (y_len (ts := #[]) Try.runUnderlying38 (o := r65.ptr) (n := r65.len) (cap := r65.cap) rfl) rfl rfl ?_
                              refine g_p 22 8388607 rfl (by kernel_rfl) (y_neq rfl rfl) rfl rfl ?_
                              refine g_p 23 16777215 rfl (by kernel_rfl) (y_pick_t rfl rfl) rfl rfl ?_
                              refine g_p 24 33554431 rfl (by kernel_rfl) (y_pick_f rfl rfl) rfl rfl ?_
                              refine g_d (by kernel_rfl) ?_
                              refine tr_thenN ?_
                              exact tr_join [(0, x0.enc), (3, (.pointer x3)), (4, x4), (5, (.int .i64 x5)), (6, (.pointer (some a14))), (121, (.bool (((r65.len : Int) != 0))))] ⟨rfl, rfl, rfl, rfl, rfl, rfl, trivial⟩ ⟨_, _, _, _, _, _, rfl, H⟩
                            · replace H := H.2 g84
                              refine g_s 20 2097151 rfl (by kernel_rfl) rfl rfl ?_
                              refine g_s 21 4194303 rfl (by kernel_rfl) rfl rfl ?_
                              refine g_s 22 8388607 rfl (by kernel_rfl) rfl rfl ?_
                              refine g_p 23 16777215 rfl (by kernel_rfl) (y_pick_f rfl rfl) rfl rfl ?_
                              refine g_p 24 33554431 rfl (by kernel_rfl) (y_pick_f rfl rfl) rfl rfl ?_
                              refine g_d (by kernel_rfl) ?_
                              refine tr_thenN ?_
                              exact tr_join [(0, x0.enc), (3, (.pointer x3)), (4, x4), (5, (.int .i64 x5)), (6, (.pointer (some a14))), (121, (.bool false))] ⟨rfl, rfl, rfl, rfl, rfl, rfl, trivial⟩ ⟨_, _, _, _, _, _, rfl, H⟩
                        · replace H := H.2 g73
                          refine g_s 6 127 rfl (by kernel_rfl) rfl rfl ?_
                          refine g_s 7 255 rfl (by kernel_rfl) rfl rfl ?_
                          refine g_s 8 511 rfl (by kernel_rfl) rfl rfl ?_
                          refine g_s 9 1023 rfl (by kernel_rfl) rfl rfl ?_
                          refine g_s 10 2047 rfl (by kernel_rfl) rfl rfl ?_
                          refine g_s 11 4095 rfl (by kernel_rfl) rfl rfl ?_
                          refine g_s 12 8191 rfl (by kernel_rfl) rfl rfl ?_
                          refine g_s 13 16383 rfl (by kernel_rfl) rfl rfl ?_
                          refine g_p 14 32767 rfl (by kernel_rfl) (y_pick_f rfl rfl) rfl rfl ?_
                          refine g_p 15 65535 rfl (by kernel_rfl) (y_pick_f rfl rfl) rfl rfl ?_
                          refine g_p 16 131071 rfl (by kernel_rfl) (y_move rfl) rfl rfl ?_
                          refine g_p 17 262143 rfl (by kernel_rfl) (y_move rfl) rfl rfl ?_
                          refine g_p 18 524287 rfl (by kernel_rfl) (y_not rfl) rfl rfl ?_
                          refine g_p 19 1048575 rfl (by kernel_rfl) (y_move rfl) rfl rfl ?_
                          refine g_split (t := 116) rfl (fun g85 => ?_) (fun g85 => ?_)
                          · replace H := H.1 g85
                            refine g_p 20 2097151 rfl (by kernel_rfl) (y_move rfl) rfl rfl ?_
                            refine g_p 21 4194303 rfl (by kernel_rfl) (y_len (ts := #[]) Try.runUnderlying38 (o := r65.ptr) (n := r65.len) (cap := r65.cap) rfl) rfl rfl ?_
                            refine g_p 22 8388607 rfl (by kernel_rfl) (y_neq rfl rfl) rfl rfl ?_
                            refine g_p 23 16777215 rfl (by kernel_rfl) (y_pick_t rfl rfl) rfl rfl ?_
                            refine g_p 24 33554431 rfl (by kernel_rfl) (y_pick_f rfl rfl) rfl rfl ?_
                            refine g_d (by kernel_rfl) ?_
                            refine tr_thenN ?_
                            exact tr_join [(0, x0.enc), (3, (.pointer x3)), (4, x4), (5, (.int .i64 x5)), (6, (.pointer (some a14))), (121, (.bool (((r65.len : Int) != 0))))] ⟨rfl, rfl, rfl, rfl, rfl, rfl, trivial⟩ ⟨_, _, _, _, _, _, rfl, H⟩
                          · replace H := H.2 g85
                            refine g_s 20 2097151 rfl (by kernel_rfl) rfl rfl ?_
                            refine g_s 21 4194303 rfl (by kernel_rfl) rfl rfl ?_
                            refine g_s 22 8388607 rfl (by kernel_rfl) rfl rfl ?_
                            refine g_p 23 16777215 rfl (by kernel_rfl) (y_pick_f rfl rfl) rfl rfl ?_
                            refine g_p 24 33554431 rfl (by kernel_rfl) (y_pick_f rfl rfl) rfl rfl ?_
                            refine g_d (by kernel_rfl) ?_
                            refine tr_thenN ?_
                            exact tr_join [(0, x0.enc), (3, (.pointer x3)), (4, x4), (5, (.int .i64 x5)), (6, (.pointer (some a14))), (121, (.bool false))] ⟨rfl, rfl, rfl, rfl, rfl, rfl, trivial⟩ ⟨_, _, _, _, _, _, rfl, H⟩
                · replace H := H.2 g61
                  refine tr_seq ?_
                  refine tr_region ?_
                  refine tr_p (y_eql rfl rfl) rfl rfl ?_
                  refine tr_p (y_assign rfl) rfl rfl ?_
                  refine tr_nil ?_
                  refine tr_thenN ?_
                  refine tr_cond rfl (fun g86 => ?_) (fun g86 => ?_)
                  · replace H := H.1 g86
                    refine tr_seq ?_
                    refine tr_region ?_
                    refine tr_p (y_move rfl) rfl rfl ?_
                    refine tr_p (y_fa (off := 1) Try.runUnderlying46 fo_46_1 rfl) rfl rfl ?_
                    obtain ⟨y87, k88, H⟩ := H
                    refine tr_h (y_ld Try.isAgg3 rfl) k88 rfl rfl ?_
                    refine tr_e (e_call Try.call36 rfl (F.table_Table_Slint_Move_ok H)) rfl rfl ?_
                    rintro _ h89 ⟨r90, rfl, H⟩
                    refine tr_p (y_assign rfl) rfl rfl ?_
                    refine tr_nil ?_
                    refine tr_thenN ?_
                    refine tr_seq_j (fun L' h => ∃ (x0 : Sl) (x3 : Option Addr) (x4 : Value) (x5 : Int) (x143 : Bool), L' = [(0, x0.enc), (3, (.pointer x3)), (4, x4), (5, (.int .i64 x5)), (143, (.bool x143))] ∧ F.spatelaw6_TableKeeps.j9 Q (F.spatelaw6_TableKeeps.l1 Q q1) x0 x3 x4 x5 x143 h) ?_ ?_
                    · rintro L' h ⟨x0, x3, x4, x5, x143, rfl, H⟩
                      unfold F.spatelaw6_TableKeeps.j9 at H
                      refine tr_cond rfl (fun g91 => ?_) (fun g91 => ?_)
                      · replace H := H.1 g91
                        refine tr_seq ?_
                        refine tr_region ?_
                        refine tr_p (y_assign rfl) rfl rfl ?_
                        refine tr_nil ?_
                        refine tr_thenN ?_
                        refine tr_ret ?_
                        refine tr_blockR ?_
                        refine tr_thenR ?_
                        refine tr_blockR ?_
                        refine tr_thenR ?_
                        refine tr_thenR ?_
                        refine tr_blockR ?_
                        refine tr_thenR ?_
                        exact tr_ret1 rfl rfl ⟨_, rfl, H⟩
                      · replace H := H.2 g91
                        refine tr_skip ?_
                        refine tr_blockN ?_
                        refine tr_thenN ?_
                        exact tr_join [(0, x0.enc), (3, (.pointer x3)), (4, x4), (5, (.int .i64 x5))] ⟨rfl, rfl, rfl, rfl, trivial⟩ ⟨_, _, _, _, rfl, H⟩
                    · refine tr_region ?_
                      refine tr_p (y_move rfl) rfl rfl ?_
                      refine tr_p (y_move rfl) rfl rfl ?_
                      refine tr_e (e_call Try.call33 rfl (F.table_Table_Slint_Left_ok H)) rfl rfl ?_
                      rintro _ h92 ⟨r93, rfl, H⟩
                      refine tr_p (y_neq rfl rfl) rfl rfl ?_
                      refine tr_p (y_move rfl) rfl rfl ?_
                      refine tr_split (t := 135) rfl (fun g94 => ?_) (fun g94 => ?_)
                      · replace H := H.1 g94
                        refine tr_s rfl rfl ?_
                        refine tr_s rfl rfl ?_
                        refine tr_s rfl rfl ?_
                        refine tr_p (y_pick_t rfl rfl) rfl rfl ?_
                        refine tr_p (y_move rfl) rfl rfl ?_
                        refine tr_s rfl rfl ?_
                        refine tr_s rfl rfl ?_
                        refine tr_p (y_pick_t rfl rfl) rfl rfl ?_
                        refine tr_nil ?_
                        refine tr_thenN ?_
                        exact tr_join [(0, x0.enc), (3, (.pointer x3)), (4, x4), (5, (.int .i64 x5)), (143, (.bool true))] ⟨rfl, rfl, rfl, rfl, rfl, trivial⟩ ⟨_, _, _, _, _, rfl, H⟩
                      · replace H := H.2 g94
                        refine tr_p (y_move rfl) rfl rfl ?_
                        refine tr_p (y_move rfl) rfl rfl ?_
                        refine tr_p (y_gtr rfl rfl) rfl rfl ?_
                        refine tr_p (y_pick_f rfl rfl) rfl rfl ?_
                        refine tr_p (y_move rfl) rfl rfl ?_
                        refine tr_split (t := 140) rfl (fun g95 => ?_) (fun g95 => ?_)
                        · replace H := H.1 g95
                          refine tr_s rfl rfl ?_
                          refine tr_s rfl rfl ?_
                          refine tr_p (y_pick_t rfl rfl) rfl rfl ?_
                          refine tr_nil ?_
                          refine tr_thenN ?_
                          exact tr_join [(0, x0.enc), (3, (.pointer x3)), (4, x4), (5, (.int .i64 x5)), (143, (.bool true))] ⟨rfl, rfl, rfl, rfl, rfl, trivial⟩ ⟨_, _, _, _, _, rfl, H⟩
                        · replace H := H.2 g95
                          refine tr_p (y_move rfl) rfl rfl ?_
                          refine tr_p (y_lss rfl rfl) rfl rfl ?_
                          refine tr_p (y_pick_f rfl rfl) rfl rfl ?_
                          refine tr_nil ?_
                          refine tr_thenN ?_
                          exact tr_join [(0, x0.enc), (3, (.pointer x3)), (4, x4), (5, (.int .i64 x5)), (143, (.bool (decide (r90 < 0))))] ⟨rfl, rfl, rfl, rfl, rfl, trivial⟩ ⟨_, _, _, _, _, rfl, H⟩
                  · replace H := H.2 g86
                    refine tr_seq ?_
                    refine tr_region ?_
                    refine tr_p (y_eql rfl rfl) rfl rfl ?_
                    refine tr_p (y_assign rfl) rfl rfl ?_
                    refine tr_nil ?_
                    refine tr_thenN ?_
                    refine tr_cond rfl (fun g96 => ?_) (fun g96 => ?_)
                    · replace H := H.1 g96
                      refine tr_seq ?_
                      refine tr_region ?_
                      refine tr_p (y_move rfl) rfl rfl ?_
                      refine tr_p (y_fa (off := 2) Try.runUnderlying46 fo_46_2 rfl) rfl rfl ?_
                      obtain ⟨y97, k98, H⟩ := H
                      refine tr_h (y_ld Try.isAgg9 rfl) k98 rfl rfl ?_
                      refine tr_e (e_call Try.call37 rfl (F.table_Table_Slint_Get_ok H)) rfl rfl ?_
                      rintro _ h99 ⟨r100, r101, rfl, H⟩
                      refine tr_p (y_move rfl) rfl rfl ?_
                      refine tr_p (y_ext rfl rfl) rfl rfl ?_
                      refine tr_p (y_ext rfl rfl) rfl rfl ?_
                      refine tr_p (y_assign rfl) rfl rfl ?_
                      refine tr_p (y_assign rfl) rfl rfl ?_
                      refine tr_nil ?_
                      refine tr_thenN ?_
                      refine tr_seq_j (fun L' h => ∃ (x0 : Sl) (x3 : Option Addr) (x4 : Value) (x5 : Int) (x177 : Bool), L' = [(0, x0.enc), (3, (.pointer x3)), (4, x4), (5, (.int .i64 x5)), (177, (.bool x177))] ∧ F.spatelaw6_TableKeeps.j10 Q (F.spatelaw6_TableKeeps.l1 Q q1) x0 x3 x4 x5 x177 h) ?_ ?_
                      · rintro L' h ⟨x0, x3, x4, x5, x177, rfl, H⟩
                        unfold F.spatelaw6_TableKeeps.j10 at H
                        refine tr_cond rfl (fun g102 => ?_) (fun g102 => ?_)
                        · replace H := H.1 g102
                          refine tr_seq ?_
                          refine tr_region ?_
                          refine tr_p (y_assign rfl) rfl rfl ?_
                          refine tr_nil ?_
                          refine tr_thenN ?_
                          refine tr_ret ?_
                          refine tr_blockR ?_
                          refine tr_thenR ?_
                          refine tr_blockR ?_
                          refine tr_thenR ?_
                          refine tr_thenR ?_
                          refine tr_blockR ?_
                          refine tr_thenR ?_
                          exact tr_ret1 rfl rfl ⟨_, rfl, H⟩
                        · replace H := H.2 g102
                          refine tr_skip ?_
                          refine tr_blockN ?_
                          refine tr_thenN ?_
                          exact tr_join [(0, x0.enc), (3, (.pointer x3)), (4, x4), (5, (.int .i64 x5))] ⟨rfl, rfl, rfl, rfl, trivial⟩ ⟨_, _, _, _, rfl, H⟩
                      · refine tr_draw mixed [0, 0, 3, 7, 15, 31, 63, 127, 255, 63, 63, 1087, 3647, 8191, 16383, 32767, 65535, 131071, 262143, 524287, 1048575, 2097151, 4194303, 8388607, 16777215] (by kernel_rfl) ?_
                        refine g_p 0 1 rfl (by kernel_rfl) (y_move rfl) rfl rfl ?_
                        refine g_p 1 3 rfl (by kernel_rfl) (y_move rfl) rfl rfl ?_
                        refine g_p 2 7 rfl (by kernel_rfl) (y_bneq Try.underlying4 rfl rfl) rfl rfl ?_
                        refine g_p 3 15 rfl (by kernel_rfl) (y_move rfl) rfl rfl ?_
                        refine g_split (t := 156) rfl (fun g103 => ?_) (fun g103 => ?_)
                        · replace H := H.1 g103
                          refine g_s 4 31 rfl (by kernel_rfl) rfl rfl ?_
                          refine g_s 5 63 rfl (by kernel_rfl) rfl rfl ?_
                          refine g_s 6 127 rfl (by kernel_rfl) rfl rfl ?_
                          refine g_s 7 255 rfl (by kernel_rfl) rfl rfl ?_
                          refine g_s 8 511 rfl (by kernel_rfl) rfl rfl ?_
                          refine g_s 9 1023 rfl (by kernel_rfl) rfl rfl ?_
                          refine g_s 10 2047 rfl (by kernel_rfl) rfl rfl ?_
                          refine g_s 11 4095 rfl (by kernel_rfl) rfl rfl ?_
                          refine g_s 12 8191 rfl (by kernel_rfl) rfl rfl ?_
                          refine g_s 13 16383 rfl (by kernel_rfl) rfl rfl ?_
                          refine g_s 14 32767 rfl (by kernel_rfl) rfl rfl ?_
                          refine g_p 15 65535 rfl (by kernel_rfl) (y_pick_t rfl rfl) rfl rfl ?_
                          refine g_p 16 131071 rfl (by kernel_rfl) (y_move rfl) rfl rfl ?_
                          refine g_s 17 262143 rfl (by kernel_rfl) rfl rfl ?_
                          refine g_s 18 524287 rfl (by kernel_rfl) rfl rfl ?_
                          refine g_s 19 1048575 rfl (by kernel_rfl) rfl rfl ?_
                          refine g_s 20 2097151 rfl (by kernel_rfl) rfl rfl ?_
                          refine g_s 21 4194303 rfl (by kernel_rfl) rfl rfl ?_
                          refine g_s 22 8388607 rfl (by kernel_rfl) rfl rfl ?_
                          refine g_s 23 16777215 rfl (by kernel_rfl) rfl rfl ?_
                          refine g_p 24 33554431 rfl (by kernel_rfl) (y_pick_t rfl rfl) rfl rfl ?_
                          refine g_d (by kernel_rfl) ?_
                          refine tr_thenN ?_
                          exact tr_join [(0, x0.enc), (3, (.pointer x3)), (4, x4), (5, (.int .i64 x5)), (177, (.bool true))] ⟨rfl, rfl, rfl, rfl, rfl, trivial⟩ ⟨_, _, _, _, _, rfl, H⟩
                        · replace H := H.2 g103
                          refine g_p 4 31 rfl (by kernel_rfl) (y_move rfl) rfl rfl ?_
                          refine g_p 5 63 rfl (by kernel_rfl) (y_move rfl) rfl rfl ?_
                          refine g_split (t := 158) rfl (fun g104 => ?_) (fun g104 => ?_)
                          · replace H := H.1 g104
                            refine g_p 6 127 rfl (by kernel_rfl) (y_move rfl) rfl rfl ?_
                            obtain ⟨a105, e106, H⟩ := H
                            refine g_p 7 255 rfl (by kernel_rfl) (f_idx (s := r100) Try.runUnderlying38 Try.sizeOf3 rfl rfl e106) rfl rfl ?_
                            obtain ⟨y107, k108, H⟩ := H
                            refine g_h 8 511 rfl (by kernel_rfl) (y_ld Try.isAgg3 rfl) k108 rfl rfl ?_
                            refine g_p 9 1023 rfl (by kernel_rfl) (y_move rfl) rfl rfl ?_
                            refine g_p 10 2047 rfl (by kernel_rfl) (y_fa (off := 2) Try.runUnderlying46 fo_46_2 rfl) rfl rfl ?_
                            obtain ⟨y109, k110, H⟩ := H
                            refine g_h 11 4095 rfl (by kernel_rfl) (y_ld Try.isAgg9 rfl) k110 rfl rfl ?_
                            refine g_e 12 8191 [(8, fun h => cellH h a105 = some (.int .i64 y107))] (by kernel_rfl) rfl (by kernel_rfl) (f_lk rfl rfl H) rfl rfl ?_
                            rintro _ h111 ⟨r112, rfl, H⟩
                            obtain ⟨k113, H⟩ := H
                            refine ⟨And.intro k113 trivial, ?_⟩
                            refine g_p 13 16383 rfl (by kernel_rfl) (y_neq rfl rfl) rfl rfl ?_
                            refine g_p 14 32767 rfl (by kernel_rfl) (y_pick_t rfl rfl) rfl rfl ?_
                            refine g_p 15 65535 rfl (by kernel_rfl) (y_pick_f rfl rfl) rfl rfl ?_
                            refine g_p 16 131071 rfl (by kernel_rfl) (y_move rfl) rfl rfl ?_
                            refine g_split (t := 169) rfl (fun g114 => ?_) (fun g114 => ?_)
                            · replace H := H.1 g114
                              refine g_s 17 262143 rfl (by kernel_rfl) rfl rfl ?_
                              refine g_s 18 524287 rfl (by kernel_rfl) rfl rfl ?_
                              refine g_s 19 1048575 rfl (by kernel_rfl) rfl rfl ?_
                              refine g_s 20 2097151 rfl (by kernel_rfl) rfl rfl ?_
                              refine g_s 21 4194303 rfl (by kernel_rfl) rfl rfl ?_
                              refine g_s 22 8388607 rfl (by kernel_rfl) rfl rfl ?_
                              refine g_s 23 16777215 rfl (by kernel_rfl) rfl rfl ?_
                              refine g_p 24 33554431 rfl (by kernel_rfl) (y_pick_t rfl rfl) rfl rfl ?_
                              refine g_d (by kernel_rfl) ?_
                              refine tr_thenN ?_
                              exact tr_join [(0, x0.enc), (3, (.pointer x3)), (4, x4), (5, (.int .i64 x5)), (177, (.bool true))] ⟨rfl, rfl, rfl, rfl, rfl, trivial⟩ ⟨_, _, _, _, _, rfl, H⟩
                            · replace H := H.2 g114
                              refine g_p 17 262143 rfl (by kernel_rfl) (y_move rfl) rfl rfl ?_
                              refine g_p 18 524287 rfl (by kernel_rfl) (y_not rfl) rfl rfl ?_
                              refine g_p 19 1048575 rfl (by kernel_rfl) (y_move rfl) rfl rfl ?_
                              refine g_split (t := 172) rfl (fun g115 => ?_) (fun g115 => ?_)
                              · replace H := H.1 g115
                                refine g_p 20 2097151 rfl (by kernel_rfl) (y_move rfl) rfl rfl ?_
                                refine g_p 21 4194303 rfl (by kernel_rfl) (y_len (ts := #[]) Try.runUnderlying38 (o := r100.ptr) (n := r100.len) (cap := r100.cap) rfl) rfl rfl ?_
                                refine g_p 22 8388607 rfl (by kernel_rfl) (y_neq rfl rfl) rfl rfl ?_
                                refine g_p 23 16777215 rfl (by kernel_rfl) (y_pick_t rfl rfl) rfl rfl ?_
                                refine g_p 24 33554431 rfl (by kernel_rfl) (y_pick_f rfl rfl) rfl rfl ?_
                                refine g_d (by kernel_rfl) ?_
                                refine tr_thenN ?_
                                exact tr_join [(0, x0.enc), (3, (.pointer x3)), (4, x4), (5, (.int .i64 x5)), (177, (.bool (((r100.len : Int) != 0))))] ⟨rfl, rfl, rfl, rfl, rfl, trivial⟩ ⟨_, _, _, _, _, rfl, H⟩
                              · replace H := H.2 g115
                                refine g_s 20 2097151 rfl (by kernel_rfl) rfl rfl ?_
                                refine g_s 21 4194303 rfl (by kernel_rfl) rfl rfl ?_
                                refine g_s 22 8388607 rfl (by kernel_rfl) rfl rfl ?_
                                refine g_p 23 16777215 rfl (by kernel_rfl) (y_pick_f rfl rfl) rfl rfl ?_
                                refine g_p 24 33554431 rfl (by kernel_rfl) (y_pick_f rfl rfl) rfl rfl ?_
                                refine g_d (by kernel_rfl) ?_
                                refine tr_thenN ?_
                                exact tr_join [(0, x0.enc), (3, (.pointer x3)), (4, x4), (5, (.int .i64 x5)), (177, (.bool false))] ⟨rfl, rfl, rfl, rfl, rfl, trivial⟩ ⟨_, _, _, _, _, rfl, H⟩
                          · replace H := H.2 g104
                            refine g_s 6 127 rfl (by kernel_rfl) rfl rfl ?_
                            refine g_s 7 255 rfl (by kernel_rfl) rfl rfl ?_
                            refine g_s 8 511 rfl (by kernel_rfl) rfl rfl ?_
                            refine g_s 9 1023 rfl (by kernel_rfl) rfl rfl ?_
                            refine g_s 10 2047 rfl (by kernel_rfl) rfl rfl ?_
                            refine g_s 11 4095 rfl (by kernel_rfl) rfl rfl ?_
                            refine g_s 12 8191 rfl (by kernel_rfl) rfl rfl ?_
                            refine g_s 13 16383 rfl (by kernel_rfl) rfl rfl ?_
                            refine g_p 14 32767 rfl (by kernel_rfl) (y_pick_f rfl rfl) rfl rfl ?_
                            refine g_p 15 65535 rfl (by kernel_rfl) (y_pick_f rfl rfl) rfl rfl ?_
                            refine g_p 16 131071 rfl (by kernel_rfl) (y_move rfl) rfl rfl ?_
                            refine g_p 17 262143 rfl (by kernel_rfl) (y_move rfl) rfl rfl ?_
                            refine g_p 18 524287 rfl (by kernel_rfl) (y_not rfl) rfl rfl ?_
                            refine g_p 19 1048575 rfl (by kernel_rfl) (y_move rfl) rfl rfl ?_
                            refine g_split (t := 172) rfl (fun g116 => ?_) (fun g116 => ?_)
                            · replace H := H.1 g116
                              refine g_p 20 2097151 rfl (by kernel_rfl) (y_move rfl) rfl rfl ?_
                              refine g_p 21 4194303 rfl (by kernel_rfl) (y_len (ts := #[]) Try.runUnderlying38 (o := r100.ptr) (n := r100.len) (cap := r100.cap) rfl) rfl rfl ?_
                              refine g_p 22 8388607 rfl (by kernel_rfl) (y_neq rfl rfl) rfl rfl ?_
                              refine g_p 23 16777215 rfl (by kernel_rfl) (y_pick_t rfl rfl) rfl rfl ?_
                              refine g_p 24 33554431 rfl (by kernel_rfl) (y_pick_f rfl rfl) rfl rfl ?_
                              refine g_d (by kernel_rfl) ?_
                              refine tr_thenN ?_
                              exact tr_join [(0, x0.enc), (3, (.pointer x3)), (4, x4), (5, (.int .i64 x5)), (177, (.bool (((r100.len : Int) != 0))))] ⟨rfl, rfl, rfl, rfl, rfl, trivial⟩ ⟨_, _, _, _, _, rfl, H⟩
                            · replace H := H.2 g116
                              refine g_s 20 2097151 rfl (by kernel_rfl) rfl rfl ?_
                              refine g_s 21 4194303 rfl (by kernel_rfl) rfl rfl ?_
                              refine g_s 22 8388607 rfl (by kernel_rfl) rfl rfl ?_
                              refine g_p 23 16777215 rfl (by kernel_rfl) (y_pick_f rfl rfl) rfl rfl ?_
                              refine g_p 24 33554431 rfl (by kernel_rfl) (y_pick_f rfl rfl) rfl rfl ?_
                              refine g_d (by kernel_rfl) ?_
                              refine tr_thenN ?_
                              exact tr_join [(0, x0.enc), (3, (.pointer x3)), (4, x4), (5, (.int .i64 x5)), (177, (.bool false))] ⟨rfl, rfl, rfl, rfl, rfl, trivial⟩ ⟨_, _, _, _, _, rfl, H⟩
                    · replace H := H.2 g96
                      refine tr_skip ?_
                      refine tr_blockN ?_
                      refine tr_thenN ?_
                      exact tr_join [(0, x0.enc), (3, (.pointer x3)), (4, x4), (5, (.int .i64 x5))] ⟨rfl, rfl, rfl, rfl, trivial⟩ ⟨_, _, _, _, rfl, H⟩
        · refine tr_seq_j (fun L' h => ∃ (x0 : Sl) (x3 : Option Addr) (x4 : Value) (x5 : Int) (x29 : Bool), L' = [(0, x0.enc), (3, (.pointer x3)), (4, x4), (5, (.int .i64 x5)), (29, (.bool x29))] ∧ F.spatelaw6_TableKeeps.j11 Q (F.spatelaw6_TableKeeps.l1 Q q1) x0 x3 x4 x5 x29 h) ?_ ?_
          · rintro L' h ⟨x0, x3, x4, x5, x29, rfl, H⟩
            unfold F.spatelaw6_TableKeeps.j11 at H
            refine tr_cond rfl (fun g117 => ?_) (fun g117 => ?_)
            · replace H := H.1 g117
              refine tr_skip ?_
              refine tr_thenN ?_
              exact tr_join [(0, x0.enc), (3, (.pointer x3)), (4, x4), (5, (.int .i64 x5))] ⟨rfl, rfl, rfl, rfl, trivial⟩ ⟨_, _, _, _, rfl, H⟩
            · replace H := H.2 g117
              refine tr_exit ?_
              refine tr_thenE ?_
              refine tr_thenE ?_
              refine tr_hit ?_
              refine tr_thenN ?_
              refine tr_seq ?_
              refine tr_region ?_
              refine tr_p (y_move rfl) rfl rfl ?_
              refine tr_p (y_move rfl) rfl rfl ?_
              refine tr_e (e_call Try.call39 rfl (F.spatelaw6_lies_ok H)) rfl rfl ?_
              rintro _ h118 ⟨r119, rfl, H⟩
              refine tr_p (y_assign rfl) rfl rfl ?_
              refine tr_nil ?_
              refine tr_thenN ?_
              refine tr_ret ?_
              exact tr_ret1 rfl rfl ⟨_, rfl, H⟩
          · refine tr_region ?_
            refine tr_p (y_move rfl) rfl rfl ?_
            refine tr_p (y_move rfl) rfl rfl ?_
            refine tr_p (y_len (ts := #[]) Try.runUnderlying43 (o := x0.ptr) (n := x0.len) (cap := x0.cap) rfl) rfl rfl ?_
            refine tr_p (y_lss rfl rfl) rfl rfl ?_
            refine tr_p (y_move rfl) rfl rfl ?_
            refine tr_split (t := 26) rfl (fun g120 => ?_) (fun g120 => ?_)
            · replace H := H.1 g120
              refine tr_p (y_move rfl) rfl rfl ?_
              refine tr_p (y_lss rfl rfl) rfl rfl ?_
              refine tr_p (y_pick_t rfl rfl) rfl rfl ?_
              refine tr_nil ?_
              refine tr_thenN ?_
              exact tr_join [(0, x0.enc), (3, (.pointer x3)), (4, x4), (5, (.int .i64 x5)), (29, (.bool (decide (x5 < 4000))))] ⟨rfl, rfl, rfl, rfl, rfl, trivial⟩ ⟨_, _, _, _, _, rfl, H⟩
            · replace H := H.2 g120
              refine tr_s rfl rfl ?_
              refine tr_s rfl rfl ?_
              refine tr_p (y_pick_f rfl rfl) rfl rfl ?_
              refine tr_nil ?_
              refine tr_thenN ?_
              exact tr_join [(0, x0.enc), (3, (.pointer x3)), (4, x4), (5, (.int .i64 x5)), (29, (.bool false))] ⟨rfl, rfl, rfl, rfl, rfl, trivial⟩ ⟨_, _, _, _, _, rfl, H⟩

def F.table_Table_int_Drop.j2 (Q : Int → Bool → H → Prop) (C1 : (Option Addr) → Int → Int → Int → Int → H → Prop) (x0 : Option Addr) (x4 : Int) (x8 : Int) (x10 : Int) (x11 : Int) (h : H) : Prop :=
  (x10 : Int) ≠ 0 ∧
  C1 x0 x4 x8 x10 (Int.tmod (IntKind.wrap .i64 (x11 + 1)) x10) h
def F.table_Table_int_Drop.l1 (Q : Int → Bool → H → Prop) : Nat → (Option Addr) → Int → Int → Int → Int → H → Prop
  | 0, _, _, _, _, _, _ => False
  | q1 + 1, x0, x4, x8, x10, x11, h =>
    nn x0 fun a61 =>
    ldL h (a61.add 0) fun y63 =>
    idxA y63 x11 3 fun a65 =>
    ldI .u8 h (a65.add 0) fun y67 =>
    (((y67 != 0)) = true →
    nn x0 fun a71 =>
    ldL h (a71.add 0) fun y73 =>
    nn x0 fun a75 =>
    ldL h (a75.add 0) fun y77 =>
    idxA y77 x11 3 fun a79 =>
    ldS h (a79.add 1) fun y81 =>
    F.table_home_int y73 y81 h fun r84 h83 =>
    (x10 : Int) ≠ 0 ∧
    (x10 : Int) ≠ 0 ∧
    ((decide ((Int.tmod (IntKind.wrap .i64 ((IntKind.wrap .i64 (x11 - r84)) + x10)) x10) ≥ (Int.tmod (IntKind.wrap .i64 ((IntKind.wrap .i64 (x11 - x8)) + x10)) x10))) = true →
    nn x0 fun a88 =>
    ldL h83 (a88.add 0) fun y90 =>
    nn x0 fun a92 =>
    ldL h83 (a92.add 0) fun y94 =>
    idxA y94 x11 3 fun a96 =>
    ld_S_table_place_int h83 a96 fun y98 =>
    idxA y90 x8 3 fun a100 =>
    stH h83 a100 y98.cells fun h102 =>
    F.table_Table_int_Drop.j2 Q (F.table_Table_int_Drop.l1 Q q1) x0 x4 x11 x10 x11 h102) ∧
    ((decide ((Int.tmod (IntKind.wrap .i64 ((IntKind.wrap .i64 (x11 - r84)) + x10)) x10) ≥ (Int.tmod (IntKind.wrap .i64 ((IntKind.wrap .i64 (x11 - x8)) + x10)) x10))) = false →
    F.table_Table_int_Drop.j2 Q (F.table_Table_int_Drop.l1 Q q1) x0 x4 x8 x10 x11 h83)) ∧
    (((y67 != 0)) = false →
    nn x0 fun a103 =>
    ldL h (a103.add 0) fun y105 =>
    idxA y105 x8 3 fun a107 =>
    stH h a107 ((⟨0, (⟨#[]⟩ : ByteArray), 0⟩ : S_table_place_int).cells) fun h109 =>
    Q x4 true h109)
/-- (*spate/table.Table[int]).Drop -/
def F.table_Table_int_Drop (p0 : Option Addr) (p1 : ByteArray) (h : H) (Q : Int → Bool → H → Prop) : Prop :=
  F.table_Table_int_Move p0 4 h fun r2 h1 =>
  nn p0 fun a3 =>
  ldL h1 (a3.add 1) fun y5 =>
  F.table_find_int y5 p1 h1 fun r8 r9 h7 =>
  (r9 = true →
  nn p0 fun a11 =>
  ldL h7 (a11.add 1) fun y13 =>
  idxA y13 r8 3 fun a15 =>
  ldI .i64 h7 (a15.add 2) fun y17 =>
  nn p0 fun a19 =>
  ldL h7 (a19.add 1) fun y21 =>
  idxA y21 r8 3 fun a23 =>
  stH h7 a23 ((⟨2, (⟨#[]⟩ : ByteArray), 0⟩ : S_table_place_int).cells) fun h25 =>
  nn p0 fun a26 =>
  ldI .i64 h25 (a26.add 3) fun y28 =>
  nn p0 fun a30 =>
  stH h25 (a30.add 3) [(.int .i64 (IntKind.wrap .i64 (y28 - 1)))] fun h32 =>
  Q y17 true h32) ∧
  (r9 = false →
  nn p0 fun a33 =>
  ldL h7 (a33.add 0) fun y35 =>
  F.table_find_int y35 p1 h7 fun r38 r39 h37 =>
  ((!r39) = true →
  Q 0 false h37) ∧
  ((!r39) = false →
  nn p0 fun a41 =>
  ldL h37 (a41.add 0) fun y43 =>
  idxA y43 r38 3 fun a45 =>
  ldI .i64 h37 (a45.add 2) fun y47 =>
  nn p0 fun a49 =>
  ldI .i64 h37 (a49.add 3) fun y51 =>
  nn p0 fun a53 =>
  stH h37 (a53.add 3) [(.int .i64 (IntKind.wrap .i64 (y51 - 1)))] fun h55 =>
  nn p0 fun a56 =>
  ldL h55 (a56.add 0) fun y58 =>
  ((y58.len : Int) : Int) ≠ 0 ∧
  ∃ m, F.table_Table_int_Drop.l1 Q m p0 y47 r38 (y58.len : Int) (Int.tmod (IntKind.wrap .i64 (r38 + 1)) (y58.len : Int)) h55))
theorem F.table_Table_int_Drop_ok {p0 : Option Addr} {p1 : ByteArray} {h : H} {Q : Int → Bool → H → Prop} (H : F.table_Table_int_Drop p0 p1 h Q) : Fn PP 22 ([(.pointer p0), (.string p1)] : List Value).toArray h fun r h' => ∃ r0 r1, r = .tuple #[(.int .i64 r0), (.bool r1)] ∧ Q r0 r1 h' := by
  unfold F.table_Table_int_Drop at H
  refine fn_of Try.func22 Try.ntmps22 rfl rfl fun w0 => ?_
  refine tr_sub [(0, (.pointer p0)), (1, (.string p1))] ⟨rfl, rfl, trivial⟩ ?_
  refine tr_seq ?_
  refine tr_region ?_
  refine tr_p (y_assign rfl) rfl rfl ?_
  refine tr_p (y_assign rfl) rfl rfl ?_
  refine tr_nil ?_
  refine tr_thenN ?_
  refine tr_seq ?_
  refine tr_region ?_
  refine tr_p (y_move rfl) rfl rfl ?_
  refine tr_e (e_call Try.call26 rfl (F.table_Table_int_Move_ok H)) rfl rfl ?_
  rintro _ h1 ⟨r2, rfl, H⟩
  refine tr_nil ?_
  refine tr_thenN ?_
  refine tr_seq ?_
  refine tr_seq ?_
  refine tr_region ?_
  refine tr_p (y_move rfl) rfl rfl ?_
  obtain ⟨a3, e4, H⟩ := H
  refine tr_p (f_nn rfl e4) rfl rfl ?_
  refine tr_p (y_fa (off := 1) Try.runUnderlying73 fo_73_1 rfl) rfl rfl ?_
  obtain ⟨y5, k6, H⟩ := H
  refine tr_h (y_ld Try.isAgg71 rfl) k6 rfl rfl ?_
  refine tr_p (y_move rfl) rfl rfl ?_
  refine tr_e (e_call Try.call47 rfl (F.table_find_int_ok H)) rfl rfl ?_
  rintro _ h7 ⟨r8, r9, rfl, H⟩
  refine tr_p (y_move rfl) rfl rfl ?_
  refine tr_p (y_ext rfl rfl) rfl rfl ?_
  refine tr_p (y_ext rfl rfl) rfl rfl ?_
  refine tr_p (y_assign rfl) rfl rfl ?_
  refine tr_p (y_assign rfl) rfl rfl ?_
  refine tr_nil ?_
  refine tr_thenN ?_
  refine tr_seq ?_
  refine tr_region ?_
  refine tr_p (y_move rfl) rfl rfl ?_
  refine tr_nil ?_
  refine tr_thenN ?_
  refine tr_cond rfl (fun g10 => ?_) (fun g10 => ?_)
  · replace H := H.1 g10
    refine tr_seq ?_
    refine tr_region ?_
    refine tr_p (y_move rfl) rfl rfl ?_
    obtain ⟨a11, e12, H⟩ := H
    refine tr_p (f_nn rfl e12) rfl rfl ?_
    refine tr_p (y_fa (off := 1) Try.runUnderlying73 fo_73_1 rfl) rfl rfl ?_
    obtain ⟨y13, k14, H⟩ := H
    refine tr_h (y_ld Try.isAgg71 rfl) k14 rfl rfl ?_
    refine tr_p (y_move rfl) rfl rfl ?_
    obtain ⟨a15, e16, H⟩ := H
    refine tr_p (f_idx (s := y13) Try.runUnderlying71 Try.sizeOf77 rfl rfl e16) rfl rfl ?_
    refine tr_p (y_fa (off := 2) Try.runUnderlying77 fo_77_2 rfl) rfl rfl ?_
    obtain ⟨y17, k18, H⟩ := H
    refine tr_h (y_ld Try.isAgg3 rfl) k18 rfl rfl ?_
    refine tr_p (y_assign rfl) rfl rfl ?_
    refine tr_nil ?_
    refine tr_thenN ?_
    refine tr_seq ?_
    refine tr_region ?_
    refine tr_p (y_move rfl) rfl rfl ?_
    obtain ⟨a19, e20, H⟩ := H
    refine tr_p (f_nn rfl e20) rfl rfl ?_
    refine tr_p (y_fa (off := 1) Try.runUnderlying73 fo_73_1 rfl) rfl rfl ?_
    obtain ⟨y21, k22, H⟩ := H
    refine tr_h (y_ld Try.isAgg71 rfl) k22 rfl rfl ?_
    refine tr_p (y_move rfl) rfl rfl ?_
    refine tr_p (f_build rfl (bd_77_0 2)) rfl rfl ?_
    obtain ⟨a23, e24, H⟩ := H
    refine tr_p (f_idx (s := y21) Try.runUnderlying71 Try.sizeOf77 rfl rfl e24) rfl rfl ?_
    refine tr_e (f_store (vs := (⟨2, (⟨#[]⟩ : ByteArray), 0⟩ : S_table_place_int).cells) Try.sizeOf77 rfl rfl cellsOfStruct rfl (by intro v hv; exact ones_S_table_place_int _ v hv) H) rfl rfl ?_
    rintro _ h25 ⟨rfl, H⟩
    refine tr_nil ?_
    refine tr_thenN ?_
    refine tr_seq ?_
    refine tr_region ?_
    refine tr_p (y_move rfl) rfl rfl ?_
    obtain ⟨a26, e27, H⟩ := H
    refine tr_p (f_nn rfl e27) rfl rfl ?_
    refine tr_p (y_fa (off := 3) Try.runUnderlying73 fo_73_3 rfl) rfl rfl ?_
    obtain ⟨y28, k29, H⟩ := H
    refine tr_h (y_ld Try.isAgg3 rfl) k29 rfl rfl ?_
    refine tr_p (y_sub rfl rfl) rfl rfl ?_
    obtain ⟨a30, e31, H⟩ := H
    refine tr_p (f_nn rfl e31) rfl rfl ?_
    refine tr_p (y_fa (off := 3) Try.runUnderlying73 fo_73_3 rfl) rfl rfl ?_
    refine tr_e (f_store (vs := [(.int .i64 (IntKind.wrap .i64 (y28 - 1)))]) Try.sizeOf3 rfl rfl rfl rfl (one1 rfl) H) rfl rfl ?_
    rintro _ h32 ⟨rfl, H⟩
    refine tr_nil ?_
    refine tr_thenN ?_
    refine tr_seq ?_
    refine tr_region ?_
    refine tr_p (y_move rfl) rfl rfl ?_
    refine tr_p (y_assign rfl) rfl rfl ?_
    refine tr_p (y_assign rfl) rfl rfl ?_
    refine tr_nil ?_
    refine tr_thenN ?_
    refine tr_ret ?_
    refine tr_thenR ?_
    exact tr_ret2 rfl rfl rfl ⟨_, _, rfl, H⟩
  · replace H := H.2 g10
    refine tr_skip ?_
    refine tr_thenN ?_
    refine tr_seq ?_
    refine tr_region ?_
    refine tr_p (y_move rfl) rfl rfl ?_
    obtain ⟨a33, e34, H⟩ := H
    refine tr_p (f_nn rfl e34) rfl rfl ?_
    refine tr_p (y_fa (off := 0) Try.runUnderlying73 fo_73_0 rfl) rfl rfl ?_
    obtain ⟨y35, k36, H⟩ := H
    refine tr_h (y_ld Try.isAgg71 rfl) k36 rfl rfl ?_
    refine tr_p (y_move rfl) rfl rfl ?_
    refine tr_e (e_call Try.call47 rfl (F.table_find_int_ok H)) rfl rfl ?_
    rintro _ h37 ⟨r38, r39, rfl, H⟩
    refine tr_p (y_move rfl) rfl rfl ?_
    refine tr_p (y_ext rfl rfl) rfl rfl ?_
    refine tr_p (y_ext rfl rfl) rfl rfl ?_
    refine tr_p (y_assign rfl) rfl rfl ?_
    refine tr_p (y_assign rfl) rfl rfl ?_
    refine tr_nil ?_
    refine tr_thenN ?_
    refine tr_seq ?_
    refine tr_seq ?_
    refine tr_region ?_
    refine tr_p (y_move rfl) rfl rfl ?_
    refine tr_p (y_not rfl) rfl rfl ?_
    refine tr_nil ?_
    refine tr_thenN ?_
    refine tr_cond rfl (fun g40 => ?_) (fun g40 => ?_)
    · replace H := H.1 g40
      refine tr_seq ?_
      refine tr_region ?_
      refine tr_p (y_move rfl) rfl rfl ?_
      refine tr_p (y_assign rfl) rfl rfl ?_
      refine tr_p (y_assign rfl) rfl rfl ?_
      refine tr_nil ?_
      refine tr_thenN ?_
      refine tr_ret ?_
      refine tr_thenR ?_
      exact tr_ret2 rfl rfl rfl ⟨_, _, rfl, H⟩
    · replace H := H.2 g40
      refine tr_skip ?_
      refine tr_thenN ?_
      refine tr_seq ?_
      refine tr_region ?_
      refine tr_p (y_move rfl) rfl rfl ?_
      obtain ⟨a41, e42, H⟩ := H
      refine tr_p (f_nn rfl e42) rfl rfl ?_
      refine tr_p (y_fa (off := 0) Try.runUnderlying73 fo_73_0 rfl) rfl rfl ?_
      obtain ⟨y43, k44, H⟩ := H
      refine tr_h (y_ld Try.isAgg71 rfl) k44 rfl rfl ?_
      refine tr_p (y_move rfl) rfl rfl ?_
      obtain ⟨a45, e46, H⟩ := H
      refine tr_p (f_idx (s := y43) Try.runUnderlying71 Try.sizeOf77 rfl rfl e46) rfl rfl ?_
      refine tr_p (y_fa (off := 2) Try.runUnderlying77 fo_77_2 rfl) rfl rfl ?_
      obtain ⟨y47, k48, H⟩ := H
      refine tr_h (y_ld Try.isAgg3 rfl) k48 rfl rfl ?_
      refine tr_p (y_assign rfl) rfl rfl ?_
      refine tr_nil ?_
      refine tr_thenN ?_
      refine tr_seq ?_
      refine tr_region ?_
      refine tr_p (y_move rfl) rfl rfl ?_
      obtain ⟨a49, e50, H⟩ := H
      refine tr_p (f_nn rfl e50) rfl rfl ?_
      refine tr_p (y_fa (off := 3) Try.runUnderlying73 fo_73_3 rfl) rfl rfl ?_
      obtain ⟨y51, k52, H⟩ := H
      refine tr_h (y_ld Try.isAgg3 rfl) k52 rfl rfl ?_
      refine tr_p (y_sub rfl rfl) rfl rfl ?_
      obtain ⟨a53, e54, H⟩ := H
      refine tr_p (f_nn rfl e54) rfl rfl ?_
      refine tr_p (y_fa (off := 3) Try.runUnderlying73 fo_73_3 rfl) rfl rfl ?_
      refine tr_e (f_store (vs := [(.int .i64 (IntKind.wrap .i64 (y51 - 1)))]) Try.sizeOf3 rfl rfl rfl rfl (one1 rfl) H) rfl rfl ?_
      rintro _ h55 ⟨rfl, H⟩
      refine tr_nil ?_
      refine tr_thenN ?_
      refine tr_seq ?_
      refine tr_region ?_
      refine tr_p (y_move rfl) rfl rfl ?_
      obtain ⟨a56, e57, H⟩ := H
      refine tr_p (f_nn rfl e57) rfl rfl ?_
      refine tr_p (y_fa (off := 0) Try.runUnderlying73 fo_73_0 rfl) rfl rfl ?_
      obtain ⟨y58, k59, H⟩ := H
      refine tr_h (y_ld Try.isAgg71 rfl) k59 rfl rfl ?_
      refine tr_p (y_len (ts := #[]) Try.runUnderlying71 (o := y58.ptr) (n := y58.len) (cap := y58.cap) rfl) rfl rfl ?_
      refine tr_p (y_assign rfl) rfl rfl ?_
      refine tr_nil ?_
      refine tr_thenN ?_
      refine tr_seq ?_
      refine tr_seq ?_
      refine tr_region ?_
      refine tr_p (y_move rfl) rfl rfl ?_
      refine tr_p (y_add rfl rfl) rfl rfl ?_
      refine tr_p (y_move rfl) rfl rfl ?_
      obtain ⟨e60, H⟩ := H
      refine tr_p (y_rem rfl rfl e60) rfl rfl ?_
      refine tr_p (y_assign rfl) rfl rfl ?_
      refine tr_nil ?_
      refine tr_thenN ?_
      refine tr_block ?_
      obtain ⟨m110, H⟩ := H
      refine tr_sub [(0, (.pointer p0)), (4, (.int .i64 y47)), (8, (.int .i64 r38)), (10, (.int .i64 (y58.len : Int))), (11, (.int .i64 (Int.tmod (IntKind.wrap .i64 (r38 + 1)) (y58.len : Int))))] ⟨rfl, rfl, rfl, rfl, rfl, trivial⟩ ?_
      refine tr_loop_j (fun m L' h => ∃ (x0 : Option Addr) (x4 : Int) (x8 : Int) (x10 : Int) (x11 : Int), L' = [(0, (.pointer x0)), (4, (.int .i64 x4)), (8, (.int .i64 x8)), (10, (.int .i64 x10)), (11, (.int .i64 x11))] ∧ F.table_Table_int_Drop.l1 Q m x0 x4 x8 x10 x11 h) ?_ ?_ m110 ⟨_, _, _, _, _, rfl, H⟩
      · rintro L' h ⟨_, _, _, _, _, _, H⟩; exact H
      · rintro q1 L' h ⟨x0, x4, x8, x10, x11, rfl, H⟩
        unfold F.table_Table_int_Drop.l1 at H
        refine tr_seq ?_
        refine tr_seq ?_
        refine tr_region ?_
        refine tr_p (y_move rfl) rfl rfl ?_
        obtain ⟨a61, e62, H⟩ := H
        refine tr_p (f_nn rfl e62) rfl rfl ?_
        refine tr_p (y_fa (off := 0) Try.runUnderlying73 fo_73_0 rfl) rfl rfl ?_
        obtain ⟨y63, k64, H⟩ := H
        refine tr_h (y_ld Try.isAgg71 rfl) k64 rfl rfl ?_
        refine tr_p (y_move rfl) rfl rfl ?_
        obtain ⟨a65, e66, H⟩ := H
        refine tr_p (f_idx (s := y63) Try.runUnderlying71 Try.sizeOf77 rfl rfl e66) rfl rfl ?_
        refine tr_p (y_fa (off := 0) Try.runUnderlying77 fo_77_0 rfl) rfl rfl ?_
        obtain ⟨y67, k68, H⟩ := H
        refine tr_h (y_ld Try.isAgg5 rfl) k68 rfl rfl ?_
        refine tr_p (y_neq rfl rfl) rfl rfl ?_
        refine tr_nil ?_
        refine tr_thenN ?_
        refine tr_cond rfl (fun g69 => ?_) (fun g69 => ?_)
        · replace H := H.1 g69
          refine tr_skip ?_
          refine tr_thenN ?_
          refine tr_seq_j (fun L' h => ∃ (x0 : Option Addr) (x4 : Int) (x8 : Int) (x10 : Int) (x11 : Int), L' = [(0, (.pointer x0)), (4, (.int .i64 x4)), (8, (.int .i64 x8)), (10, (.int .i64 x10)), (11, (.int .i64 x11))] ∧ F.table_Table_int_Drop.j2 Q (F.table_Table_int_Drop.l1 Q q1) x0 x4 x8 x10 x11 h) ?_ ?_
          · rintro L' h ⟨x0, x4, x8, x10, x11, rfl, H⟩
            unfold F.table_Table_int_Drop.j2 at H
            refine tr_region ?_
            refine tr_p (y_move rfl) rfl rfl ?_
            refine tr_p (y_add rfl rfl) rfl rfl ?_
            refine tr_p (y_move rfl) rfl rfl ?_
            obtain ⟨e70, H⟩ := H
            refine tr_p (y_rem rfl rfl e70) rfl rfl ?_
            refine tr_p (y_assign rfl) rfl rfl ?_
            refine tr_nil ?_
            refine tr_thenN ?_
            exact tr_join [(0, (.pointer x0)), (4, (.int .i64 x4)), (8, (.int .i64 x8)), (10, (.int .i64 x10)), (11, (.int .i64 (Int.tmod (IntKind.wrap .i64 (x11 + 1)) x10)))] ⟨rfl, rfl, rfl, rfl, rfl, trivial⟩ ⟨_, _, _, _, _, rfl, H⟩
          · refine tr_block ?_
            refine tr_seq ?_
            refine tr_draw mixed [0, 1, 3, 7, 0, 16, 48, 112, 0, 496, 1008, 2032, 4095, 8191] (by kernel_rfl) ?_
            refine g_p 0 1 rfl (by kernel_rfl) (y_move rfl) rfl rfl ?_
            obtain ⟨a71, e72, H⟩ := H
            refine g_p 1 3 rfl (by kernel_rfl) (f_nn rfl e72) rfl rfl ?_
            refine g_p 2 7 rfl (by kernel_rfl) (y_fa (off := 0) Try.runUnderlying73 fo_73_0 rfl) rfl rfl ?_
            obtain ⟨y73, k74, H⟩ := H
            refine g_h 3 15 rfl (by kernel_rfl) (y_ld Try.isAgg71 rfl) k74 rfl rfl ?_
            refine g_p 4 31 rfl (by kernel_rfl) (y_move rfl) rfl rfl ?_
            obtain ⟨a75, e76, H⟩ := H
            refine g_p 5 63 rfl (by kernel_rfl) (f_nn rfl e76) rfl rfl ?_
            refine g_p 6 127 rfl (by kernel_rfl) (y_fa (off := 0) Try.runUnderlying73 fo_73_0 rfl) rfl rfl ?_
            obtain ⟨y77, k78, H⟩ := H
            refine g_h 7 255 rfl (by kernel_rfl) (y_ld Try.isAgg71 rfl) k78 rfl rfl ?_
            refine g_p 8 511 rfl (by kernel_rfl) (y_move rfl) rfl rfl ?_
            obtain ⟨a79, e80, H⟩ := H
            refine g_p 9 1023 rfl (by kernel_rfl) (f_idx (s := y77) Try.runUnderlying71 Try.sizeOf77 rfl rfl e80) rfl rfl ?_
            refine g_p 10 2047 rfl (by kernel_rfl) (y_fa (off := 1) Try.runUnderlying77 fo_77_1 rfl) rfl rfl ?_
            obtain ⟨y81, k82, H⟩ := H
            refine g_h 11 4095 rfl (by kernel_rfl) (y_ld Try.isAgg9 rfl) k82 rfl rfl ?_
            refine g_e 12 8191 [] (by kernel_rfl) rfl (by kernel_rfl) (e_call Try.call48 rfl (F.table_home_int_ok H)) rfl rfl ?_
            rintro _ h83 ⟨r84, rfl, H⟩
            refine ⟨trivial, ?_⟩
            refine g_p 13 16383 rfl (by kernel_rfl) (y_assign rfl) rfl rfl ?_
            refine g_d (by kernel_rfl) ?_
            refine tr_thenN ?_
            refine tr_seq ?_
            refine tr_draw mixed [0, 0, 3, 0, 15, 0, 63, 0, 0, 384, 0, 1920, 0, 8064, 16383] (by kernel_rfl) ?_
            refine g_p 0 1 rfl (by kernel_rfl) (y_move rfl) rfl rfl ?_
            refine g_p 1 3 rfl (by kernel_rfl) (y_move rfl) rfl rfl ?_
            refine g_p 2 7 rfl (by kernel_rfl) (y_sub rfl rfl) rfl rfl ?_
            refine g_p 3 15 rfl (by kernel_rfl) (y_move rfl) rfl rfl ?_
            refine g_p 4 31 rfl (by kernel_rfl) (y_add rfl rfl) rfl rfl ?_
            refine g_p 5 63 rfl (by kernel_rfl) (y_move rfl) rfl rfl ?_
            obtain ⟨e85, H⟩ := H
            refine g_p 6 127 rfl (by kernel_rfl) (y_rem rfl rfl e85) rfl rfl ?_
            refine g_p 7 255 rfl (by kernel_rfl) (y_move rfl) rfl rfl ?_
            refine g_p 8 511 rfl (by kernel_rfl) (y_move rfl) rfl rfl ?_
            refine g_p 9 1023 rfl (by kernel_rfl) (y_sub rfl rfl) rfl rfl ?_
            refine g_p 10 2047 rfl (by kernel_rfl) (y_move rfl) rfl rfl ?_
            refine g_p 11 4095 rfl (by kernel_rfl) (y_add rfl rfl) rfl rfl ?_
            refine g_p 12 8191 rfl (by kernel_rfl) (y_move rfl) rfl rfl ?_
            obtain ⟨e86, H⟩ := H
            refine g_p 13 16383 rfl (by kernel_rfl) (y_rem rfl rfl e86) rfl rfl ?_
            refine g_p 14 32767 rfl (by kernel_rfl) (y_geq rfl rfl) rfl rfl ?_
            refine g_d (by kernel_rfl) ?_
            refine tr_thenN ?_
            refine tr_cond rfl (fun g87 => ?_) (fun g87 => ?_)
            · replace H := H.1 g87
              refine tr_draw mixed [0, 1, 3, 7, 0, 0, 32, 96, 224, 0, 992, 2016, 0, 4095, 12287, 32767] (by kernel_rfl) ?_
              refine g_p 0 1 rfl (by kernel_rfl) (y_move rfl) rfl rfl ?_
              obtain ⟨a88, e89, H⟩ := H
              refine g_p 1 3 rfl (by kernel_rfl) (f_nn rfl e89) rfl rfl ?_
              refine g_p 2 7 rfl (by kernel_rfl) (y_fa (off := 0) Try.runUnderlying73 fo_73_0 rfl) rfl rfl ?_
              obtain ⟨y90, k91, H⟩ := H
              refine g_h 3 15 rfl (by kernel_rfl) (y_ld Try.isAgg71 rfl) k91 rfl rfl ?_
              refine g_p 4 31 rfl (by kernel_rfl) (y_move rfl) rfl rfl ?_
              refine g_p 5 63 rfl (by kernel_rfl) (y_move rfl) rfl rfl ?_
              obtain ⟨a92, e93, H⟩ := H
              refine g_p 6 127 rfl (by kernel_rfl) (f_nn rfl e93) rfl rfl ?_
              refine g_p 7 255 rfl (by kernel_rfl) (y_fa (off := 0) Try.runUnderlying73 fo_73_0 rfl) rfl rfl ?_
              obtain ⟨y94, k95, H⟩ := H
              refine g_h 8 511 rfl (by kernel_rfl) (y_ld Try.isAgg71 rfl) k95 rfl rfl ?_
              refine g_p 9 1023 rfl (by kernel_rfl) (y_move rfl) rfl rfl ?_
              obtain ⟨a96, e97, H⟩ := H
              refine g_p 10 2047 rfl (by kernel_rfl) (f_idx (s := y94) Try.runUnderlying71 Try.sizeOf77 rfl rfl e97) rfl rfl ?_
              obtain ⟨y98, k99, H⟩ := H
              refine g_h 11 4095 rfl (by kernel_rfl) (y_ldS Try.isAgg77 Try.sizeOf77 rfl rfl) k99 rfl rfl ?_
              refine g_p 12 8191 rfl (by kernel_rfl) (y_move rfl) rfl rfl ?_
              obtain ⟨a100, e101, H⟩ := H
              refine g_p 13 16383 rfl (by kernel_rfl) (f_idx (s := y90) Try.runUnderlying71 Try.sizeOf77 rfl rfl e101) rfl rfl ?_
              refine g_e 14 32767 [] (by kernel_rfl) rfl (by kernel_rfl) (f_store (vs := y98.cells) Try.sizeOf77 rfl rfl cellsOfStruct rfl (by intro v hv; exact ones_S_table_place_int _ v hv) H) rfl rfl ?_
              rintro _ h102 ⟨rfl, H⟩
              refine ⟨trivial, ?_⟩
              refine g_e 15 65535 [] (by kernel_rfl) rfl (by kernel_rfl) (yp_ev (y_assign rfl)) rfl rfl ?_
              rintro _ _ ⟨rfl, rfl⟩
              refine ⟨trivial, ?_⟩
              refine g_d (by kernel_rfl) ?_
              refine tr_blockN ?_
              refine tr_thenN ?_
              exact tr_join [(0, (.pointer x0)), (4, (.int .i64 x4)), (8, (.int .i64 x11)), (10, (.int .i64 x10)), (11, (.int .i64 x11))] ⟨rfl, rfl, rfl, rfl, rfl, trivial⟩ ⟨_, _, _, _, _, rfl, H⟩
            · replace H := H.2 g87
              refine tr_skip ?_
              refine tr_blockN ?_
              refine tr_thenN ?_
              exact tr_join [(0, (.pointer x0)), (4, (.int .i64 x4)), (8, (.int .i64 x8)), (10, (.int .i64 x10)), (11, (.int .i64 x11))] ⟨rfl, rfl, rfl, rfl, rfl, trivial⟩ ⟨_, _, _, _, _, rfl, H⟩
        · replace H := H.2 g69
          refine tr_exit ?_
          refine tr_thenE ?_
          refine tr_thenE ?_
          refine tr_hit ?_
          refine tr_thenN ?_
          refine tr_seq ?_
          refine tr_region ?_
          refine tr_p (y_move rfl) rfl rfl ?_
          obtain ⟨a103, e104, H⟩ := H
          refine tr_p (f_nn rfl e104) rfl rfl ?_
          refine tr_p (y_fa (off := 0) Try.runUnderlying73 fo_73_0 rfl) rfl rfl ?_
          obtain ⟨y105, k106, H⟩ := H
          refine tr_h (y_ld Try.isAgg71 rfl) k106 rfl rfl ?_
          refine tr_p (y_move rfl) rfl rfl ?_
          refine tr_p (f_build rfl (bd_77_ )) rfl rfl ?_
          obtain ⟨a107, e108, H⟩ := H
          refine tr_p (f_idx (s := y105) Try.runUnderlying71 Try.sizeOf77 rfl rfl e108) rfl rfl ?_
          refine tr_e (f_store (vs := (⟨0, (⟨#[]⟩ : ByteArray), 0⟩ : S_table_place_int).cells) Try.sizeOf77 rfl rfl cellsOfStruct rfl (by intro v hv; exact ones_S_table_place_int _ v hv) H) rfl rfl ?_
          rintro _ h109 ⟨rfl, H⟩
          refine tr_nil ?_
          refine tr_thenN ?_
          refine tr_seq ?_
          refine tr_region ?_
          refine tr_p (y_move rfl) rfl rfl ?_
          refine tr_p (y_assign rfl) rfl rfl ?_
          refine tr_p (y_assign rfl) rfl rfl ?_
          refine tr_nil ?_
          refine tr_thenN ?_
          refine tr_ret ?_
          exact tr_ret2 rfl rfl rfl ⟨_, _, rfl, H⟩

/-- spate/spatelaw6.do -/
def F.spatelaw6_do (p0 : Option Addr) (p1 : S_spatelaw6_Step) (h : H) (Q : H → Prop) : Prop :=
  new h p1.cells.toArray ty_46 fun a2 h1 =>
  ldI .i64 h1 (a2.add 0) fun y3 =>
  (((y3 == 1)) = true →
  ldS h1 (a2.add 2) fun y6 =>
  ldI .i64 h1 (a2.add 1) fun y8 =>
  F.table_Table_int_Put p0 y6 y8 h1 fun h10 =>
  Q h10) ∧
  (((y3 == 1)) = false →
  (((y3 == 3)) = true →
  ldS h1 (a2.add 2) fun y12 =>
  F.table_Table_int_Drop p0 y12 h1 fun r15 r16 h14 =>
  Q h14) ∧
  (((y3 == 3)) = false →
  (((y3 == 4)) = true →
  ldI .i64 h1 (a2.add 1) fun y18 =>
  F.table_Table_int_Move p0 y18 h1 fun r21 h20 =>
  Q h20) ∧
  (((y3 == 4)) = false →
  Q h1)))
theorem F.spatelaw6_do_ok {p0 : Option Addr} {p1 : S_spatelaw6_Step} {h : H} {Q : H → Prop} (H : F.spatelaw6_do p0 p1 h Q) : Fn PP 30 ([(.pointer p0), (.agg p1.cells.toArray)] : List Value).toArray h fun r h' => r = .tuple #[] ∧ Q  h' := by
  unfold F.spatelaw6_do at H
  refine fn_of Try.func30 Try.ntmps30 rfl rfl fun w0 => ?_
  refine tr_sub [(0, (.pointer p0)), (1, (.agg p1.cells.toArray))] ⟨rfl, rfl, trivial⟩ ?_
  refine tr_seq ?_
  refine tr_region ?_
  refine tr_e (f_box (cs := p1.cells.toArray) rfl rfl H) rfl rfl ?_
  rintro _ h1 ⟨a2, rfl, H⟩
  refine tr_nil ?_
  refine tr_thenN ?_
  refine tr_seq ?_
  refine tr_region ?_
  refine tr_p (y_fa (off := 0) Try.runUnderlying46 fo_46_0 rfl) rfl rfl ?_
  obtain ⟨y3, k4, H⟩ := H
  refine tr_h (y_ld Try.isAgg3 rfl) k4 rfl rfl ?_
  refine tr_nil ?_
  refine tr_thenN ?_
  refine tr_block ?_
  refine tr_seq ?_
  refine tr_region ?_
  refine tr_p (y_eql rfl rfl) rfl rfl ?_
  refine tr_p (y_assign rfl) rfl rfl ?_
  refine tr_nil ?_
  refine tr_thenN ?_
  refine tr_cond rfl (fun g5 => ?_) (fun g5 => ?_)
  · replace H := H.1 g5
    refine tr_region ?_
    refine tr_p (y_move rfl) rfl rfl ?_
    refine tr_p (y_fa (off := 2) Try.runUnderlying46 fo_46_2 rfl) rfl rfl ?_
    obtain ⟨y6, k7, H⟩ := H
    refine tr_h (y_ld Try.isAgg9 rfl) k7 rfl rfl ?_
    refine tr_p (y_fa (off := 1) Try.runUnderlying46 fo_46_1 rfl) rfl rfl ?_
    obtain ⟨y8, k9, H⟩ := H
    refine tr_h (y_ld Try.isAgg3 rfl) k9 rfl rfl ?_
    refine tr_e (e_call Try.call20 rfl (F.table_Table_int_Put_ok H)) rfl rfl ?_
    rintro _ h10 ⟨rfl, H⟩
    refine tr_nil ?_
    refine tr_blockN ?_
    exact tr_end0 rfl ⟨rfl, H⟩
  · replace H := H.2 g5
    refine tr_seq ?_
    refine tr_region ?_
    refine tr_p (y_eql rfl rfl) rfl rfl ?_
    refine tr_p (y_assign rfl) rfl rfl ?_
    refine tr_nil ?_
    refine tr_thenN ?_
    refine tr_cond rfl (fun g11 => ?_) (fun g11 => ?_)
    · replace H := H.1 g11
      refine tr_region ?_
      refine tr_p (y_move rfl) rfl rfl ?_
      refine tr_p (y_fa (off := 2) Try.runUnderlying46 fo_46_2 rfl) rfl rfl ?_
      obtain ⟨y12, k13, H⟩ := H
      refine tr_h (y_ld Try.isAgg9 rfl) k13 rfl rfl ?_
      refine tr_e (e_call Try.call22 rfl (F.table_Table_int_Drop_ok H)) rfl rfl ?_
      rintro _ h14 ⟨r15, r16, rfl, H⟩
      refine tr_nil ?_
      refine tr_blockN ?_
      exact tr_end0 rfl ⟨rfl, H⟩
    · replace H := H.2 g11
      refine tr_seq ?_
      refine tr_region ?_
      refine tr_p (y_eql rfl rfl) rfl rfl ?_
      refine tr_p (y_assign rfl) rfl rfl ?_
      refine tr_nil ?_
      refine tr_thenN ?_
      refine tr_cond rfl (fun g17 => ?_) (fun g17 => ?_)
      · replace H := H.1 g17
        refine tr_region ?_
        refine tr_p (y_move rfl) rfl rfl ?_
        refine tr_p (y_fa (off := 1) Try.runUnderlying46 fo_46_1 rfl) rfl rfl ?_
        obtain ⟨y18, k19, H⟩ := H
        refine tr_h (y_ld Try.isAgg3 rfl) k19 rfl rfl ?_
        refine tr_e (e_call Try.call26 rfl (F.table_Table_int_Move_ok H)) rfl rfl ?_
        rintro _ h20 ⟨r21, rfl, H⟩
        refine tr_nil ?_
        refine tr_blockN ?_
        exact tr_end0 rfl ⟨rfl, H⟩
      · replace H := H.2 g17
        refine tr_skip ?_
        refine tr_blockN ?_
        exact tr_end0 rfl ⟨rfl, H⟩

/-- slices.Clone[[]spate/table.place[int],spate/table.place[int]] -/
def F.slices_Clone_Sltable_place_int_table_place_int (p0 : Sl) (h : H) (Q : Sl → H → Prop) : Prop :=
  (p0.ptr.isNone = true →
  Q (⟨none, 0, 0⟩ : Sl) h) ∧
  (p0.ptr.isNone = false →
  newL h (([]).toArray) ty_77 0 fun s3 h2 =>
  runL PP (Builtin.append_ #[71, 71] 71 #[s3.enc, p0.enc]) h2 fun s5 h4 =>
  Q s5 h4)
theorem F.slices_Clone_Sltable_place_int_table_place_int_ok {p0 : Sl} {h : H} {Q : Sl → H → Prop} (H : F.slices_Clone_Sltable_place_int_table_place_int p0 h Q) : Fn PP 49 ([p0.enc] : List Value).toArray h fun r h' => ∃ r0, r = r0.enc ∧ Q r0 h' := by
  unfold F.slices_Clone_Sltable_place_int_table_place_int at H
  refine fn_of Try.func49 Try.ntmps49 rfl rfl fun w0 => ?_
  refine tr_sub [(0, p0.enc)] ⟨rfl, trivial⟩ ?_
  refine tr_seq ?_
  refine tr_region ?_
  refine tr_p (y_assign rfl) rfl rfl ?_
  refine tr_nil ?_
  refine tr_thenN ?_
  refine tr_seq ?_
  refine tr_seq ?_
  refine tr_region ?_
  refine tr_p (y_move rfl) rfl rfl ?_
  refine tr_p (y_lnil_eql Try.runUnderlying71 (s := p0) rfl rfl) rfl rfl ?_
  refine tr_nil ?_
  refine tr_thenN ?_
  refine tr_cond rfl (fun g1 => ?_) (fun g1 => ?_)
  · replace H := H.1 g1
    refine tr_seq ?_
    refine tr_region ?_
    refine tr_p (y_assign rfl) rfl rfl ?_
    refine tr_nil ?_
    refine tr_thenN ?_
    refine tr_ret ?_
    refine tr_thenR ?_
    exact tr_ret1 rfl rfl ⟨_, rfl, H⟩
  · replace H := H.2 g1
    refine tr_skip ?_
    refine tr_thenN ?_
    refine tr_seq ?_
    refine tr_region ?_
    refine tr_e (f_buildL (cs := ([]).toArray) rfl rfl (bl_71_0_) H) rfl rfl ?_
    rintro _ h2 ⟨s3, rfl, H⟩
    refine tr_p (y_move rfl) rfl rfl ?_
    refine tr_e (f_app rfl H) rfl rfl ?_
    rintro _ h4 ⟨s5, rfl, H⟩
    refine tr_p (y_assign rfl) rfl rfl ?_
    refine tr_nil ?_
    refine tr_thenN ?_
    refine tr_ret ?_
    exact tr_ret1 rfl rfl ⟨_, rfl, H⟩

/-- (*spate/table.Table[int]).Twin -/
def F.table_Table_int_Twin (p0 : Option Addr) (h : H) (Q : (Option Addr) → H → Prop) : Prop :=
  nn p0 fun a1 =>
  ld_S_table_Table_int h a1 fun y3 =>
  new h (((⟨(⟨none, 0, 0⟩ : Sl), (⟨none, 0, 0⟩ : Sl), 0, 0⟩ : S_table_Table_int) : S_table_Table_int).cells.toArray) ty_73 fun a6 h5 =>
  stH h5 a6 y3.cells fun h7 =>
  nn p0 fun a8 =>
  ldL h7 (a8.add 0) fun y10 =>
  nn p0 fun a12 =>
  ldL h7 (a12.add 1) fun y14 =>
  F.slices_Clone_Sltable_place_int_table_place_int y10 h7 fun r17 h16 =>
  cellH h16 (a12.add 1) = some y14.enc ∧
  F.slices_Clone_Sltable_place_int_table_place_int y14 h16 fun r20 h19 =>
  stH h19 (a6.add 0) [r17.enc] fun h21 =>
  stH h21 (a6.add 1) [r20.enc] fun h22 =>
  Q (some a6) h22
theorem F.table_Table_int_Twin_ok {p0 : Option Addr} {h : H} {Q : (Option Addr) → H → Prop} (H : F.table_Table_int_Twin p0 h Q) : Fn PP 28 ([(.pointer p0)] : List Value).toArray h fun r h' => ∃ r0, r = (.pointer r0) ∧ Q r0 h' := by
  unfold F.table_Table_int_Twin at H
  refine fn_of Try.func28 Try.ntmps28 rfl rfl fun w0 => ?_
  refine tr_sub [(0, (.pointer p0))] ⟨rfl, trivial⟩ ?_
  refine tr_seq ?_
  refine tr_region ?_
  refine tr_p (y_assign rfl) rfl rfl ?_
  refine tr_nil ?_
  refine tr_thenN ?_
  refine tr_seq ?_
  refine tr_region ?_
  refine tr_p (y_move rfl) rfl rfl ?_
  obtain ⟨a1, e2, H⟩ := H
  refine tr_p (f_nn rfl e2) rfl rfl ?_
  obtain ⟨y3, k4, H⟩ := H
  refine tr_h (y_ldS Try.isAgg73 Try.sizeOf73 rfl rfl) k4 rfl rfl ?_
  refine tr_e (f_alloc (cs := ((⟨(⟨none, 0, 0⟩ : Sl), (⟨none, 0, 0⟩ : Sl), 0, 0⟩ : S_table_Table_int) : S_table_Table_int).cells.toArray) Try.zeroValue73 rfl H) rfl rfl ?_
  rintro _ h5 ⟨a6, rfl, H⟩
  refine tr_e (f_store (vs := y3.cells) Try.sizeOf73 rfl rfl cellsOfStruct rfl (by intro v hv; exact ones_S_table_Table_int _ v hv) H) rfl rfl ?_
  rintro _ h7 ⟨rfl, H⟩
  refine tr_nil ?_
  refine tr_thenN ?_
  refine tr_seq ?_
  refine tr_draw mixed [0, 1, 3, 7, 15, 0, 32, 96, 224, 511, 1023, 2047, 4095, 8191] (by kernel_rfl) ?_
  refine g_p 0 1 rfl (by kernel_rfl) (y_move rfl) rfl rfl ?_
  obtain ⟨a8, e9, H⟩ := H
  refine g_p 1 3 rfl (by kernel_rfl) (f_nn rfl e9) rfl rfl ?_
  refine g_p 2 7 rfl (by kernel_rfl) (y_fa (off := 0) Try.runUnderlying73 fo_73_0 rfl) rfl rfl ?_
  obtain ⟨y10, k11, H⟩ := H
  refine g_h 3 15 rfl (by kernel_rfl) (y_ld Try.isAgg71 rfl) k11 rfl rfl ?_
  refine g_p 5 47 rfl (by kernel_rfl) (y_move rfl) rfl rfl ?_
  obtain ⟨a12, e13, H⟩ := H
  refine g_p 6 111 rfl (by kernel_rfl) (f_nn rfl e13) rfl rfl ?_
  refine g_p 7 239 rfl (by kernel_rfl) (y_fa (off := 1) Try.runUnderlying73 fo_73_1 rfl) rfl rfl ?_
  obtain ⟨y14, k15, H⟩ := H
  refine g_h 8 495 rfl (by kernel_rfl) (y_ld Try.isAgg71 rfl) k15 rfl rfl ?_
  refine g_e 4 511 [(8, fun h => cellH h (a12.add 1) = some y14.enc)] (by kernel_rfl) rfl (by kernel_rfl) (e_call Try.call49 rfl (F.slices_Clone_Sltable_place_int_table_place_int_ok H)) rfl rfl ?_
  rintro _ h16 ⟨r17, rfl, H⟩
  obtain ⟨k18, H⟩ := H
  refine ⟨And.intro k18 trivial, ?_⟩
  refine g_e 9 1023 [] (by kernel_rfl) rfl (by kernel_rfl) (e_call Try.call49 rfl (F.slices_Clone_Sltable_place_int_table_place_int_ok H)) rfl rfl ?_
  rintro _ h19 ⟨r20, rfl, H⟩
  refine ⟨trivial, ?_⟩
  refine g_p 10 2047 rfl (by kernel_rfl) (y_fa (off := 0) Try.runUnderlying73 fo_73_0 rfl) rfl rfl ?_
  refine g_e 11 4095 [] (by kernel_rfl) rfl (by kernel_rfl) (f_store (vs := [r17.enc]) Try.sizeOf71 rfl rfl rfl rfl (one1 rfl) H) rfl rfl ?_
  rintro _ h21 ⟨rfl, H⟩
  refine ⟨trivial, ?_⟩
  refine g_p 12 8191 rfl (by kernel_rfl) (y_fa (off := 1) Try.runUnderlying73 fo_73_1 rfl) rfl rfl ?_
  refine g_e 13 16383 [] (by kernel_rfl) rfl (by kernel_rfl) (f_store (vs := [r20.enc]) Try.sizeOf71 rfl rfl rfl rfl (one1 rfl) H) rfl rfl ?_
  rintro _ h22 ⟨rfl, H⟩
  refine ⟨trivial, ?_⟩
  refine g_d (by kernel_rfl) ?_
  refine tr_thenN ?_
  refine tr_seq ?_
  refine tr_region ?_
  refine tr_p (y_assign rfl) rfl rfl ?_
  refine tr_nil ?_
  refine tr_thenN ?_
  refine tr_ret ?_
  exact tr_ret1 rfl rfl ⟨_, rfl, H⟩

def F.maps_Keys_map_string_int_string_int_1.l1 (Q : H → Prop) : Nat → Value → Addr → H → Prop
  | 0, _, _, _ => False
  | q1 + 1, x0, x5, h =>
    RunS PP (Instr.next (.pointer (some x5)) false 0) h fun u h5 => ∃ (b6 : Bool) (t7 : Array Value), u = (.tuple (#[.bool b6] ++ t7)) ∧
    (b6 = true →
    RunS PP (Instr.entry (.pointer (some x5))) h5 fun u h9 => ∃ (r10 : ByteArray) (r11 : Int), u = (.tuple #[(.string r10), (.int .i64 r11)]) ∧
    CV PP x0 [(.string r10)] h9 fun u h12 => ∃ (r13 : Bool), u = (.bool r13) ∧
    ((!r13) = true →
    Q h12) ∧
    ((!r13) = false →
    (F.maps_Keys_map_string_int_string_int_1.l1 Q q1) x0 x5 h12)) ∧
    (b6 = false →
    Q h5)
/-- maps.Keys[map[string]int,string,int]$1 -/
def F.maps_Keys_map_string_int_string_int_1 (p0 : Value) (p1 : Addr) (h : H) (Q : H → Prop) : Prop :=
  ldV h p1 fun y1 =>
  RunS PP (Instr.range 50 y1) h fun u h3 => ∃ a4 : Addr, u = (.pointer (some a4)) ∧
  ∃ m, F.maps_Keys_map_string_int_string_int_1.l1 Q m p0 a4 h3
theorem F.maps_Keys_map_string_int_string_int_1_ok {p0 : Value} {p1 : Addr} {h : H} {Q : H → Prop} (H : F.maps_Keys_map_string_int_string_int_1 p0 p1 h Q) : Fn PP 69 ([p0, (.pointer (some p1))] : List Value).toArray h fun r h' => r = .tuple #[] ∧ Q  h' := by
  unfold F.maps_Keys_map_string_int_string_int_1 at H
  refine fn_of Try.func69 Try.ntmps69 rfl rfl fun w0 => ?_
  refine tr_sub [(0, p0), (1, (.pointer (some p1)))] ⟨rfl, rfl, trivial⟩ ?_
  refine tr_seq ?_
  refine tr_region ?_
  obtain ⟨y1, k2, H⟩ := H
  refine tr_h (y_ld Try.isAgg50 rfl) k2 rfl rfl ?_
  refine tr_e (f_rg rfl H) rfl rfl ?_
  rintro _ h3 ⟨a4, rfl, H⟩
  refine tr_nil ?_
  refine tr_thenN ?_
  refine tr_block ?_
  obtain ⟨m15, H⟩ := H
  refine tr_sub [(0, p0), (5, (.pointer (some a4)))] ⟨rfl, rfl, trivial⟩ ?_
  refine tr_loop_j (fun m L' h => ∃ (x0 : Value) (x5 : Addr), L' = [(0, x0), (5, (.pointer (some x5)))] ∧ F.maps_Keys_map_string_int_string_int_1.l1 Q m x0 x5 h) ?_ ?_ m15 ⟨_, _, rfl, H⟩
  · rintro L' h ⟨_, _, _, H⟩; exact H
  · rintro q1 L' h ⟨x0, x5, rfl, H⟩
    unfold F.maps_Keys_map_string_int_string_int_1.l1 at H
    refine tr_seq ?_
    refine tr_region ?_
    refine tr_e (f_nx rfl H) rfl rfl ?_
    rintro _ h5 ⟨b6, t7, rfl, H⟩
    refine tr_p (y_ext0 (t := t7) rfl) rfl rfl ?_
    refine tr_nil ?_
    refine tr_thenN ?_
    refine tr_seq ?_
    refine tr_cond rfl (fun g8 => ?_) (fun g8 => ?_)
    · replace H := H.1 g8
      refine tr_skip ?_
      refine tr_thenN ?_
      refine tr_block ?_
      refine tr_seq ?_
      refine tr_region ?_
      refine tr_e (f_en rfl H) rfl rfl ?_
      rintro _ h9 ⟨r10, r11, rfl, H⟩
      refine tr_p (y_ext rfl rfl) rfl rfl ?_
      refine tr_p (y_assign rfl) rfl rfl ?_
      refine tr_nil ?_
      refine tr_thenN ?_
      refine tr_seq ?_
      refine tr_region ?_
      refine tr_p (y_move rfl) rfl rfl ?_
      refine tr_p (y_move rfl) rfl rfl ?_
      refine tr_e (e_callD rfl rfl H) rfl rfl ?_
      rintro _ h12 ⟨r13, rfl, H⟩
      refine tr_p (y_not rfl) rfl rfl ?_
      refine tr_nil ?_
      refine tr_thenN ?_
      refine tr_cond rfl (fun g14 => ?_) (fun g14 => ?_)
      · replace H := H.1 g14
        refine tr_ret ?_
        refine tr_blockR ?_
        refine tr_thenR ?_
        refine tr_blockR ?_
        exact tr_ret0 rfl ⟨rfl, H⟩
      · replace H := H.2 g14
        refine tr_skip ?_
        refine tr_blockN ?_
        refine tr_thenN ?_
        exact tr_join [(0, x0), (5, (.pointer (some x5)))] ⟨rfl, rfl, trivial⟩ ⟨_, _, rfl, H⟩
    · replace H := H.2 g8
      refine tr_exit ?_
      refine tr_thenE ?_
      refine tr_thenE ?_
      refine tr_hit ?_
      exact tr_end0 rfl ⟨rfl, H⟩

/-- maps.Keys[map[string]int,string,int] -/
def F.maps_Keys_map_string_int_string_int (p0 : Value) (h : H) (Q : Value → H → Prop) : Prop :=
  p0.cells = #[p0] ∧
  new h #[p0] ty_50 fun a2 h1 =>
  Q (.func (.func 69) #[] #[(.pointer (some a2))]) h1
theorem F.maps_Keys_map_string_int_string_int_ok {p0 : Value} {h : H} {Q : Value → H → Prop} (H : F.maps_Keys_map_string_int_string_int p0 h Q) : Fn PP 51 ([p0] : List Value).toArray h fun r h' => ∃ r0, r = r0 ∧ Q r0 h' := by
  unfold F.maps_Keys_map_string_int_string_int at H
  refine fn_of Try.func51 Try.ntmps51 rfl rfl fun w0 => ?_
  refine tr_sub [(0, p0)] ⟨rfl, trivial⟩ ?_
  refine tr_seq ?_
  refine tr_region ?_
  refine tr_e (f_box (cs := #[p0]) rfl H.1 H.2) rfl rfl ?_
  rintro _ h1 ⟨a2, rfl, H⟩
  refine tr_p (y_assign rfl) rfl rfl ?_
  refine tr_nil ?_
  refine tr_thenN ?_
  refine tr_seq ?_
  refine tr_region ?_
  refine tr_p (y_fn rfl rfl) rfl rfl ?_
  refine tr_p (y_assign rfl) rfl rfl ?_
  refine tr_nil ?_
  refine tr_thenN ?_
  refine tr_ret ?_
  exact tr_ret1 rfl rfl ⟨_, rfl, H⟩

def F.table_Table_int_All_1.l1 (Q : H → Prop) : Nat → Value → Addr → Sl → Int → Int → H → Prop
  | 0, _, _, _, _, _, _ => False
  | q1 + 1, x0, x2, x6, x7, x8, h =>
    ((decide (x8 < x7)) = true →
    idxA x6 x8 1 fun a4 =>
    ldS h a4 fun y6 =>
    ldV h x2 fun y8 =>
    RunS PP (Instr.lookup 50 y8 (.string y6) false) h fun u h10 => ∃ r11 : Int, u = (.int .i64 r11) ∧
    CV PP x0 [(.string y6), (.int .i64 r11)] h10 fun u h12 => ∃ (r13 : Bool), u = (.bool r13) ∧
    ((!r13) = true →
    Q h12) ∧
    ((!r13) = false →
    (F.table_Table_int_All_1.l1 Q q1) x0 x2 x6 x7 (IntKind.wrap .i64 (x8 + 1)) h12)) ∧
    ((decide (x8 < x7)) = false →
    Q h)
/-- (*spate/table.Table[int]).All$1 -/
def F.table_Table_int_All_1 (p0 : Value) (p1 : Addr) (p2 : Addr) (h : H) (Q : H → Prop) : Prop :=
  ldL h p1 fun y1 =>
  ∃ m, F.table_Table_int_All_1.l1 Q m p0 p2 y1 (y1.len : Int) 0 h
theorem F.table_Table_int_All_1_ok {p0 : Value} {p1 : Addr} {p2 : Addr} {h : H} {Q : H → Prop} (H : F.table_Table_int_All_1 p0 p1 p2 h Q) : Fn PP 52 ([p0, (.pointer (some p1)), (.pointer (some p2))] : List Value).toArray h fun r h' => r = .tuple #[] ∧ Q  h' := by
  unfold F.table_Table_int_All_1 at H
  refine fn_of Try.func52 Try.ntmps52 rfl rfl fun w0 => ?_
  refine tr_sub [(0, p0), (1, (.pointer (some p1))), (2, (.pointer (some p2)))] ⟨rfl, rfl, rfl, trivial⟩ ?_
  refine tr_seq ?_
  refine tr_region ?_
  obtain ⟨y1, k2, H⟩ := H
  refine tr_h (y_ld Try.isAgg37 rfl) k2 rfl rfl ?_
  refine tr_p (y_len (ts := #[]) Try.runUnderlying37 (o := y1.ptr) (n := y1.len) (cap := y1.cap) rfl) rfl rfl ?_
  refine tr_p (y_move rfl) rfl rfl ?_
  refine tr_nil ?_
  refine tr_thenN ?_
  refine tr_block ?_
  obtain ⟨m15, H⟩ := H
  refine tr_sub [(0, p0), (2, (.pointer (some p2))), (6, y1.enc), (7, (.int .i64 (y1.len : Int))), (8, (.int .i64 0))] ⟨rfl, rfl, rfl, rfl, rfl, trivial⟩ ?_
  refine tr_loop_j (fun m L' h => ∃ (x0 : Value) (x2 : Addr) (x6 : Sl) (x7 : Int) (x8 : Int), L' = [(0, x0), (2, (.pointer (some x2))), (6, x6.enc), (7, (.int .i64 x7)), (8, (.int .i64 x8))] ∧ F.table_Table_int_All_1.l1 Q m x0 x2 x6 x7 x8 h) ?_ ?_ m15 ⟨_, _, _, _, _, rfl, H⟩
  · rintro L' h ⟨_, _, _, _, _, _, H⟩; exact H
  · rintro q1 L' h ⟨x0, x2, x6, x7, x8, rfl, H⟩
    unfold F.table_Table_int_All_1.l1 at H
    refine tr_seq ?_
    refine tr_region ?_
    refine tr_p (y_lss rfl rfl) rfl rfl ?_
    refine tr_nil ?_
    refine tr_thenN ?_
    refine tr_seq ?_
    refine tr_cond rfl (fun g3 => ?_) (fun g3 => ?_)
    · replace H := H.1 g3
      refine tr_skip ?_
      refine tr_thenN ?_
      refine tr_seq ?_
      refine tr_block ?_
      refine tr_seq ?_
      refine tr_region ?_
      obtain ⟨a4, e5, H⟩ := H
      refine tr_p (f_idx (s := x6) Try.runUnderlying37 Try.sizeOf9 rfl rfl e5) rfl rfl ?_
      obtain ⟨y6, k7, H⟩ := H
      refine tr_h (y_ld Try.isAgg9 rfl) k7 rfl rfl ?_
      refine tr_p (y_assign rfl) rfl rfl ?_
      refine tr_nil ?_
      refine tr_thenN ?_
      refine tr_seq ?_
      refine tr_region ?_
      refine tr_p (y_move rfl) rfl rfl ?_
      refine tr_p (y_move rfl) rfl rfl ?_
      obtain ⟨y8, k9, H⟩ := H
      refine tr_h (y_ld Try.isAgg50 rfl) k9 rfl rfl ?_
      refine tr_p (y_move rfl) rfl rfl ?_
      refine tr_e (f_lk rfl rfl H) rfl rfl ?_
      rintro _ h10 ⟨r11, rfl, H⟩
      refine tr_e (e_callD rfl rfl H) rfl rfl ?_
      rintro _ h12 ⟨r13, rfl, H⟩
      refine tr_p (y_not rfl) rfl rfl ?_
      refine tr_nil ?_
      refine tr_thenN ?_
      refine tr_cond rfl (fun g14 => ?_) (fun g14 => ?_)
      · replace H := H.1 g14
        refine tr_ret ?_
        refine tr_blockR ?_
        refine tr_thenR ?_
        refine tr_thenR ?_
        refine tr_blockR ?_
        exact tr_ret0 rfl ⟨rfl, H⟩
      · replace H := H.2 g14
        refine tr_skip ?_
        refine tr_blockN ?_
        refine tr_thenN ?_
        refine tr_region ?_
        refine tr_p (y_add rfl rfl) rfl rfl ?_
        refine tr_p (y_move rfl) rfl rfl ?_
        refine tr_nil ?_
        refine tr_thenN ?_
        exact tr_join [(0, x0), (2, (.pointer (some x2))), (6, x6.enc), (7, (.int .i64 x7)), (8, (.int .i64 (IntKind.wrap .i64 (x8 + 1))))] ⟨rfl, rfl, rfl, rfl, rfl, trivial⟩ ⟨_, _, _, _, _, rfl, H⟩
    · replace H := H.2 g3
      refine tr_exit ?_
      refine tr_thenE ?_
      refine tr_thenE ?_
      refine tr_hit ?_
      exact tr_end0 rfl ⟨rfl, H⟩

def F.table_Table_int_All.l2 (Q : Value → H → Prop) (C1 : Addr → Sl → Int → Int → H → Prop) : Nat → Addr → Sl → Int → Int → Sl → Int → Int → H → Prop
  | 0, _, _, _, _, _, _, _, _ => False
  | q2 + 1, x3, x22, x23, x24, x28, x29, x30, h =>
    ((decide (x30 < x29)) = true →
    idxA x28 x30 3 fun a26 =>
    ld_S_table_place_int h a26 fun y28 =>
    new h (((⟨0, (⟨#[]⟩ : ByteArray), 0⟩ : S_table_place_int) : S_table_place_int).cells.toArray) ty_77 fun a31 h30 =>
    stH h30 a31 y28.cells fun h32 =>
    ldI .u8 h32 (a31.add 0) fun y33 =>
    (((y33 == 1)) = true →
    ldV h32 x3 fun y36 =>
    ldS h32 (a31.add 1) fun y38 =>
    ldI .i64 h32 (a31.add 2) fun y40 =>
    RunS PP (Instr.mapUpdate 50 y36 (.string y38) (.int .i64 y40)) h32 fun _ h42 =>
    (F.table_Table_int_All.l2 Q C1 q2) x3 x22 x23 x24 x28 x29 (IntKind.wrap .i64 (x30 + 1)) h42) ∧
    (((y33 == 1)) = false →
    (F.table_Table_int_All.l2 Q C1 q2) x3 x22 x23 x24 x28 x29 (IntKind.wrap .i64 (x30 + 1)) h32)) ∧
    ((decide (x30 < x29)) = false →
    C1 x3 x22 x23 (IntKind.wrap .i64 (x24 + 1)) h)
def F.table_Table_int_All.l1 (Q : Value → H → Prop) : Nat → Addr → Sl → Int → Int → H → Prop
  | 0, _, _, _, _, _ => False
  | q1 + 1, x3, x22, x23, x24, h =>
    ((decide (x24 < x23)) = true →
    idxA x22 x24 1 fun a21 =>
    ldL h a21 fun y23 =>
    ∃ m, F.table_Table_int_All.l2 Q (F.table_Table_int_All.l1 Q q1) m x3 x22 x23 x24 y23 (y23.len : Int) 0 h) ∧
    ((decide (x24 < x23)) = false →
    ldV h x3 fun y44 =>
    F.maps_Keys_map_string_int_string_int y44 h fun r47 h46 =>
    F.slices_Sorted_string r47 h46 fun r49 h48 =>
    new h48 #[(⟨none, 0, 0⟩ : Sl).enc] ty_37 fun a51 h50 =>
    stH h50 a51 [r49.enc] fun h52 =>
    Q (.func (.func 52) #[] #[(.pointer (some a51)), (.pointer (some x3))]) h52)
/-- (*spate/table.Table[int]).All -/
def F.table_Table_int_All (p0 : Option Addr) (h : H) (Q : Value → H → Prop) : Prop :=
  nn p0 fun a1 =>
  ldI .i64 h (a1.add 3) fun y3 =>
  RunS PP (Instr.makeMap 50 (some (.int .i64 y3))) h fun m6 h5 =>
  new h5 #[(.map none)] ty_50 fun a8 h7 =>
  m6.cells = #[m6] ∧
  m6.oneCell' = true ∧
  stH h7 a8 [m6] fun h9 =>
  nn p0 fun a10 =>
  ldL h9 (a10.add 0) fun y12 =>
  nn p0 fun a14 =>
  ldL h9 (a14.add 1) fun y16 =>
  newL h9 #[y12.enc, y16.enc] ty_71 2 fun s19 h18 =>
  ∃ m, F.table_Table_int_All.l1 Q m a8 s19 (s19.len : Int) 0 h18
theorem F.table_Table_int_All_ok {p0 : Option Addr} {h : H} {Q : Value → H → Prop} (H : F.table_Table_int_All p0 h Q) : Fn PP 29 ([(.pointer p0)] : List Value).toArray h fun r h' => ∃ r0, r = r0 ∧ Q r0 h' := by
  unfold F.table_Table_int_All at H
  refine fn_of Try.func29 Try.ntmps29 rfl rfl fun w0 => ?_
  refine tr_sub [(0, (.pointer p0))] ⟨rfl, trivial⟩ ?_
  refine tr_seq ?_
  refine tr_region ?_
  refine tr_p (y_assign rfl) rfl rfl ?_
  refine tr_nil ?_
  refine tr_thenN ?_
  refine tr_seq ?_
  refine tr_region ?_
  refine tr_p (y_move rfl) rfl rfl ?_
  obtain ⟨a1, e2, H⟩ := H
  refine tr_p (f_nn rfl e2) rfl rfl ?_
  refine tr_p (y_fa (off := 3) Try.runUnderlying73 fo_73_3 rfl) rfl rfl ?_
  obtain ⟨y3, k4, H⟩ := H
  refine tr_h (y_ld Try.isAgg3 rfl) k4 rfl rfl ?_
  refine tr_e (f_mkS rfl H) rfl rfl ?_
  rintro m6 h5 H
  refine tr_e (f_alloc (cs := #[(.map none)]) Try.zeroValue50 rfl H) rfl rfl ?_
  rintro _ h7 ⟨a8, rfl, H⟩
  refine tr_e (f_store (vs := [m6]) Try.sizeOf50 rfl rfl (congrArg Array.toList H.1) rfl (one1 H.2.1) H.2.2) rfl rfl ?_
  rintro _ h9 ⟨rfl, H⟩
  refine tr_nil ?_
  refine tr_thenN ?_
  refine tr_seq ?_
  refine tr_seq ?_
  refine tr_draw mixed [0, 1, 3, 7, 0, 16, 48, 112, 255, 511, 0] (by kernel_rfl) ?_
  refine g_p 0 1 rfl (by kernel_rfl) (y_move rfl) rfl rfl ?_
  obtain ⟨a10, e11, H⟩ := H
  refine g_p 1 3 rfl (by kernel_rfl) (f_nn rfl e11) rfl rfl ?_
  refine g_p 2 7 rfl (by kernel_rfl) (y_fa (off := 0) Try.runUnderlying73 fo_73_0 rfl) rfl rfl ?_
  obtain ⟨y12, k13, H⟩ := H
  refine g_h 3 15 rfl (by kernel_rfl) (y_ld Try.isAgg71 rfl) k13 rfl rfl ?_
  refine g_p 4 31 rfl (by kernel_rfl) (y_move rfl) rfl rfl ?_
  obtain ⟨a14, e15, H⟩ := H
  refine g_p 5 63 rfl (by kernel_rfl) (f_nn rfl e15) rfl rfl ?_
  refine g_p 6 127 rfl (by kernel_rfl) (y_fa (off := 1) Try.runUnderlying73 fo_73_1 rfl) rfl rfl ?_
  obtain ⟨y16, k17, H⟩ := H
  refine g_h 7 255 rfl (by kernel_rfl) (y_ld Try.isAgg71 rfl) k17 rfl rfl ?_
  refine g_p 10 1279 rfl (by kernel_rfl) (y_move rfl) rfl rfl ?_
  refine g_e 8 1535 [] (by kernel_rfl) rfl (by kernel_rfl) (f_buildL (cs := #[y12.enc, y16.enc]) rfl rfl (bl_81_2_0_1 y12 y16) H) rfl rfl ?_
  rintro _ h18 ⟨s19, rfl, H⟩
  refine ⟨trivial, ?_⟩
  refine g_p 9 2047 rfl (by kernel_rfl) (y_len (ts := #[]) Try.runUnderlying81 (o := s19.ptr) (n := s19.len) (cap := s19.cap) rfl) rfl rfl ?_
  refine g_d (by kernel_rfl) ?_
  refine tr_thenN ?_
  refine tr_block ?_
  obtain ⟨m53, H⟩ := H
  refine tr_sub [(3, (.pointer (some a8))), (22, s19.enc), (23, (.int .i64 (s19.len : Int))), (24, (.int .i64 0))] ⟨rfl, rfl, rfl, rfl, trivial⟩ ?_
  refine tr_loop_j (fun m L' h => ∃ (x3 : Addr) (x22 : Sl) (x23 : Int) (x24 : Int), L' = [(3, (.pointer (some x3))), (22, x22.enc), (23, (.int .i64 x23)), (24, (.int .i64 x24))] ∧ F.table_Table_int_All.l1 Q m x3 x22 x23 x24 h) ?_ ?_ m53 ⟨_, _, _, _, rfl, H⟩
  · rintro L' h ⟨_, _, _, _, _, H⟩; exact H
  · rintro q1 L' h ⟨x3, x22, x23, x24, rfl, H⟩
    unfold F.table_Table_int_All.l1 at H
    refine tr_seq ?_
    refine tr_region ?_
    refine tr_p (y_lss rfl rfl) rfl rfl ?_
    refine tr_nil ?_
    refine tr_thenN ?_
    refine tr_seq ?_
    refine tr_cond rfl (fun g20 => ?_) (fun g20 => ?_)
    · replace H := H.1 g20
      refine tr_skip ?_
      refine tr_thenN ?_
      refine tr_seq ?_
      refine tr_block ?_
      refine tr_seq ?_
      refine tr_region ?_
      obtain ⟨a21, e22, H⟩ := H
      refine tr_p (f_idx (s := x22) Try.runUnderlying81 Try.sizeOf71 rfl rfl e22) rfl rfl ?_
      obtain ⟨y23, k24, H⟩ := H
      refine tr_h (y_ld Try.isAgg71 rfl) k24 rfl rfl ?_
      refine tr_p (y_assign rfl) rfl rfl ?_
      refine tr_nil ?_
      refine tr_thenN ?_
      refine tr_seq ?_
      refine tr_region ?_
      refine tr_p (y_move rfl) rfl rfl ?_
      refine tr_p (y_len (ts := #[]) Try.runUnderlying71 (o := y23.ptr) (n := y23.len) (cap := y23.cap) rfl) rfl rfl ?_
      refine tr_p (y_move rfl) rfl rfl ?_
      refine tr_nil ?_
      refine tr_thenN ?_
      refine tr_block ?_
      obtain ⟨m43, H⟩ := H
      refine tr_sub [(3, (.pointer (some x3))), (22, x22.enc), (23, (.int .i64 x23)), (24, (.int .i64 x24)), (28, y23.enc), (29, (.int .i64 (y23.len : Int))), (30, (.int .i64 0))] ⟨rfl, rfl, rfl, rfl, rfl, rfl, rfl, trivial⟩ ?_
      refine tr_loop_j (fun m L' h => ∃ (x3 : Addr) (x22 : Sl) (x23 : Int) (x24 : Int) (x28 : Sl) (x29 : Int) (x30 : Int), L' = [(3, (.pointer (some x3))), (22, x22.enc), (23, (.int .i64 x23)), (24, (.int .i64 x24)), (28, x28.enc), (29, (.int .i64 x29)), (30, (.int .i64 x30))] ∧ F.table_Table_int_All.l2 Q (F.table_Table_int_All.l1 Q q1) m x3 x22 x23 x24 x28 x29 x30 h) ?_ ?_ m43 ⟨_, _, _, _, _, _, _, rfl, H⟩
      · rintro L' h ⟨_, _, _, _, _, _, _, _, H⟩; exact H
      · rintro q2 L' h ⟨x3, x22, x23, x24, x28, x29, x30, rfl, H⟩
        unfold F.table_Table_int_All.l2 at H
        refine tr_seq ?_
        refine tr_region ?_
        refine tr_p (y_lss rfl rfl) rfl rfl ?_
        refine tr_nil ?_
        refine tr_thenN ?_
        refine tr_seq ?_
        refine tr_cond rfl (fun g25 => ?_) (fun g25 => ?_)
        · replace H := H.1 g25
          refine tr_skip ?_
          refine tr_thenN ?_
          refine tr_seq ?_
          refine tr_block ?_
          refine tr_seq ?_
          refine tr_region ?_
          obtain ⟨a26, e27, H⟩ := H
          refine tr_p (f_idx (s := x28) Try.runUnderlying71 Try.sizeOf77 rfl rfl e27) rfl rfl ?_
          obtain ⟨y28, k29, H⟩ := H
          refine tr_h (y_ldS Try.isAgg77 Try.sizeOf77 rfl rfl) k29 rfl rfl ?_
          refine tr_e (f_alloc (cs := ((⟨0, (⟨#[]⟩ : ByteArray), 0⟩ : S_table_place_int) : S_table_place_int).cells.toArray) Try.zeroValue77 rfl H) rfl rfl ?_
          rintro _ h30 ⟨a31, rfl, H⟩
          refine tr_e (f_store (vs := y28.cells) Try.sizeOf77 rfl rfl cellsOfStruct rfl (by intro v hv; exact ones_S_table_place_int _ v hv) H) rfl rfl ?_
          rintro _ h32 ⟨rfl, H⟩
          refine tr_nil ?_
          refine tr_thenN ?_
          refine tr_seq ?_
          refine tr_region ?_
          refine tr_p (y_fa (off := 0) Try.runUnderlying77 fo_77_0 rfl) rfl rfl ?_
          obtain ⟨y33, k34, H⟩ := H
          refine tr_h (y_ld Try.isAgg5 rfl) k34 rfl rfl ?_
          refine tr_p (y_eql rfl rfl) rfl rfl ?_
          refine tr_nil ?_
          refine tr_thenN ?_
          refine tr_cond rfl (fun g35 => ?_) (fun g35 => ?_)
          · replace H := H.1 g35
            refine tr_region ?_
            obtain ⟨y36, k37, H⟩ := H
            refine tr_h (y_ld Try.isAgg50 rfl) k37 rfl rfl ?_
            refine tr_p (y_fa (off := 1) Try.runUnderlying77 fo_77_1 rfl) rfl rfl ?_
            obtain ⟨y38, k39, H⟩ := H
            refine tr_h (y_ld Try.isAgg9 rfl) k39 rfl rfl ?_
            refine tr_p (y_fa (off := 2) Try.runUnderlying77 fo_77_2 rfl) rfl rfl ?_
            obtain ⟨y40, k41, H⟩ := H
            refine tr_h (y_ld Try.isAgg3 rfl) k41 rfl rfl ?_
            refine tr_e (f_mu rfl rfl rfl H) rfl rfl ?_
            rintro _ h42 ⟨rfl, H⟩
            refine tr_nil ?_
            refine tr_blockN ?_
            refine tr_thenN ?_
            refine tr_region ?_
            refine tr_p (y_add rfl rfl) rfl rfl ?_
            refine tr_p (y_move rfl) rfl rfl ?_
            refine tr_nil ?_
            refine tr_thenN ?_
            exact tr_join [(3, (.pointer (some x3))), (22, x22.enc), (23, (.int .i64 x23)), (24, (.int .i64 x24)), (28, x28.enc), (29, (.int .i64 x29)), (30, (.int .i64 (IntKind.wrap .i64 (x30 + 1))))] ⟨rfl, rfl, rfl, rfl, rfl, rfl, rfl, trivial⟩ ⟨_, _, _, _, _, _, _, rfl, H⟩
          · replace H := H.2 g35
            refine tr_skip ?_
            refine tr_blockN ?_
            refine tr_thenN ?_
            refine tr_region ?_
            refine tr_p (y_add rfl rfl) rfl rfl ?_
            refine tr_p (y_move rfl) rfl rfl ?_
            refine tr_nil ?_
            refine tr_thenN ?_
            exact tr_join [(3, (.pointer (some x3))), (22, x22.enc), (23, (.int .i64 x23)), (24, (.int .i64 x24)), (28, x28.enc), (29, (.int .i64 x29)), (30, (.int .i64 (IntKind.wrap .i64 (x30 + 1))))] ⟨rfl, rfl, rfl, rfl, rfl, rfl, rfl, trivial⟩ ⟨_, _, _, _, _, _, _, rfl, H⟩
        · replace H := H.2 g25
          refine tr_exit ?_
          refine tr_thenE ?_
          refine tr_thenE ?_
          refine tr_hit ?_
          refine tr_blockN ?_
          refine tr_thenN ?_
          refine tr_region ?_
          refine tr_p (y_add rfl rfl) rfl rfl ?_
          refine tr_p (y_move rfl) rfl rfl ?_
          refine tr_nil ?_
          refine tr_thenN ?_
          exact tr_join [(3, (.pointer (some x3))), (22, x22.enc), (23, (.int .i64 x23)), (24, (.int .i64 (IntKind.wrap .i64 (x24 + 1))))] ⟨rfl, rfl, rfl, rfl, trivial⟩ ⟨_, _, _, _, rfl, H⟩
    · replace H := H.2 g20
      refine tr_exit ?_
      refine tr_thenE ?_
      refine tr_thenE ?_
      refine tr_hit ?_
      refine tr_thenN ?_
      refine tr_seq ?_
      refine tr_region ?_
      obtain ⟨y44, k45, H⟩ := H
      refine tr_h (y_ld Try.isAgg50 rfl) k45 rfl rfl ?_
      refine tr_e (e_call Try.call51 rfl (F.maps_Keys_map_string_int_string_int_ok H)) rfl rfl ?_
      rintro r47 h46 ⟨_, rfl, H⟩
      refine tr_e (e_call Try.call50 rfl (F.slices_Sorted_string_ok H)) rfl rfl ?_
      rintro _ h48 ⟨r49, rfl, H⟩
      refine tr_e (f_alloc (cs := #[(⟨none, 0, 0⟩ : Sl).enc]) Try.zeroValue37 rfl H) rfl rfl ?_
      rintro _ h50 ⟨a51, rfl, H⟩
      refine tr_e (f_store (vs := [r49.enc]) Try.sizeOf37 rfl rfl rfl rfl (one1 rfl) H) rfl rfl ?_
      rintro _ h52 ⟨rfl, H⟩
      refine tr_nil ?_
      refine tr_thenN ?_
      refine tr_seq ?_
      refine tr_region ?_
      refine tr_p (y_fn rfl rfl) rfl rfl ?_
      refine tr_p (y_assign rfl) rfl rfl ?_
      refine tr_nil ?_
      refine tr_thenN ?_
      refine tr_ret ?_
      exact tr_ret1 rfl rfl ⟨_, rfl, H⟩

/-- (*spate/table.Table[int]).Place -/
def F.table_Table_int_Place (p0 : Option Addr) (p1 : ByteArray) (h : H) (Q : Int → Bool → Bool → H → Prop) : Prop :=
  nn p0 fun a1 =>
  ldL h (a1.add 0) fun y3 =>
  F.table_find_int y3 p1 h fun r6 r7 h5 =>
  (r7 = true →
  Q r6 false true h5) ∧
  (r7 = false →
  nn p0 fun a9 =>
  ldL h5 (a9.add 1) fun y11 =>
  F.table_find_int y11 p1 h5 fun r14 r15 h13 =>
  (r15 = true →
  Q r14 true true h13) ∧
  (r15 = false →
  Q 0 false false h13))
theorem F.table_Table_int_Place_ok {p0 : Option Addr} {p1 : ByteArray} {h : H} {Q : Int → Bool → Bool → H → Prop} (H : F.table_Table_int_Place p0 p1 h Q) : Fn PP 63 ([(.pointer p0), (.string p1)] : List Value).toArray h fun r h' => ∃ r0 r1 r2, r = .tuple #[(.int .i64 r0), (.bool r1), (.bool r2)] ∧ Q r0 r1 r2 h' := by
  unfold F.table_Table_int_Place at H
  refine fn_of Try.func63 Try.ntmps63 rfl rfl fun w0 => ?_
  refine tr_sub [(0, (.pointer p0)), (1, (.string p1))] ⟨rfl, rfl, trivial⟩ ?_
  refine tr_seq ?_
  refine tr_region ?_
  refine tr_p (y_assign rfl) rfl rfl ?_
  refine tr_p (y_assign rfl) rfl rfl ?_
  refine tr_p (y_assign rfl) rfl rfl ?_
  refine tr_nil ?_
  refine tr_thenN ?_
  refine tr_seq ?_
  refine tr_seq ?_
  refine tr_region ?_
  refine tr_p (y_move rfl) rfl rfl ?_
  obtain ⟨a1, e2, H⟩ := H
  refine tr_p (f_nn rfl e2) rfl rfl ?_
  refine tr_p (y_fa (off := 0) Try.runUnderlying73 fo_73_0 rfl) rfl rfl ?_
  obtain ⟨y3, k4, H⟩ := H
  refine tr_h (y_ld Try.isAgg71 rfl) k4 rfl rfl ?_
  refine tr_p (y_move rfl) rfl rfl ?_
  refine tr_e (e_call Try.call47 rfl (F.table_find_int_ok H)) rfl rfl ?_
  rintro _ h5 ⟨r6, r7, rfl, H⟩
  refine tr_p (y_move rfl) rfl rfl ?_
  refine tr_p (y_ext rfl rfl) rfl rfl ?_
  refine tr_p (y_ext rfl rfl) rfl rfl ?_
  refine tr_p (y_assign rfl) rfl rfl ?_
  refine tr_p (y_assign rfl) rfl rfl ?_
  refine tr_nil ?_
  refine tr_thenN ?_
  refine tr_seq ?_
  refine tr_region ?_
  refine tr_p (y_move rfl) rfl rfl ?_
  refine tr_nil ?_
  refine tr_thenN ?_
  refine tr_cond rfl (fun g8 => ?_) (fun g8 => ?_)
  · replace H := H.1 g8
    refine tr_seq ?_
    refine tr_region ?_
    refine tr_p (y_move rfl) rfl rfl ?_
    refine tr_p (y_assign rfl) rfl rfl ?_
    refine tr_p (y_assign rfl) rfl rfl ?_
    refine tr_p (y_assign rfl) rfl rfl ?_
    refine tr_nil ?_
    refine tr_thenN ?_
    refine tr_ret ?_
    refine tr_thenR ?_
    exact tr_ret3 rfl rfl rfl rfl ⟨_, _, _, rfl, H⟩
  · replace H := H.2 g8
    refine tr_skip ?_
    refine tr_thenN ?_
    refine tr_seq ?_
    refine tr_seq ?_
    refine tr_region ?_
    refine tr_p (y_move rfl) rfl rfl ?_
    obtain ⟨a9, e10, H⟩ := H
    refine tr_p (f_nn rfl e10) rfl rfl ?_
    refine tr_p (y_fa (off := 1) Try.runUnderlying73 fo_73_1 rfl) rfl rfl ?_
    obtain ⟨y11, k12, H⟩ := H
    refine tr_h (y_ld Try.isAgg71 rfl) k12 rfl rfl ?_
    refine tr_p (y_move rfl) rfl rfl ?_
    refine tr_e (e_call Try.call47 rfl (F.table_find_int_ok H)) rfl rfl ?_
    rintro _ h13 ⟨r14, r15, rfl, H⟩
    refine tr_p (y_move rfl) rfl rfl ?_
    refine tr_p (y_ext rfl rfl) rfl rfl ?_
    refine tr_p (y_ext rfl rfl) rfl rfl ?_
    refine tr_p (y_assign rfl) rfl rfl ?_
    refine tr_p (y_assign rfl) rfl rfl ?_
    refine tr_nil ?_
    refine tr_thenN ?_
    refine tr_seq ?_
    refine tr_region ?_
    refine tr_p (y_move rfl) rfl rfl ?_
    refine tr_nil ?_
    refine tr_thenN ?_
    refine tr_cond rfl (fun g16 => ?_) (fun g16 => ?_)
    · replace H := H.1 g16
      refine tr_seq ?_
      refine tr_region ?_
      refine tr_p (y_move rfl) rfl rfl ?_
      refine tr_p (y_assign rfl) rfl rfl ?_
      refine tr_p (y_assign rfl) rfl rfl ?_
      refine tr_p (y_assign rfl) rfl rfl ?_
      refine tr_nil ?_
      refine tr_thenN ?_
      refine tr_ret ?_
      refine tr_thenR ?_
      exact tr_ret3 rfl rfl rfl rfl ⟨_, _, _, rfl, H⟩
    · replace H := H.2 g16
      refine tr_skip ?_
      refine tr_thenN ?_
      refine tr_seq ?_
      refine tr_region ?_
      refine tr_p (y_assign rfl) rfl rfl ?_
      refine tr_p (y_assign rfl) rfl rfl ?_
      refine tr_p (y_assign rfl) rfl rfl ?_
      refine tr_nil ?_
      refine tr_thenN ?_
      refine tr_ret ?_
      exact tr_ret3 rfl rfl rfl rfl ⟨_, _, _, rfl, H⟩

def F.spatelaw6_alike.j2 (Q : Bool → H → Prop) (K1 : H → Prop) (J1 : Nat → H → Prop) (l1 : Nat) (x4 : Addr) (x74 : Bool) (h : H) : Prop :=
  (x74 = true →
  stH h x4 [(.bool false)] fun h30 =>
  J1 0 h30) ∧
  (x74 = false →
  K1 h)
def F.spatelaw6_alike.j1 (Q : Bool → H → Prop) (ds : List Nat) (x2 : Addr) (x3 : Addr) (x4 : Addr) (h : H) : Prop :=
  ldP h x2 fun y7 =>
  F.table_Table_int_All y7 h fun r10 h9 =>
  rng PP r10 h9 [Code.ret] (fun bg1 l1 args h K1 J1 => ∃ (y1_36 : ByteArray), ∃ (y1_37 : Int), args = [(.string y1_36), (.int .i64 y1_37)] ∧
    bg1 h fun h11 =>
    ldP h11 x3 fun y12 =>
    F.table_Table_int_Get y12 y1_36 h11 fun r15 r16 h14 =>
    ldP h14 x2 fun y17 =>
    F.table_Table_int_Place y17 y1_36 h14 fun r20 r21 r22 h19 =>
    ldP h19 x3 fun y23 =>
    F.table_Table_int_Place y23 y1_36 h19 fun r26 r27 r28 h25 =>
    ((!r16) = true →
    F.spatelaw6_alike.j2 Q K1 J1 l1 x4 true h25) ∧
    ((!r16) = false →
    (((y1_37 != r15)) = true →
    F.spatelaw6_alike.j2 Q K1 J1 l1 x4 true h25) ∧
    (((y1_37 != r15)) = false →
    (((r20 != r26)) = true →
    F.spatelaw6_alike.j2 Q K1 J1 l1 x4 true h25) ∧
    (((r20 != r26)) = false →
    F.spatelaw6_alike.j2 Q K1 J1 l1 x4 (!(r21 == r27)) h25)))) (fun h34 =>
    stH h34 x4 [(.bool true)] fun h35 =>
    shuts (h9.size :: ds) h35 fun h36 =>
    ldB h36 x4 fun y37 =>
    Q y37 h36) (fun jj h39 =>
    (jj = 0 →
      shuts (h9.size :: ds) h39 fun h40 =>
      ldB h40 x4 fun y41 =>
      Q y41 h40))
def F.spatelaw6_alike.j3 (Q : Bool → H → Prop) (ds : List Nat) (x2 : Addr) (x3 : Addr) (x4 : Addr) (x33 : Bool) (h : H) : Prop :=
  (x33 = true →
  stH h x4 [(.bool false)] fun h44 =>
  shuts ds h44 fun h45 =>
  ldB h45 x4 fun y46 =>
  Q y46 h45) ∧
  (x33 = false →
  F.spatelaw6_alike.j1 Q ds x2 x3 x4 h)
/-- spate/spatelaw6.alike -/
def F.spatelaw6_alike (p0 : Option Addr) (p1 : Option Addr) (h : H) (Q : Bool → H → Prop) : Prop :=
  new h #[(.pointer p0)] ty_30 fun a2 h1 =>
  new h1 #[(.pointer p1)] ty_30 fun a4 h3 =>
  new h3 #[(.bool false)] ty_4 fun a6 h5 =>
  ldP h5 a2 fun y48 =>
  ldP h5 a4 fun y50 =>
  F.table_Table_int_Len y48 h5 fun r53 h52 =>
  cellH h52 a4 = some (.pointer y50) ∧
  F.table_Table_int_Len y50 h52 fun r56 h55 =>
  (((r53 != r56)) = true →
  F.spatelaw6_alike.j3 Q ([] : List Nat) a2 a4 a6 true h55) ∧
  (((r53 != r56)) = false →
  ldP h55 a2 fun y58 =>
  ldP h55 a4 fun y60 =>
  F.table_Table_int_Slots y58 h55 fun r63 h62 =>
  cellH h62 a4 = some (.pointer y60) ∧
  F.table_Table_int_Slots y60 h62 fun r66 h65 =>
  (((r63 != r66)) = true →
  F.spatelaw6_alike.j3 Q ([] : List Nat) a2 a4 a6 true h65) ∧
  (((r63 != r66)) = false →
  ldP h65 a2 fun y68 =>
  ldP h65 a4 fun y70 =>
  F.table_Table_int_Left y68 h65 fun r73 h72 =>
  cellH h72 a4 = some (.pointer y70) ∧
  F.table_Table_int_Left y70 h72 fun r76 h75 =>
  F.spatelaw6_alike.j3 Q ([] : List Nat) a2 a4 a6 ((r73 != r76)) h75))
theorem F.spatelaw6_alike_ok {p0 : Option Addr} {p1 : Option Addr} {h : H} {Q : Bool → H → Prop} (H : F.spatelaw6_alike p0 p1 h Q) : Fn PP 44 ([(.pointer p0), (.pointer p1)] : List Value).toArray h fun r h' => ∃ r0, r = (.bool r0) ∧ Q r0 h' := by
  unfold F.spatelaw6_alike at H
  refine fn_ofM Try.func44 Try.ntmps44 rfl rfl fun w0 => ?_
  refine tr_sub [(0, (.pointer p0)), (1, (.pointer p1))] ⟨rfl, rfl, trivial⟩ ?_
  refine tr_seq ?_
  refine tr_region ?_
  refine tr_e (f_box (cs := #[(.pointer p0)]) rfl rfl H) rfl rfl ?_
  rintro _ h1 ⟨a2, rfl, H⟩
  refine tr_e (f_box (cs := #[(.pointer p1)]) rfl rfl H) rfl rfl ?_
  rintro _ h3 ⟨a4, rfl, H⟩
  refine tr_e (f_alloc (cs := #[(.bool false)]) Try.zeroValue4 rfl H) rfl rfl ?_
  rintro _ h5 ⟨a6, rfl, H⟩
  refine tr_nil ?_
  refine tr_thenN ?_
  refine tr_seq_jD (fun ds L' h => ∃ (x2 : Addr) (x3 : Addr) (x4 : Addr), L' = [(2, (.pointer (some x2))), (3, (.pointer (some x3))), (4, (.pointer (some x4)))] ∧ F.spatelaw6_alike.j1 Q ds x2 x3 x4 h) ?_ ?_
  · rintro ds L' h ⟨x2, x3, x4, rfl, H⟩
    unfold F.spatelaw6_alike.j1 at H
    refine tr_seq ?_
    refine tr_seq ?_
    refine tr_region ?_
    obtain ⟨y7, k8, H⟩ := H
    refine tr_h (y_ld Try.isAgg30 rfl) k8 rfl rfl ?_
    refine tr_e (e_call Try.call29 rfl (F.table_Table_int_All_ok H)) rfl rfl ?_
    rintro r10 h9 ⟨_, rfl, H⟩
    refine tr_nil ?_
    refine tr_thenN ?_
    refine tr_block ?_
    refine tr_range rfl (by kernel_rfl) H ?_ ?_ ?_
    · intro bg1 l1 args h K1 J1 w1 hbg1 H
      obtain ⟨y1_36, y1_37, rfl, H⟩ := H
      refine ⟨rfl, ?_⟩
      refine tr_sub [(2, (.pointer (some x2))), (3, (.pointer (some x3))), (4, (.pointer (some x4))), (34, (.pointer y7)), (35, r10), (36, (.string y1_36)), (37, (.int .i64 y1_37))] ⟨rfl, rfl, rfl, rfl, rfl, rfl, rfl, trivial⟩ ?_
      refine tr_seq ?_
      refine tr_region ?_
      refine tr_p (y_assign rfl) rfl rfl ?_
      refine tr_nil ?_
      refine tr_thenN ?_
      refine tr_region ?_
      refine tr_p (y_assign rfl) rfl rfl ?_
      refine tr_nil ?_
      refine tr_thenN ?_
      refine tr_bgn hbg1 H fun h11 H => ?_
      refine tr_block ?_
      refine tr_seq ?_
      refine tr_region ?_
      obtain ⟨y12, k13, H⟩ := H
      refine tr_h (y_ld Try.isAgg30 rfl) k13 rfl rfl ?_
      refine tr_p (y_move rfl) rfl rfl ?_
      refine tr_e (e_call Try.call25 rfl (F.table_Table_int_Get_ok H)) rfl rfl ?_
      rintro _ h14 ⟨r15, r16, rfl, H⟩
      refine tr_p (y_move rfl) rfl rfl ?_
      refine tr_p (y_ext rfl rfl) rfl rfl ?_
      refine tr_p (y_ext rfl rfl) rfl rfl ?_
      refine tr_p (y_assign rfl) rfl rfl ?_
      refine tr_p (y_assign rfl) rfl rfl ?_
      refine tr_nil ?_
      refine tr_thenN ?_
      refine tr_seq ?_
      refine tr_region ?_
      obtain ⟨y17, k18, H⟩ := H
      refine tr_h (y_ld Try.isAgg30 rfl) k18 rfl rfl ?_
      refine tr_p (y_move rfl) rfl rfl ?_
      refine tr_e (e_call Try.call63 rfl (F.table_Table_int_Place_ok H)) rfl rfl ?_
      rintro _ h19 ⟨r20, r21, r22, rfl, H⟩
      refine tr_p (y_move rfl) rfl rfl ?_
      refine tr_p (y_ext rfl rfl) rfl rfl ?_
      refine tr_p (y_ext rfl rfl) rfl rfl ?_
      refine tr_p (y_ext rfl rfl) rfl rfl ?_
      refine tr_p (y_assign rfl) rfl rfl ?_
      refine tr_p (y_assign rfl) rfl rfl ?_
      refine tr_p (y_assign rfl) rfl rfl ?_
      refine tr_nil ?_
      refine tr_thenN ?_
      refine tr_seq ?_
      refine tr_region ?_
      obtain ⟨y23, k24, H⟩ := H
      refine tr_h (y_ld Try.isAgg30 rfl) k24 rfl rfl ?_
      refine tr_p (y_move rfl) rfl rfl ?_
      refine tr_e (e_call Try.call63 rfl (F.table_Table_int_Place_ok H)) rfl rfl ?_
      rintro _ h25 ⟨r26, r27, r28, rfl, H⟩
      refine tr_p (y_move rfl) rfl rfl ?_
      refine tr_p (y_ext rfl rfl) rfl rfl ?_
      refine tr_p (y_ext rfl rfl) rfl rfl ?_
      refine tr_p (y_ext rfl rfl) rfl rfl ?_
      refine tr_p (y_assign rfl) rfl rfl ?_
      refine tr_p (y_assign rfl) rfl rfl ?_
      refine tr_p (y_assign rfl) rfl rfl ?_
      refine tr_nil ?_
      refine tr_thenN ?_
      refine tr_seq_j (fun L' h => ∃ (x4 : Addr) (x74 : Bool), L' = [(4, (.pointer (some x4))), (74, (.bool x74))] ∧ F.spatelaw6_alike.j2 Q K1 J1 l1 x4 x74 h) ?_ ?_
      · rintro L' h ⟨x4, x74, rfl, H⟩
        unfold F.spatelaw6_alike.j2 at H
        refine tr_cond rfl (fun g29 => ?_) (fun g29 => ?_)
        · replace H := H.1 g29
          refine tr_seq ?_
          refine tr_region ?_
          refine tr_e (f_store (vs := [(.bool false)]) Try.sizeOf4 rfl rfl rfl rfl (one1 rfl) H) rfl rfl ?_
          rintro _ h30 ⟨rfl, H⟩
          refine tr_nil ?_
          refine tr_thenN ?_
          refine tr_ret ?_
          refine tr_blockR ?_
          exact tr_rR 0 rfl H
        · replace H := H.2 g29
          refine tr_skip ?_
          refine tr_blockN ?_
          exact tr_rN H
      · refine tr_region ?_
        refine tr_p (y_move rfl) rfl rfl ?_
        refine tr_p (y_not rfl) rfl rfl ?_
        refine tr_p (y_move rfl) rfl rfl ?_
        refine tr_split (t := 60) rfl (fun g31 => ?_) (fun g31 => ?_)
        · replace H := H.1 g31
          refine tr_s rfl rfl ?_
          refine tr_s rfl rfl ?_
          refine tr_s rfl rfl ?_
          refine tr_p (y_pick_t rfl rfl) rfl rfl ?_
          refine tr_p (y_move rfl) rfl rfl ?_
          refine tr_s rfl rfl ?_
          refine tr_s rfl rfl ?_
          refine tr_s rfl rfl ?_
          refine tr_p (y_pick_t rfl rfl) rfl rfl ?_
          refine tr_p (y_move rfl) rfl rfl ?_
          refine tr_s rfl rfl ?_
          refine tr_s rfl rfl ?_
          refine tr_s rfl rfl ?_
          refine tr_p (y_pick_t rfl rfl) rfl rfl ?_
          refine tr_nil ?_
          refine tr_thenN ?_
          exact tr_join [(4, (.pointer (some x4))), (74, (.bool true))] ⟨rfl, rfl, trivial⟩ ⟨_, _, rfl, H⟩
        · replace H := H.2 g31
          refine tr_p (y_move rfl) rfl rfl ?_
          refine tr_p (y_move rfl) rfl rfl ?_
          refine tr_p (y_neq rfl rfl) rfl rfl ?_
          refine tr_p (y_pick_f rfl rfl) rfl rfl ?_
          refine tr_p (y_move rfl) rfl rfl ?_
          refine tr_split (t := 65) rfl (fun g32 => ?_) (fun g32 => ?_)
          · replace H := H.1 g32
            refine tr_s rfl rfl ?_
            refine tr_s rfl rfl ?_
            refine tr_s rfl rfl ?_
            refine tr_p (y_pick_t rfl rfl) rfl rfl ?_
            refine tr_p (y_move rfl) rfl rfl ?_
            refine tr_s rfl rfl ?_
            refine tr_s rfl rfl ?_
            refine tr_s rfl rfl ?_
            refine tr_p (y_pick_t rfl rfl) rfl rfl ?_
            refine tr_nil ?_
            refine tr_thenN ?_
            exact tr_join [(4, (.pointer (some x4))), (74, (.bool true))] ⟨rfl, rfl, trivial⟩ ⟨_, _, rfl, H⟩
          · replace H := H.2 g32
            refine tr_p (y_move rfl) rfl rfl ?_
            refine tr_p (y_move rfl) rfl rfl ?_
            refine tr_p (y_neq rfl rfl) rfl rfl ?_
            refine tr_p (y_pick_f rfl rfl) rfl rfl ?_
            refine tr_p (y_move rfl) rfl rfl ?_
            refine tr_split (t := 70) rfl (fun g33 => ?_) (fun g33 => ?_)
            · replace H := H.1 g33
              refine tr_s rfl rfl ?_
              refine tr_s rfl rfl ?_
              refine tr_s rfl rfl ?_
              refine tr_p (y_pick_t rfl rfl) rfl rfl ?_
              refine tr_nil ?_
              refine tr_thenN ?_
              exact tr_join [(4, (.pointer (some x4))), (74, (.bool true))] ⟨rfl, rfl, trivial⟩ ⟨_, _, rfl, H⟩
            · replace H := H.2 g33
              refine tr_p (y_move rfl) rfl rfl ?_
              refine tr_p (y_move rfl) rfl rfl ?_
              refine tr_p (y_bneq Try.underlying4 rfl rfl) rfl rfl ?_
              refine tr_p (y_pick_f rfl rfl) rfl rfl ?_
              refine tr_nil ?_
              refine tr_thenN ?_
              exact tr_join [(4, (.pointer (some x4))), (74, (.bool (!(r21 == r27))))] ⟨rfl, rfl, trivial⟩ ⟨_, _, rfl, H⟩
    · intro h34 H
      refine tr_blockN ?_
      refine tr_thenN ?_
      refine tr_seq ?_
      refine tr_region ?_
      refine tr_e (f_store (vs := [(.bool true)]) Try.sizeOf4 rfl rfl rfl rfl (one1 rfl) H) rfl rfl ?_
      rintro _ h35 ⟨rfl, H⟩
      refine tr_nil ?_
      refine tr_thenN ?_
      refine tr_ret ?_
      refine tr_shut (h9.size :: ds) rfl H fun h36 H => ?_
      obtain ⟨y37, k38, H⟩ := H
      exact tr_rv1 rfl (rv_cell Try.isAgg4 rfl k38) ⟨_, rfl, H⟩
    · intro jj c h39 hjc H
      rcases jj with _ | jj
      · obtain rfl : Code.ret = c := by simpa using hjc
        replace H := H rfl
        refine tr_ret ?_
        refine tr_blockR ?_
        refine tr_thenR ?_
        refine tr_shut (h9.size :: ds) rfl H fun h40 H => ?_
        obtain ⟨y41, k42, H⟩ := H
        exact tr_rv1 rfl (rv_cell Try.isAgg4 rfl k42) ⟨_, rfl, H⟩
      · simp at hjc
  · refine tr_seq_jD (fun ds L' h => ∃ (x2 : Addr) (x3 : Addr) (x4 : Addr) (x33 : Bool), L' = [(2, (.pointer (some x2))), (3, (.pointer (some x3))), (4, (.pointer (some x4))), (33, (.bool x33))] ∧ F.spatelaw6_alike.j3 Q ds x2 x3 x4 x33 h) ?_ ?_
    · rintro ds L' h ⟨x2, x3, x4, x33, rfl, H⟩
      unfold F.spatelaw6_alike.j3 at H
      refine tr_cond rfl (fun g43 => ?_) (fun g43 => ?_)
      · replace H := H.1 g43
        refine tr_seq ?_
        refine tr_region ?_
        refine tr_e (f_store (vs := [(.bool false)]) Try.sizeOf4 rfl rfl rfl rfl (one1 rfl) H) rfl rfl ?_
        rintro _ h44 ⟨rfl, H⟩
        refine tr_nil ?_
        refine tr_thenN ?_
        refine tr_ret ?_
        refine tr_thenR ?_
        refine tr_shut ds rfl H fun h45 H => ?_
        obtain ⟨y46, k47, H⟩ := H
        exact tr_rv1 rfl (rv_cell Try.isAgg4 rfl k47) ⟨_, rfl, H⟩
      · replace H := H.2 g43
        refine tr_skip ?_
        refine tr_thenN ?_
        exact tr_joinD ds [(2, (.pointer (some x2))), (3, (.pointer (some x3))), (4, (.pointer (some x4)))] rfl ⟨rfl, rfl, rfl, trivial⟩ ⟨_, _, _, rfl, H⟩
    · refine tr_draw mixed [0, 1, 0, 7, 15, 31, 63, 127, 63, 511, 1023, 2047, 4095, 8191, 16383, 8191, 65535, 131071, 262143] (by kernel_rfl) ?_
      obtain ⟨y48, k49, H⟩ := H
      refine g_h 0 1 rfl (by kernel_rfl) (y_ld Try.isAgg30 rfl) k49 rfl rfl ?_
      obtain ⟨y50, k51, H⟩ := H
      refine g_h 2 5 rfl (by kernel_rfl) (y_ld Try.isAgg30 rfl) k51 rfl rfl ?_
      refine g_e 1 7 [(2, fun h => cellH h a4 = some (.pointer y50))] (by kernel_rfl) rfl (by kernel_rfl) (e_call Try.call23 rfl (F.table_Table_int_Len_ok H)) rfl rfl ?_
      rintro _ h52 ⟨r53, rfl, H⟩
      obtain ⟨k54, H⟩ := H
      refine ⟨And.intro k54 trivial, ?_⟩
      refine g_e 3 15 [] (by kernel_rfl) rfl (by kernel_rfl) (e_call Try.call23 rfl (F.table_Table_int_Len_ok H)) rfl rfl ?_
      rintro _ h55 ⟨r56, rfl, H⟩
      refine ⟨trivial, ?_⟩
      refine g_p 4 31 rfl (by kernel_rfl) (y_neq rfl rfl) rfl rfl ?_
      refine g_p 5 63 rfl (by kernel_rfl) (y_move rfl) rfl rfl ?_
      refine g_split (t := 20) rfl (fun g57 => ?_) (fun g57 => ?_)
      · replace H := H.1 g57
        refine g_s 6 127 rfl (by kernel_rfl) rfl rfl ?_
        refine g_s 7 255 rfl (by kernel_rfl) rfl rfl ?_
        refine g_s 8 511 rfl (by kernel_rfl) rfl rfl ?_
        refine g_s 9 1023 rfl (by kernel_rfl) rfl rfl ?_
        refine g_s 10 2047 rfl (by kernel_rfl) rfl rfl ?_
        refine g_p 11 4095 rfl (by kernel_rfl) (y_pick_t rfl rfl) rfl rfl ?_
        refine g_p 12 8191 rfl (by kernel_rfl) (y_move rfl) rfl rfl ?_
        refine g_s 13 16383 rfl (by kernel_rfl) rfl rfl ?_
        refine g_s 14 32767 rfl (by kernel_rfl) rfl rfl ?_
        refine g_s 15 65535 rfl (by kernel_rfl) rfl rfl ?_
        refine g_s 16 131071 rfl (by kernel_rfl) rfl rfl ?_
        refine g_s 17 262143 rfl (by kernel_rfl) rfl rfl ?_
        refine g_p 18 524287 rfl (by kernel_rfl) (y_pick_t rfl rfl) rfl rfl ?_
        refine g_d (by kernel_rfl) ?_
        refine tr_thenN ?_
        exact tr_joinD ([] : List Nat) [(2, (.pointer (some a2))), (3, (.pointer (some a4))), (4, (.pointer (some a6))), (33, (.bool true))] rfl ⟨rfl, rfl, rfl, rfl, trivial⟩ ⟨_, _, _, _, rfl, H⟩
      · replace H := H.2 g57
        obtain ⟨y58, k59, H⟩ := H
        refine g_h 6 127 rfl (by kernel_rfl) (y_ld Try.isAgg30 rfl) k59 rfl rfl ?_
        obtain ⟨y60, k61, H⟩ := H
        refine g_h 8 383 rfl (by kernel_rfl) (y_ld Try.isAgg30 rfl) k61 rfl rfl ?_
        refine g_e 7 511 [(8, fun h => cellH h a4 = some (.pointer y60))] (by kernel_rfl) rfl (by kernel_rfl) (e_call Try.call24 rfl (F.table_Table_int_Slots_ok H)) rfl rfl ?_
        rintro _ h62 ⟨r63, rfl, H⟩
        obtain ⟨k64, H⟩ := H
        refine ⟨And.intro k64 trivial, ?_⟩
        refine g_e 9 1023 [] (by kernel_rfl) rfl (by kernel_rfl) (e_call Try.call24 rfl (F.table_Table_int_Slots_ok H)) rfl rfl ?_
        rintro _ h65 ⟨r66, rfl, H⟩
        refine ⟨trivial, ?_⟩
        refine g_p 10 2047 rfl (by kernel_rfl) (y_neq rfl rfl) rfl rfl ?_
        refine g_p 11 4095 rfl (by kernel_rfl) (y_pick_f rfl rfl) rfl rfl ?_
        refine g_p 12 8191 rfl (by kernel_rfl) (y_move rfl) rfl rfl ?_
        refine g_split (t := 27) rfl (fun g67 => ?_) (fun g67 => ?_)
        · replace H := H.1 g67
          refine g_s 13 16383 rfl (by kernel_rfl) rfl rfl ?_
          refine g_s 14 32767 rfl (by kernel_rfl) rfl rfl ?_
          refine g_s 15 65535 rfl (by kernel_rfl) rfl rfl ?_
          refine g_s 16 131071 rfl (by kernel_rfl) rfl rfl ?_
          refine g_s 17 262143 rfl (by kernel_rfl) rfl rfl ?_
          refine g_p 18 524287 rfl (by kernel_rfl) (y_pick_t rfl rfl) rfl rfl ?_
          refine g_d (by kernel_rfl) ?_
          refine tr_thenN ?_
          exact tr_joinD ([] : List Nat) [(2, (.pointer (some a2))), (3, (.pointer (some a4))), (4, (.pointer (some a6))), (33, (.bool true))] rfl ⟨rfl, rfl, rfl, rfl, trivial⟩ ⟨_, _, _, _, rfl, H⟩
        · replace H := H.2 g67
          obtain ⟨y68, k69, H⟩ := H
          refine g_h 13 16383 rfl (by kernel_rfl) (y_ld Try.isAgg30 rfl) k69 rfl rfl ?_
          obtain ⟨y70, k71, H⟩ := H
          refine g_h 15 49151 rfl (by kernel_rfl) (y_ld Try.isAgg30 rfl) k71 rfl rfl ?_
          refine g_e 14 65535 [(15, fun h => cellH h a4 = some (.pointer y70))] (by kernel_rfl) rfl (by kernel_rfl) (e_call Try.call27 rfl (F.table_Table_int_Left_ok H)) rfl rfl ?_
          rintro _ h72 ⟨r73, rfl, H⟩
          obtain ⟨k74, H⟩ := H
          refine ⟨And.intro k74 trivial, ?_⟩
          refine g_e 16 131071 [] (by kernel_rfl) rfl (by kernel_rfl) (e_call Try.call27 rfl (F.table_Table_int_Left_ok H)) rfl rfl ?_
          rintro _ h75 ⟨r76, rfl, H⟩
          refine ⟨trivial, ?_⟩
          refine g_p 17 262143 rfl (by kernel_rfl) (y_neq rfl rfl) rfl rfl ?_
          refine g_p 18 524287 rfl (by kernel_rfl) (y_pick_f rfl rfl) rfl rfl ?_
          refine g_d (by kernel_rfl) ?_
          refine tr_thenN ?_
          exact tr_joinD ([] : List Nat) [(2, (.pointer (some a2))), (3, (.pointer (some a4))), (4, (.pointer (some a6))), (33, (.bool ((r73 != r76))))] rfl ⟨rfl, rfl, rfl, rfl, trivial⟩ ⟨_, _, _, _, rfl, H⟩

end Go.Proofs.Ytkedkajdiclmjaa.V
