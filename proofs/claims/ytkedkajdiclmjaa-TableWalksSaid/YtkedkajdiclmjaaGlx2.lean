/- Printed by a program of this session (gen.py): Go functions as Lean functions over the heap, and that the Go code does what they say; no condition. -/
import Derived.Test.YtkedkajdiclmjaaGlx1
namespace Go.Proofs.Ytkedkajdiclmjaa.V
open Go
set_option linter.unusedVariables false
set_option maxRecDepth 100000
def F.spatelaw6_lies.j3 (Q : Bool → H → Prop) (K1 : H → Prop) (J1 : Nat → H → Prop) (l1 : Nat) (x5 : Addr) (x6 : Addr) (x9 : ByteArray) (h : H) : Prop :=
  stH h x6 [(.string x9)] fun h39 =>
  ldI .i64 h39 x5 fun y40 =>
  stH h39 x5 [(.int .i64 (IntKind.wrap .i64 (y40 + 1)))] fun h42 =>
  K1 h42
def F.spatelaw6_lies.j2 (Q : Bool → H → Prop) (K1 : H → Prop) (J1 : Nat → H → Prop) (l1 : Nat) (x5 : Addr) (x6 : Addr) (x7 : Addr) (x8 : Addr) (x9 : ByteArray) (x13 : Int) (x14 : Bool) (h : H) : Prop :=
  (x14 = true →
  ldV h x8 fun y44 =>
  RunS PP (Instr.mapUpdate 96 y44 (.int .i64 x13) (.bool true)) h fun _ h46 =>
  F.spatelaw6_lies.j3 Q K1 J1 l1 x5 x6 x9 h46) ∧
  (x14 = false →
  ldV h x7 fun y47 =>
  RunS PP (Instr.mapUpdate 96 y47 (.int .i64 x13) (.bool true)) h fun _ h49 =>
  F.spatelaw6_lies.j3 Q K1 J1 l1 x5 x6 x9 h49)
def F.spatelaw6_lies.j4 (Q : Bool → H → Prop) (K1 : H → Prop) (J1 : Nat → H → Prop) (l1 : Nat) (x4 : Addr) (x5 : Addr) (x6 : Addr) (x7 : Addr) (x8 : Addr) (x9 : ByteArray) (x13 : Int) (x14 : Bool) (x100 : Bool) (h : H) : Prop :=
  (x100 = true →
  stH h x4 [(.bool false)] fun h51 =>
  J1 0 h51) ∧
  (x100 = false →
  F.spatelaw6_lies.j2 Q K1 J1 l1 x5 x6 x7 x8 x9 x13 x14 h)
def F.spatelaw6_lies.j1 (Q : Bool → H → Prop) (K1 : H → Prop) (J1 : Nat → H → Prop) (l1 : Nat) (x2 : Addr) (x4 : Addr) (x5 : Addr) (x6 : Addr) (x7 : Addr) (x8 : Addr) (x9 : ByteArray) (x13 : Int) (x14 : Bool) (h : H) : Prop :=
  (x14 = true →
  ldV h x8 fun y53 =>
  RunS PP (Instr.lookup 96 y53 (.int .i64 x13) false) h fun u h55 => ∃ r56 : Bool, u = (.bool r56) ∧
  (r56 = true →
  F.spatelaw6_lies.j4 Q K1 J1 l1 x4 x5 x6 x7 x8 x9 x13 x14 true h55) ∧
  (r56 = false →
  ((!x14) = true →
  ldV h55 x7 fun y59 =>
  RunS PP (Instr.lookup 96 y59 (.int .i64 x13) false) h55 fun u h61 => ∃ r62 : Bool, u = (.bool r62) ∧
  (r62 = true →
  F.spatelaw6_lies.j4 Q K1 J1 l1 x4 x5 x6 x7 x8 x9 x13 x14 true h61) ∧
  (r62 = false →
  ((decide (x13 < 0)) = true →
  F.spatelaw6_lies.j4 Q K1 J1 l1 x4 x5 x6 x7 x8 x9 x13 x14 true h61) ∧
  ((decide (x13 < 0)) = false →
  ((!x14) = true →
  ldP h61 x2 fun y66 =>
  F.table_Table_Slint_Slots y66 h61 fun r69 h68 =>
  ((decide (x13 ≥ r69)) = true →
  F.spatelaw6_lies.j4 Q K1 J1 l1 x4 x5 x6 x7 x8 x9 x13 x14 true h68) ∧
  ((decide (x13 ≥ r69)) = false →
  (x14 = true →
  ldP h68 x2 fun y72 =>
  F.table_Table_Slint_Slots y72 h68 fun r75 h74 =>
  (2 : Int) ≠ 0 ∧
  F.spatelaw6_lies.j4 Q K1 J1 l1 x4 x5 x6 x7 x8 x9 x13 x14 (decide (x13 ≥ (IntKind.wrap .i64 (Int.tdiv r75 2)))) h74) ∧
  (x14 = false →
  F.spatelaw6_lies.j4 Q K1 J1 l1 x4 x5 x6 x7 x8 x9 x13 x14 false h68))) ∧
  ((!x14) = false →
  (x14 = true →
  ldP h61 x2 fun y78 =>
  F.table_Table_Slint_Slots y78 h61 fun r81 h80 =>
  (2 : Int) ≠ 0 ∧
  F.spatelaw6_lies.j4 Q K1 J1 l1 x4 x5 x6 x7 x8 x9 x13 x14 (decide (x13 ≥ (IntKind.wrap .i64 (Int.tdiv r81 2)))) h80) ∧
  (x14 = false →
  F.spatelaw6_lies.j4 Q K1 J1 l1 x4 x5 x6 x7 x8 x9 x13 x14 false h61))))) ∧
  ((!x14) = false →
  ((decide (x13 < 0)) = true →
  F.spatelaw6_lies.j4 Q K1 J1 l1 x4 x5 x6 x7 x8 x9 x13 x14 true h55) ∧
  ((decide (x13 < 0)) = false →
  ((!x14) = true →
  ldP h55 x2 fun y85 =>
  F.table_Table_Slint_Slots y85 h55 fun r88 h87 =>
  ((decide (x13 ≥ r88)) = true →
  F.spatelaw6_lies.j4 Q K1 J1 l1 x4 x5 x6 x7 x8 x9 x13 x14 true h87) ∧
  ((decide (x13 ≥ r88)) = false →
  (x14 = true →
  ldP h87 x2 fun y91 =>
  F.table_Table_Slint_Slots y91 h87 fun r94 h93 =>
  (2 : Int) ≠ 0 ∧
  F.spatelaw6_lies.j4 Q K1 J1 l1 x4 x5 x6 x7 x8 x9 x13 x14 (decide (x13 ≥ (IntKind.wrap .i64 (Int.tdiv r94 2)))) h93) ∧
  (x14 = false →
  F.spatelaw6_lies.j4 Q K1 J1 l1 x4 x5 x6 x7 x8 x9 x13 x14 false h87))) ∧
  ((!x14) = false →
  (x14 = true →
  ldP h55 x2 fun y97 =>
  F.table_Table_Slint_Slots y97 h55 fun r100 h99 =>
  (2 : Int) ≠ 0 ∧
  F.spatelaw6_lies.j4 Q K1 J1 l1 x4 x5 x6 x7 x8 x9 x13 x14 (decide (x13 ≥ (IntKind.wrap .i64 (Int.tdiv r100 2)))) h99) ∧
  (x14 = false →
  F.spatelaw6_lies.j4 Q K1 J1 l1 x4 x5 x6 x7 x8 x9 x13 x14 false h55)))))) ∧
  (x14 = false →
  ((!x14) = true →
  ldV h x7 fun y103 =>
  RunS PP (Instr.lookup 96 y103 (.int .i64 x13) false) h fun u h105 => ∃ r106 : Bool, u = (.bool r106) ∧
  (r106 = true →
  F.spatelaw6_lies.j4 Q K1 J1 l1 x4 x5 x6 x7 x8 x9 x13 x14 true h105) ∧
  (r106 = false →
  ((decide (x13 < 0)) = true →
  F.spatelaw6_lies.j4 Q K1 J1 l1 x4 x5 x6 x7 x8 x9 x13 x14 true h105) ∧
  ((decide (x13 < 0)) = false →
  ((!x14) = true →
  ldP h105 x2 fun y110 =>
  F.table_Table_Slint_Slots y110 h105 fun r113 h112 =>
  ((decide (x13 ≥ r113)) = true →
  F.spatelaw6_lies.j4 Q K1 J1 l1 x4 x5 x6 x7 x8 x9 x13 x14 true h112) ∧
  ((decide (x13 ≥ r113)) = false →
  (x14 = true →
  ldP h112 x2 fun y116 =>
  F.table_Table_Slint_Slots y116 h112 fun r119 h118 =>
  (2 : Int) ≠ 0 ∧
  F.spatelaw6_lies.j4 Q K1 J1 l1 x4 x5 x6 x7 x8 x9 x13 x14 (decide (x13 ≥ (IntKind.wrap .i64 (Int.tdiv r119 2)))) h118) ∧
  (x14 = false →
  F.spatelaw6_lies.j4 Q K1 J1 l1 x4 x5 x6 x7 x8 x9 x13 x14 false h112))) ∧
  ((!x14) = false →
  (x14 = true →
  ldP h105 x2 fun y122 =>
  F.table_Table_Slint_Slots y122 h105 fun r125 h124 =>
  (2 : Int) ≠ 0 ∧
  F.spatelaw6_lies.j4 Q K1 J1 l1 x4 x5 x6 x7 x8 x9 x13 x14 (decide (x13 ≥ (IntKind.wrap .i64 (Int.tdiv r125 2)))) h124) ∧
  (x14 = false →
  F.spatelaw6_lies.j4 Q K1 J1 l1 x4 x5 x6 x7 x8 x9 x13 x14 false h105))))) ∧
  ((!x14) = false →
  ((decide (x13 < 0)) = true →
  F.spatelaw6_lies.j4 Q K1 J1 l1 x4 x5 x6 x7 x8 x9 x13 x14 true h) ∧
  ((decide (x13 < 0)) = false →
  ((!x14) = true →
  ldP h x2 fun y129 =>
  F.table_Table_Slint_Slots y129 h fun r132 h131 =>
  ((decide (x13 ≥ r132)) = true →
  F.spatelaw6_lies.j4 Q K1 J1 l1 x4 x5 x6 x7 x8 x9 x13 x14 true h131) ∧
  ((decide (x13 ≥ r132)) = false →
  (x14 = true →
  ldP h131 x2 fun y135 =>
  F.table_Table_Slint_Slots y135 h131 fun r138 h137 =>
  (2 : Int) ≠ 0 ∧
  F.spatelaw6_lies.j4 Q K1 J1 l1 x4 x5 x6 x7 x8 x9 x13 x14 (decide (x13 ≥ (IntKind.wrap .i64 (Int.tdiv r138 2)))) h137) ∧
  (x14 = false →
  F.spatelaw6_lies.j4 Q K1 J1 l1 x4 x5 x6 x7 x8 x9 x13 x14 false h131))) ∧
  ((!x14) = false →
  (x14 = true →
  ldP h x2 fun y141 =>
  F.table_Table_Slint_Slots y141 h fun r144 h143 =>
  (2 : Int) ≠ 0 ∧
  F.spatelaw6_lies.j4 Q K1 J1 l1 x4 x5 x6 x7 x8 x9 x13 x14 (decide (x13 ≥ (IntKind.wrap .i64 (Int.tdiv r144 2)))) h143) ∧
  (x14 = false →
  F.spatelaw6_lies.j4 Q K1 J1 l1 x4 x5 x6 x7 x8 x9 x13 x14 false h)))))
def F.spatelaw6_lies.j5 (Q : Bool → H → Prop) (K1 : H → Prop) (J1 : Nat → H → Prop) (l1 : Nat) (x2 : Addr) (x4 : Addr) (x5 : Addr) (x6 : Addr) (x7 : Addr) (x8 : Addr) (x9 : ByteArray) (x13 : Int) (x14 : Bool) (x61 : Bool) (h : H) : Prop :=
  (x61 = true →
  stH h x4 [(.bool false)] fun h147 =>
  J1 0 h147) ∧
  (x61 = false →
  F.spatelaw6_lies.j1 Q K1 J1 l1 x2 x4 x5 x6 x7 x8 x9 x13 x14 h)
def F.spatelaw6_lies.j6 (Q : Bool → H → Prop) (K2 : H → Prop) (J2 : Nat → H → Prop) (l2 : Nat) (x4 : Addr) (x133 : Bool) (h : H) : Prop :=
  (x133 = true →
  stH h x4 [(.bool false)] fun h174 =>
  J2 0 h174) ∧
  (x133 = false →
  K2 h)
def F.spatelaw6_lies.l7 (Q : Bool → H → Prop) (K2 : H → Prop) (J2 : Nat → H → Prop) (l2 : Nat) : Nat → Addr → Addr → Addr → Int → Int → H → Prop
  | 0, _, _, _, _, _, _ => False
  | q7 + 1, x2, x4, x7, x17, x20, h =>
    (((x20 != x17)) = true →
    ldV h x7 fun y199 =>
    RunS PP (Instr.lookup 96 y199 (.int .i64 x20) false) h fun u h201 => ∃ r202 : Bool, u = (.bool r202) ∧
    ((!r202) = true →
    stH h201 x4 [(.bool false)] fun h204 =>
    J2 0 h204) ∧
    ((!r202) = false →
    ldP h201 x2 fun y205 =>
    F.table_Table_Slint_Slots y205 h201 fun r208 h207 =>
    (r208 : Int) ≠ 0 ∧
    (F.spatelaw6_lies.l7 Q K2 J2 l2 q7) x2 x4 x7 x17 (Int.tmod (IntKind.wrap .i64 (x20 + 1)) r208) h207)) ∧
    (((x20 != x17)) = false →
    K2 h)
/-- spate/spatelaw6.lies -/
def F.spatelaw6_lies (p0 : Option Addr) (p1 : Value) (h : H) (Q : Bool → H → Prop) : Prop :=
  new h #[(.pointer p0)] ty_48 fun a2 h1 =>
  p1.cells = #[p1] ∧
  new h1 #[p1] ty_50 fun a4 h3 =>
  new h3 #[(.bool false)] ty_4 fun a6 h5 =>
  new h5 #[(.int .i64 0)] ty_3 fun a8 h7 =>
  stH h7 a8 [(.int .i64 0)] fun h9 =>
  new h9 #[(.string (⟨#[]⟩ : ByteArray))] ty_9 fun a11 h10 =>
  stH h10 a11 [(.string (⟨#[]⟩ : ByteArray))] fun h12 =>
  RunS PP (Instr.makeMap 96 none) h12 fun m14 h13 =>
  new h13 #[(.map none)] ty_96 fun a16 h15 =>
  m14.cells = #[m14] ∧
  m14.oneCell' = true ∧
  stH h15 a16 [m14] fun h17 =>
  RunS PP (Instr.makeMap 96 none) h17 fun m19 h18 =>
  new h18 #[(.map none)] ty_96 fun a21 h20 =>
  m19.cells = #[m19] ∧
  m19.oneCell' = true ∧
  stH h20 a21 [m19] fun h22 =>
  ldP h22 a2 fun y23 =>
  F.table_Table_Slint_All y23 h22 fun r26 h25 =>
  rng PP r26 h25 [Code.ret] (fun bg1 l1 args h K1 J1 => ∃ (y1_25 : ByteArray), ∃ (y1_26 : Sl), args = [(.string y1_25), y1_26.enc] ∧
    bg1 h fun h27 =>
    ldV h27 a4 fun y28 =>
    RunS PP (Instr.lookup 50 y28 (.string y1_25) true) h27 fun u h30 => ∃ (r31 : Int) (r32 : Bool), u = (.tuple #[(.int .i64 r31), (.bool r32)]) ∧
    ldP h30 a2 fun y33 =>
    F.table_Table_Slint_Place y33 y1_25 h30 fun r36 r37 r38 h35 =>
    ((!r32) = true →
    F.spatelaw6_lies.j5 Q K1 J1 l1 a2 a6 a8 a11 a16 a21 y1_25 r36 r37 true h35) ∧
    ((!r32) = false →
    ((!r38) = true →
    F.spatelaw6_lies.j5 Q K1 J1 l1 a2 a6 a8 a11 a16 a21 y1_25 r36 r37 true h35) ∧
    ((!r38) = false →
    idxA y1_26 0 1 fun a150 =>
    ldI .i64 h35 a150 fun y152 =>
    (((y152 != r31)) = true →
    F.spatelaw6_lies.j5 Q K1 J1 l1 a2 a6 a8 a11 a16 a21 y1_25 r36 r37 true h35) ∧
    (((y152 != r31)) = false →
    ldI .i64 h35 a8 fun y155 =>
    ((decide (y155 > 0)) = true →
    ldS h35 a11 fun y158 =>
    F.spatelaw6_lies.j5 Q K1 J1 l1 a2 a6 a8 a11 a16 a21 y1_25 r36 r37 (Op.bytesLess y1_25.toList y158.toList || (y1_25.toList == y158.toList)) h35) ∧
    ((decide (y155 > 0)) = false →
    F.spatelaw6_lies.j5 Q K1 J1 l1 a2 a6 a8 a11 a16 a21 y1_25 r36 r37 false h35))))) (fun h160 =>
    ldP h160 a2 fun y161 =>
    F.table_Table_Slint_All y161 h160 fun r164 h163 =>
    rng PP r164 h163 [Code.ret] (fun bg2 l2 args h K2 J2 => ∃ (y2_111 : ByteArray), ∃ (y2_112 : Sl), args = [(.string y2_111), y2_112.enc] ∧
      bg2 h fun h165 =>
      ldP h165 a2 fun y166 =>
      F.table_Table_Slint_Place y166 y2_111 h165 fun r169 r170 r171 h168 =>
      (r170 = true →
      ldP h168 a2 fun y175 =>
      F.table_Table_Slint_Left y175 h168 fun r178 h177 =>
      (((r178 == 0)) = true →
      F.spatelaw6_lies.j6 Q K2 J2 l2 a6 true h177) ∧
      (((r178 == 0)) = false →
      ldP h177 a2 fun y180 =>
      ldP h177 a2 fun y182 =>
      F.table_Table_Slint_Slots y180 h177 fun r185 h184 =>
      cellH h184 a2 = some (.pointer y182) ∧
      (2 : Int) ≠ 0 ∧
      F.table_Table_Slint_Left y182 h184 fun r189 h188 =>
      F.spatelaw6_lies.j6 Q K2 J2 l2 a6 (decide (r169 < (IntKind.wrap .i64 ((IntKind.wrap .i64 (Int.tdiv r185 2)) - r189)))) h188)) ∧
      (r170 = false →
      ldP h168 a2 fun y190 =>
      F.table_Hash y2_111 h168 fun r193 h192 =>
      cellH h192 a2 = some (.pointer y190) ∧
      F.table_Table_Slint_Slots y190 h192 fun r196 h195 =>
      ((IntKind.wrap .u64 r196) : Int) ≠ 0 ∧
      ∃ m, F.spatelaw6_lies.l7 Q K2 J2 l2 m a2 a6 a16 r169 (IntKind.wrap .i64 (Int.tmod r193 (IntKind.wrap .u64 r196))) h195)) (fun h211 =>
      ldI .i64 h211 a8 fun y212 =>
      ldV h211 a4 fun y214 =>
      RunS PP (Builtin.len_ #[50] 3 #[y214]) h211 fun u h216 => ∃ s217 : Int, u = (.int .i64 s217) ∧
      stH h216 a6 [(.bool ((y212 == s217)))] fun h218 =>
      shuts (h163.size :: (h25.size :: ([] : List Nat))) h218 fun h219 =>
      ldB h219 a6 fun y220 =>
      Q y220 h219) (fun jj h222 =>
      (jj = 0 →
        shuts (h163.size :: (h25.size :: ([] : List Nat))) h222 fun h223 =>
        ldB h223 a6 fun y224 =>
        Q y224 h223))) (fun jj h226 =>
    (jj = 0 →
      shuts (h25.size :: ([] : List Nat)) h226 fun h227 =>
      ldB h227 a6 fun y228 =>
      Q y228 h227))
theorem F.spatelaw6_lies_ok {p0 : Option Addr} {p1 : Value} {h : H} {Q : Bool → H → Prop} (H : F.spatelaw6_lies p0 p1 h Q) : Fn PP 39 ([(.pointer p0), p1] : List Value).toArray h fun r h' => ∃ r0, r = (.bool r0) ∧ Q r0 h' := by
  unfold F.spatelaw6_lies at H
  refine fn_ofM Try.func39 Try.ntmps39 rfl rfl fun w0 => ?_
  refine tr_sub [(0, (.pointer p0)), (1, p1)] ⟨rfl, rfl, trivial⟩ ?_
  refine tr_seq ?_
  refine tr_region ?_
  refine tr_e (f_box (cs := #[(.pointer p0)]) rfl rfl H) rfl rfl ?_
  rintro _ h1 ⟨a2, rfl, H⟩
  refine tr_e (f_box (cs := #[p1]) rfl H.1 H.2) rfl rfl ?_
  rintro _ h3 ⟨a4, rfl, H⟩
  refine tr_e (f_alloc (cs := #[(.bool false)]) Try.zeroValue4 rfl H) rfl rfl ?_
  rintro _ h5 ⟨a6, rfl, H⟩
  refine tr_nil ?_
  refine tr_thenN ?_
  refine tr_seq ?_
  refine tr_region ?_
  refine tr_e (f_alloc (cs := #[(.int .i64 0)]) Try.zeroValue3 rfl H) rfl rfl ?_
  rintro _ h7 ⟨a8, rfl, H⟩
  refine tr_e (f_store (vs := [(.int .i64 0)]) Try.sizeOf3 rfl rfl rfl rfl (one1 rfl) H) rfl rfl ?_
  rintro _ h9 ⟨rfl, H⟩
  refine tr_nil ?_
  refine tr_thenN ?_
  refine tr_seq ?_
  refine tr_region ?_
  refine tr_e (f_alloc (cs := #[(.string (⟨#[]⟩ : ByteArray))]) Try.zeroValue9 rfl H) rfl rfl ?_
  rintro _ h10 ⟨a11, rfl, H⟩
  refine tr_e (f_store (vs := [(.string (⟨#[]⟩ : ByteArray))]) Try.sizeOf9 rfl rfl rfl rfl (one1 rfl) H) rfl rfl ?_
  rintro _ h12 ⟨rfl, H⟩
  refine tr_nil ?_
  refine tr_thenN ?_
  refine tr_seq ?_
  refine tr_region ?_
  refine tr_e (f_mkN H) rfl rfl ?_
  rintro m14 h13 H
  refine tr_e (f_alloc (cs := #[(.map none)]) Try.zeroValue96 rfl H) rfl rfl ?_
  rintro _ h15 ⟨a16, rfl, H⟩
  refine tr_e (f_store (vs := [m14]) Try.sizeOf96 rfl rfl (congrArg Array.toList H.1) rfl (one1 H.2.1) H.2.2) rfl rfl ?_
  rintro _ h17 ⟨rfl, H⟩
  refine tr_nil ?_
  refine tr_thenN ?_
  refine tr_seq ?_
  refine tr_region ?_
  refine tr_e (f_mkN H) rfl rfl ?_
  rintro m19 h18 H
  refine tr_e (f_alloc (cs := #[(.map none)]) Try.zeroValue96 rfl H) rfl rfl ?_
  rintro _ h20 ⟨a21, rfl, H⟩
  refine tr_e (f_store (vs := [m19]) Try.sizeOf96 rfl rfl (congrArg Array.toList H.1) rfl (one1 H.2.1) H.2.2) rfl rfl ?_
  rintro _ h22 ⟨rfl, H⟩
  refine tr_nil ?_
  refine tr_thenN ?_
  refine tr_seq ?_
  refine tr_seq ?_
  refine tr_region ?_
  obtain ⟨y23, k24, H⟩ := H
  refine tr_h (y_ld Try.isAgg48 rfl) k24 rfl rfl ?_
  refine tr_e (e_call Try.call56 rfl (F.table_Table_Slint_All_ok H)) rfl rfl ?_
  rintro r26 h25 ⟨_, rfl, H⟩
  refine tr_nil ?_
  refine tr_thenN ?_
  refine tr_block ?_
  refine tr_range rfl (by kernel_rfl) H ?_ ?_ ?_
  · intro bg1 l1 args h K1 J1 w1 hbg1 H
    obtain ⟨y1_25, y1_26, rfl, H⟩ := H
    refine ⟨rfl, ?_⟩
    refine tr_sub [(0, (.pointer p0)), (1, p1), (2, (.pointer (some a2))), (3, (.pointer (some a4))), (4, (.pointer (some a6))), (5, (.pointer (some a8))), (6, (.pointer (some a11))), (21, m14), (7, (.pointer (some a16))), (22, m19), (8, (.pointer (some a21))), (23, (.pointer y23)), (24, r26), (25, (.string y1_25)), (26, y1_26.enc)] ⟨rfl, rfl, rfl, rfl, rfl, rfl, rfl, rfl, rfl, rfl, rfl, rfl, rfl, rfl, rfl, trivial⟩ ?_
    refine tr_seq ?_
    refine tr_region ?_
    refine tr_p (y_assign rfl) rfl rfl ?_
    refine tr_nil ?_
    refine tr_thenN ?_
    refine tr_region ?_
    refine tr_p (y_assign rfl) rfl rfl ?_
    refine tr_nil ?_
    refine tr_thenN ?_
    refine tr_bgn hbg1 H fun h27 H => ?_
    refine tr_block ?_
    refine tr_seq ?_
    refine tr_region ?_
    obtain ⟨y28, k29, H⟩ := H
    refine tr_h (y_ld Try.isAgg50 rfl) k29 rfl rfl ?_
    refine tr_p (y_move rfl) rfl rfl ?_
    refine tr_e (f_lk rfl rfl H) rfl rfl ?_
    rintro _ h30 ⟨r31, r32, rfl, H⟩
    refine tr_p (y_move rfl) rfl rfl ?_
    refine tr_p (y_ext rfl rfl) rfl rfl ?_
    refine tr_p (y_ext rfl rfl) rfl rfl ?_
    refine tr_p (y_assign rfl) rfl rfl ?_
    refine tr_p (y_assign rfl) rfl rfl ?_
    refine tr_nil ?_
    refine tr_thenN ?_
    refine tr_seq ?_
    refine tr_region ?_
    obtain ⟨y33, k34, H⟩ := H
    refine tr_h (y_ld Try.isAgg48 rfl) k34 rfl rfl ?_
    refine tr_p (y_move rfl) rfl rfl ?_
    refine tr_e (e_call Try.call57 rfl (F.table_Table_Slint_Place_ok H)) rfl rfl ?_
    rintro _ h35 ⟨r36, r37, r38, rfl, H⟩
    refine tr_p (y_move rfl) rfl rfl ?_
    refine tr_p (y_ext rfl rfl) rfl rfl ?_
    refine tr_p (y_ext rfl rfl) rfl rfl ?_
    refine tr_p (y_ext rfl rfl) rfl rfl ?_
    refine tr_p (y_assign rfl) rfl rfl ?_
    refine tr_p (y_assign rfl) rfl rfl ?_
    refine tr_p (y_assign rfl) rfl rfl ?_
    refine tr_nil ?_
    refine tr_thenN ?_
    refine tr_seq_j (fun L' h => ∃ (x2 : Addr) (x4 : Addr) (x5 : Addr) (x6 : Addr) (x7 : Addr) (x8 : Addr) (x9 : ByteArray) (x13 : Int) (x14 : Bool), L' = [(2, (.pointer (some x2))), (4, (.pointer (some x4))), (5, (.pointer (some x5))), (6, (.pointer (some x6))), (7, (.pointer (some x7))), (8, (.pointer (some x8))), (9, (.string x9)), (13, (.int .i64 x13)), (14, (.bool x14))] ∧ F.spatelaw6_lies.j1 Q K1 J1 l1 x2 x4 x5 x6 x7 x8 x9 x13 x14 h) ?_ ?_
    · rintro L' h ⟨x2, x4, x5, x6, x7, x8, x9, x13, x14, rfl, H⟩
      unfold F.spatelaw6_lies.j1 at H
      refine tr_seq_j (fun L' h => ∃ (x5 : Addr) (x6 : Addr) (x7 : Addr) (x8 : Addr) (x9 : ByteArray) (x13 : Int) (x14 : Bool), L' = [(5, (.pointer (some x5))), (6, (.pointer (some x6))), (7, (.pointer (some x7))), (8, (.pointer (some x8))), (9, (.string x9)), (13, (.int .i64 x13)), (14, (.bool x14))] ∧ F.spatelaw6_lies.j2 Q K1 J1 l1 x5 x6 x7 x8 x9 x13 x14 h) ?_ ?_
      · rintro L' h ⟨x5, x6, x7, x8, x9, x13, x14, rfl, H⟩
        unfold F.spatelaw6_lies.j2 at H
        refine tr_seq_j (fun L' h => ∃ (x5 : Addr) (x6 : Addr) (x9 : ByteArray), L' = [(5, (.pointer (some x5))), (6, (.pointer (some x6))), (9, (.string x9))] ∧ F.spatelaw6_lies.j3 Q K1 J1 l1 x5 x6 x9 h) ?_ ?_
        · rintro L' h ⟨x5, x6, x9, rfl, H⟩
          unfold F.spatelaw6_lies.j3 at H
          refine tr_seq ?_
          refine tr_region ?_
          refine tr_p (y_move rfl) rfl rfl ?_
          refine tr_e (f_store (vs := [(.string x9)]) Try.sizeOf9 rfl rfl rfl rfl (one1 rfl) H) rfl rfl ?_
          rintro _ h39 ⟨rfl, H⟩
          refine tr_nil ?_
          refine tr_thenN ?_
          refine tr_region ?_
          obtain ⟨y40, k41, H⟩ := H
          refine tr_h (y_ld Try.isAgg3 rfl) k41 rfl rfl ?_
          refine tr_p (y_add rfl rfl) rfl rfl ?_
          refine tr_e (f_store (vs := [(.int .i64 (IntKind.wrap .i64 (y40 + 1)))]) Try.sizeOf3 rfl rfl rfl rfl (one1 rfl) H) rfl rfl ?_
          rintro _ h42 ⟨rfl, H⟩
          refine tr_nil ?_
          refine tr_blockN ?_
          exact tr_rN H
        · refine tr_seq ?_
          refine tr_region ?_
          refine tr_p (y_move rfl) rfl rfl ?_
          refine tr_nil ?_
          refine tr_thenN ?_
          refine tr_cond rfl (fun g43 => ?_) (fun g43 => ?_)
          · replace H := H.1 g43
            refine tr_region ?_
            obtain ⟨y44, k45, H⟩ := H
            refine tr_h (y_ld Try.isAgg96 rfl) k45 rfl rfl ?_
            refine tr_p (y_move rfl) rfl rfl ?_
            refine tr_e (f_mu rfl rfl rfl H) rfl rfl ?_
            rintro _ h46 ⟨rfl, H⟩
            refine tr_nil ?_
            refine tr_thenN ?_
            exact tr_join [(5, (.pointer (some x5))), (6, (.pointer (some x6))), (9, (.string x9))] ⟨rfl, rfl, rfl, trivial⟩ ⟨_, _, _, rfl, H⟩
          · replace H := H.2 g43
            refine tr_region ?_
            obtain ⟨y47, k48, H⟩ := H
            refine tr_h (y_ld Try.isAgg96 rfl) k48 rfl rfl ?_
            refine tr_p (y_move rfl) rfl rfl ?_
            refine tr_e (f_mu rfl rfl rfl H) rfl rfl ?_
            rintro _ h49 ⟨rfl, H⟩
            refine tr_nil ?_
            refine tr_thenN ?_
            exact tr_join [(5, (.pointer (some x5))), (6, (.pointer (some x6))), (9, (.string x9))] ⟨rfl, rfl, rfl, trivial⟩ ⟨_, _, _, rfl, H⟩
      · refine tr_seq_j (fun L' h => ∃ (x4 : Addr) (x5 : Addr) (x6 : Addr) (x7 : Addr) (x8 : Addr) (x9 : ByteArray) (x13 : Int) (x14 : Bool) (x100 : Bool), L' = [(4, (.pointer (some x4))), (5, (.pointer (some x5))), (6, (.pointer (some x6))), (7, (.pointer (some x7))), (8, (.pointer (some x8))), (9, (.string x9)), (13, (.int .i64 x13)), (14, (.bool x14)), (100, (.bool x100))] ∧ F.spatelaw6_lies.j4 Q K1 J1 l1 x4 x5 x6 x7 x8 x9 x13 x14 x100 h) ?_ ?_
        · rintro L' h ⟨x4, x5, x6, x7, x8, x9, x13, x14, x100, rfl, H⟩
          unfold F.spatelaw6_lies.j4 at H
          refine tr_cond rfl (fun g50 => ?_) (fun g50 => ?_)
          · replace H := H.1 g50
            refine tr_seq ?_
            refine tr_region ?_
            refine tr_e (f_store (vs := [(.bool false)]) Try.sizeOf4 rfl rfl rfl rfl (one1 rfl) H) rfl rfl ?_
            rintro _ h51 ⟨rfl, H⟩
            refine tr_nil ?_
            refine tr_thenN ?_
            refine tr_ret ?_
            refine tr_thenR ?_
            refine tr_blockR ?_
            exact tr_rR 0 rfl H
          · replace H := H.2 g50
            refine tr_skip ?_
            refine tr_thenN ?_
            exact tr_join [(5, (.pointer (some x5))), (6, (.pointer (some x6))), (7, (.pointer (some x7))), (8, (.pointer (some x8))), (9, (.string x9)), (13, (.int .i64 x13)), (14, (.bool x14))] ⟨rfl, rfl, rfl, rfl, rfl, rfl, rfl, trivial⟩ ⟨_, _, _, _, _, _, _, rfl, H⟩
        · refine tr_region ?_
          refine tr_p (y_move rfl) rfl rfl ?_
          refine tr_p (y_move rfl) rfl rfl ?_
          refine tr_split (t := 63) rfl (fun g52 => ?_) (fun g52 => ?_)
          · replace H := H.1 g52
            obtain ⟨y53, k54, H⟩ := H
            refine tr_h (y_ld Try.isAgg96 rfl) k54 rfl rfl ?_
            refine tr_p (y_move rfl) rfl rfl ?_
            refine tr_e (f_lk rfl rfl H) rfl rfl ?_
            rintro _ h55 ⟨r56, rfl, H⟩
            refine tr_p (y_pick_t rfl rfl) rfl rfl ?_
            refine tr_p (y_move rfl) rfl rfl ?_
            refine tr_split (t := 68) rfl (fun g57 => ?_) (fun g57 => ?_)
            · replace H := H.1 g57
              refine tr_s rfl rfl ?_
              refine tr_s rfl rfl ?_
              refine tr_s rfl rfl ?_
              refine tr_s rfl rfl ?_
              refine tr_s rfl rfl ?_
              refine tr_s rfl rfl ?_
              refine tr_s rfl rfl ?_
              refine tr_p (y_pick_t rfl rfl) rfl rfl ?_
              refine tr_p (y_move rfl) rfl rfl ?_
              refine tr_s rfl rfl ?_
              refine tr_s rfl rfl ?_
              refine tr_p (y_pick_t rfl rfl) rfl rfl ?_
              refine tr_p (y_move rfl) rfl rfl ?_
              refine tr_s rfl rfl ?_
              refine tr_s rfl rfl ?_
              refine tr_s rfl rfl ?_
              refine tr_s rfl rfl ?_
              refine tr_s rfl rfl ?_
              refine tr_s rfl rfl ?_
              refine tr_s rfl rfl ?_
              refine tr_s rfl rfl ?_
              refine tr_p (y_pick_t rfl rfl) rfl rfl ?_
              refine tr_p (y_move rfl) rfl rfl ?_
              refine tr_s rfl rfl ?_
              refine tr_s rfl rfl ?_
              refine tr_s rfl rfl ?_
              refine tr_s rfl rfl ?_
              refine tr_s rfl rfl ?_
              refine tr_s rfl rfl ?_
              refine tr_s rfl rfl ?_
              refine tr_s rfl rfl ?_
              refine tr_p (y_pick_t rfl rfl) rfl rfl ?_
              refine tr_nil ?_
              refine tr_thenN ?_
              exact tr_join [(4, (.pointer (some x4))), (5, (.pointer (some x5))), (6, (.pointer (some x6))), (7, (.pointer (some x7))), (8, (.pointer (some x8))), (9, (.string x9)), (13, (.int .i64 x13)), (14, (.bool x14)), (100, (.bool true))] ⟨rfl, rfl, rfl, rfl, rfl, rfl, rfl, rfl, rfl, trivial⟩ ⟨_, _, _, _, _, _, _, _, _, rfl, H⟩
            · replace H := H.2 g57
              refine tr_p (y_move rfl) rfl rfl ?_
              refine tr_p (y_not rfl) rfl rfl ?_
              refine tr_p (y_move rfl) rfl rfl ?_
              refine tr_split (t := 71) rfl (fun g58 => ?_) (fun g58 => ?_)
              · replace H := H.1 g58
                obtain ⟨y59, k60, H⟩ := H
                refine tr_h (y_ld Try.isAgg96 rfl) k60 rfl rfl ?_
                refine tr_p (y_move rfl) rfl rfl ?_
                refine tr_e (f_lk rfl rfl H) rfl rfl ?_
                rintro _ h61 ⟨r62, rfl, H⟩
                refine tr_p (y_pick_t rfl rfl) rfl rfl ?_
                refine tr_p (y_pick_f rfl rfl) rfl rfl ?_
                refine tr_p (y_move rfl) rfl rfl ?_
                refine tr_split (t := 77) rfl (fun g63 => ?_) (fun g63 => ?_)
                · replace H := H.1 g63
                  refine tr_s rfl rfl ?_
                  refine tr_s rfl rfl ?_
                  refine tr_p (y_pick_t rfl rfl) rfl rfl ?_
                  refine tr_p (y_move rfl) rfl rfl ?_
                  refine tr_s rfl rfl ?_
                  refine tr_s rfl rfl ?_
                  refine tr_s rfl rfl ?_
                  refine tr_s rfl rfl ?_
                  refine tr_s rfl rfl ?_
                  refine tr_s rfl rfl ?_
                  refine tr_s rfl rfl ?_
                  refine tr_s rfl rfl ?_
                  refine tr_p (y_pick_t rfl rfl) rfl rfl ?_
                  refine tr_p (y_move rfl) rfl rfl ?_
                  refine tr_s rfl rfl ?_
                  refine tr_s rfl rfl ?_
                  refine tr_s rfl rfl ?_
                  refine tr_s rfl rfl ?_
                  refine tr_s rfl rfl ?_
                  refine tr_s rfl rfl ?_
                  refine tr_s rfl rfl ?_
                  refine tr_s rfl rfl ?_
                  refine tr_p (y_pick_t rfl rfl) rfl rfl ?_
                  refine tr_nil ?_
                  refine tr_thenN ?_
                  exact tr_join [(4, (.pointer (some x4))), (5, (.pointer (some x5))), (6, (.pointer (some x6))), (7, (.pointer (some x7))), (8, (.pointer (some x8))), (9, (.string x9)), (13, (.int .i64 x13)), (14, (.bool x14)), (100, (.bool true))] ⟨rfl, rfl, rfl, rfl, rfl, rfl, rfl, rfl, rfl, trivial⟩ ⟨_, _, _, _, _, _, _, _, _, rfl, H⟩
                · replace H := H.2 g63
                  refine tr_p (y_move rfl) rfl rfl ?_
                  refine tr_p (y_lss rfl rfl) rfl rfl ?_
                  refine tr_p (y_pick_f rfl rfl) rfl rfl ?_
                  refine tr_p (y_move rfl) rfl rfl ?_
                  refine tr_split (t := 81) rfl (fun g64 => ?_) (fun g64 => ?_)
                  · replace H := H.1 g64
                    refine tr_s rfl rfl ?_
                    refine tr_s rfl rfl ?_
                    refine tr_s rfl rfl ?_
                    refine tr_s rfl rfl ?_
                    refine tr_s rfl rfl ?_
                    refine tr_s rfl rfl ?_
                    refine tr_s rfl rfl ?_
                    refine tr_s rfl rfl ?_
                    refine tr_p (y_pick_t rfl rfl) rfl rfl ?_
                    refine tr_p (y_move rfl) rfl rfl ?_
                    refine tr_s rfl rfl ?_
                    refine tr_s rfl rfl ?_
                    refine tr_s rfl rfl ?_
                    refine tr_s rfl rfl ?_
                    refine tr_s rfl rfl ?_
                    refine tr_s rfl rfl ?_
                    refine tr_s rfl rfl ?_
                    refine tr_s rfl rfl ?_
                    refine tr_p (y_pick_t rfl rfl) rfl rfl ?_
                    refine tr_nil ?_
                    refine tr_thenN ?_
                    exact tr_join [(4, (.pointer (some x4))), (5, (.pointer (some x5))), (6, (.pointer (some x6))), (7, (.pointer (some x7))), (8, (.pointer (some x8))), (9, (.string x9)), (13, (.int .i64 x13)), (14, (.bool x14)), (100, (.bool true))] ⟨rfl, rfl, rfl, rfl, rfl, rfl, rfl, rfl, rfl, trivial⟩ ⟨_, _, _, _, _, _, _, _, _, rfl, H⟩
                  · replace H := H.2 g64
                    refine tr_p (y_move rfl) rfl rfl ?_
                    refine tr_p (y_not rfl) rfl rfl ?_
                    refine tr_p (y_move rfl) rfl rfl ?_
                    refine tr_split (t := 84) rfl (fun g65 => ?_) (fun g65 => ?_)
                    · replace H := H.1 g65
                      refine tr_p (y_move rfl) rfl rfl ?_
                      obtain ⟨y66, k67, H⟩ := H
                      refine tr_h (y_ld Try.isAgg48 rfl) k67 rfl rfl ?_
                      refine tr_e (e_call Try.call32 rfl (F.table_Table_Slint_Slots_ok H)) rfl rfl ?_
                      rintro _ h68 ⟨r69, rfl, H⟩
                      refine tr_p (y_geq rfl rfl) rfl rfl ?_
                      refine tr_p (y_pick_t rfl rfl) rfl rfl ?_
                      refine tr_p (y_pick_f rfl rfl) rfl rfl ?_
                      refine tr_p (y_move rfl) rfl rfl ?_
                      refine tr_split (t := 91) rfl (fun g70 => ?_) (fun g70 => ?_)
                      · replace H := H.1 g70
                        refine tr_s rfl rfl ?_
                        refine tr_s rfl rfl ?_
                        refine tr_s rfl rfl ?_
                        refine tr_s rfl rfl ?_
                        refine tr_s rfl rfl ?_
                        refine tr_s rfl rfl ?_
                        refine tr_s rfl rfl ?_
                        refine tr_s rfl rfl ?_
                        refine tr_p (y_pick_t rfl rfl) rfl rfl ?_
                        refine tr_nil ?_
                        refine tr_thenN ?_
                        exact tr_join [(4, (.pointer (some x4))), (5, (.pointer (some x5))), (6, (.pointer (some x6))), (7, (.pointer (some x7))), (8, (.pointer (some x8))), (9, (.string x9)), (13, (.int .i64 x13)), (14, (.bool x14)), (100, (.bool true))] ⟨rfl, rfl, rfl, rfl, rfl, rfl, rfl, rfl, rfl, trivial⟩ ⟨_, _, _, _, _, _, _, _, _, rfl, H⟩
                      · replace H := H.2 g70
                        refine tr_p (y_move rfl) rfl rfl ?_
                        refine tr_p (y_move rfl) rfl rfl ?_
                        refine tr_split (t := 93) rfl (fun g71 => ?_) (fun g71 => ?_)
                        · replace H := H.1 g71
                          refine tr_p (y_move rfl) rfl rfl ?_
                          obtain ⟨y72, k73, H⟩ := H
                          refine tr_h (y_ld Try.isAgg48 rfl) k73 rfl rfl ?_
                          refine tr_e (e_call Try.call32 rfl (F.table_Table_Slint_Slots_ok H)) rfl rfl ?_
                          rintro _ h74 ⟨r75, rfl, H⟩
                          obtain ⟨e76, H⟩ := H
                          refine tr_p (y_quo rfl rfl e76) rfl rfl ?_
                          refine tr_p (y_geq rfl rfl) rfl rfl ?_
                          refine tr_p (y_pick_t rfl rfl) rfl rfl ?_
                          refine tr_p (y_pick_f rfl rfl) rfl rfl ?_
                          refine tr_nil ?_
                          refine tr_thenN ?_
                          exact tr_join [(4, (.pointer (some x4))), (5, (.pointer (some x5))), (6, (.pointer (some x6))), (7, (.pointer (some x7))), (8, (.pointer (some x8))), (9, (.string x9)), (13, (.int .i64 x13)), (14, (.bool x14)), (100, (.bool (decide (x13 ≥ (IntKind.wrap .i64 (Int.tdiv r75 2))))))] ⟨rfl, rfl, rfl, rfl, rfl, rfl, rfl, rfl, rfl, trivial⟩ ⟨_, _, _, _, _, _, _, _, _, rfl, H⟩
                        · replace H := H.2 g71
                          refine tr_s rfl rfl ?_
                          refine tr_s rfl rfl ?_
                          refine tr_s rfl rfl ?_
                          refine tr_s rfl rfl ?_
                          refine tr_s rfl rfl ?_
                          refine tr_p (y_pick_f rfl rfl) rfl rfl ?_
                          refine tr_p (y_pick_f rfl rfl) rfl rfl ?_
                          refine tr_nil ?_
                          refine tr_thenN ?_
                          exact tr_join [(4, (.pointer (some x4))), (5, (.pointer (some x5))), (6, (.pointer (some x6))), (7, (.pointer (some x7))), (8, (.pointer (some x8))), (9, (.string x9)), (13, (.int .i64 x13)), (14, (.bool x14)), (100, (.bool false))] ⟨rfl, rfl, rfl, rfl, rfl, rfl, rfl, rfl, rfl, trivial⟩ ⟨_, _, _, _, _, _, _, _, _, rfl, H⟩
                    · replace H := H.2 g65
                      refine tr_s rfl rfl ?_
                      refine tr_s rfl rfl ?_
                      refine tr_s rfl rfl ?_
                      refine tr_s rfl rfl ?_
                      refine tr_p (y_pick_f rfl rfl) rfl rfl ?_
                      refine tr_p (y_pick_f rfl rfl) rfl rfl ?_
                      refine tr_p (y_move rfl) rfl rfl ?_
                      refine tr_p (y_move rfl) rfl rfl ?_
                      refine tr_p (y_move rfl) rfl rfl ?_
                      refine tr_split (t := 93) rfl (fun g77 => ?_) (fun g77 => ?_)
                      · replace H := H.1 g77
                        refine tr_p (y_move rfl) rfl rfl ?_
                        obtain ⟨y78, k79, H⟩ := H
                        refine tr_h (y_ld Try.isAgg48 rfl) k79 rfl rfl ?_
                        refine tr_e (e_call Try.call32 rfl (F.table_Table_Slint_Slots_ok H)) rfl rfl ?_
                        rintro _ h80 ⟨r81, rfl, H⟩
                        obtain ⟨e82, H⟩ := H
                        refine tr_p (y_quo rfl rfl e82) rfl rfl ?_
                        refine tr_p (y_geq rfl rfl) rfl rfl ?_
                        refine tr_p (y_pick_t rfl rfl) rfl rfl ?_
                        refine tr_p (y_pick_f rfl rfl) rfl rfl ?_
                        refine tr_nil ?_
                        refine tr_thenN ?_
                        exact tr_join [(4, (.pointer (some x4))), (5, (.pointer (some x5))), (6, (.pointer (some x6))), (7, (.pointer (some x7))), (8, (.pointer (some x8))), (9, (.string x9)), (13, (.int .i64 x13)), (14, (.bool x14)), (100, (.bool (decide (x13 ≥ (IntKind.wrap .i64 (Int.tdiv r81 2))))))] ⟨rfl, rfl, rfl, rfl, rfl, rfl, rfl, rfl, rfl, trivial⟩ ⟨_, _, _, _, _, _, _, _, _, rfl, H⟩
                      · replace H := H.2 g77
                        refine tr_s rfl rfl ?_
                        refine tr_s rfl rfl ?_
                        refine tr_s rfl rfl ?_
                        refine tr_s rfl rfl ?_
                        refine tr_s rfl rfl ?_
                        refine tr_p (y_pick_f rfl rfl) rfl rfl ?_
                        refine tr_p (y_pick_f rfl rfl) rfl rfl ?_
                        refine tr_nil ?_
                        refine tr_thenN ?_
                        exact tr_join [(4, (.pointer (some x4))), (5, (.pointer (some x5))), (6, (.pointer (some x6))), (7, (.pointer (some x7))), (8, (.pointer (some x8))), (9, (.string x9)), (13, (.int .i64 x13)), (14, (.bool x14)), (100, (.bool false))] ⟨rfl, rfl, rfl, rfl, rfl, rfl, rfl, rfl, rfl, trivial⟩ ⟨_, _, _, _, _, _, _, _, _, rfl, H⟩
              · replace H := H.2 g58
                refine tr_s rfl rfl ?_
                refine tr_s rfl rfl ?_
                refine tr_s rfl rfl ?_
                refine tr_p (y_pick_f rfl rfl) rfl rfl ?_
                refine tr_p (y_pick_f rfl rfl) rfl rfl ?_
                refine tr_p (y_move rfl) rfl rfl ?_
                refine tr_p (y_move rfl) rfl rfl ?_
                refine tr_p (y_lss rfl rfl) rfl rfl ?_
                refine tr_p (y_pick_f rfl rfl) rfl rfl ?_
                refine tr_p (y_move rfl) rfl rfl ?_
                refine tr_split (t := 81) rfl (fun g83 => ?_) (fun g83 => ?_)
                · replace H := H.1 g83
                  refine tr_s rfl rfl ?_
                  refine tr_s rfl rfl ?_
                  refine tr_s rfl rfl ?_
                  refine tr_s rfl rfl ?_
                  refine tr_s rfl rfl ?_
                  refine tr_s rfl rfl ?_
                  refine tr_s rfl rfl ?_
                  refine tr_s rfl rfl ?_
                  refine tr_p (y_pick_t rfl rfl) rfl rfl ?_
                  refine tr_p (y_move rfl) rfl rfl ?_
                  refine tr_s rfl rfl ?_
                  refine tr_s rfl rfl ?_
                  refine tr_s rfl rfl ?_
                  refine tr_s rfl rfl ?_
                  refine tr_s rfl rfl ?_
                  refine tr_s rfl rfl ?_
                  refine tr_s rfl rfl ?_
                  refine tr_s rfl rfl ?_
                  refine tr_p (y_pick_t rfl rfl) rfl rfl ?_
                  refine tr_nil ?_
                  refine tr_thenN ?_
                  exact tr_join [(4, (.pointer (some x4))), (5, (.pointer (some x5))), (6, (.pointer (some x6))), (7, (.pointer (some x7))), (8, (.pointer (some x8))), (9, (.string x9)), (13, (.int .i64 x13)), (14, (.bool x14)), (100, (.bool true))] ⟨rfl, rfl, rfl, rfl, rfl, rfl, rfl, rfl, rfl, trivial⟩ ⟨_, _, _, _, _, _, _, _, _, rfl, H⟩
                · replace H := H.2 g83
                  refine tr_p (y_move rfl) rfl rfl ?_
                  refine tr_p (y_not rfl) rfl rfl ?_
                  refine tr_p (y_move rfl) rfl rfl ?_
                  refine tr_split (t := 84) rfl (fun g84 => ?_) (fun g84 => ?_)
                  · replace H := H.1 g84
                    refine tr_p (y_move rfl) rfl rfl ?_
                    obtain ⟨y85, k86, H⟩ := H
                    refine tr_h (y_ld Try.isAgg48 rfl) k86 rfl rfl ?_
                    refine tr_e (e_call Try.call32 rfl (F.table_Table_Slint_Slots_ok H)) rfl rfl ?_
                    rintro _ h87 ⟨r88, rfl, H⟩
                    refine tr_p (y_geq rfl rfl) rfl rfl ?_
                    refine tr_p (y_pick_t rfl rfl) rfl rfl ?_
                    refine tr_p (y_pick_f rfl rfl) rfl rfl ?_
                    refine tr_p (y_move rfl) rfl rfl ?_
                    refine tr_split (t := 91) rfl (fun g89 => ?_) (fun g89 => ?_)
                    · replace H := H.1 g89
                      refine tr_s rfl rfl ?_
                      refine tr_s rfl rfl ?_
                      refine tr_s rfl rfl ?_
                      refine tr_s rfl rfl ?_
                      refine tr_s rfl rfl ?_
                      refine tr_s rfl rfl ?_
                      refine tr_s rfl rfl ?_
                      refine tr_s rfl rfl ?_
                      refine tr_p (y_pick_t rfl rfl) rfl rfl ?_
                      refine tr_nil ?_
                      refine tr_thenN ?_
                      exact tr_join [(4, (.pointer (some x4))), (5, (.pointer (some x5))), (6, (.pointer (some x6))), (7, (.pointer (some x7))), (8, (.pointer (some x8))), (9, (.string x9)), (13, (.int .i64 x13)), (14, (.bool x14)), (100, (.bool true))] ⟨rfl, rfl, rfl, rfl, rfl, rfl, rfl, rfl, rfl, trivial⟩ ⟨_, _, _, _, _, _, _, _, _, rfl, H⟩
                    · replace H := H.2 g89
                      refine tr_p (y_move rfl) rfl rfl ?_
                      refine tr_p (y_move rfl) rfl rfl ?_
                      refine tr_split (t := 93) rfl (fun g90 => ?_) (fun g90 => ?_)
                      · replace H := H.1 g90
                        refine tr_p (y_move rfl) rfl rfl ?_
                        obtain ⟨y91, k92, H⟩ := H
                        refine tr_h (y_ld Try.isAgg48 rfl) k92 rfl rfl ?_
                        refine tr_e (e_call Try.call32 rfl (F.table_Table_Slint_Slots_ok H)) rfl rfl ?_
                        rintro _ h93 ⟨r94, rfl, H⟩
                        obtain ⟨e95, H⟩ := H
                        refine tr_p (y_quo rfl rfl e95) rfl rfl ?_
                        refine tr_p (y_geq rfl rfl) rfl rfl ?_
                        refine tr_p (y_pick_t rfl rfl) rfl rfl ?_
                        refine tr_p (y_pick_f rfl rfl) rfl rfl ?_
                        refine tr_nil ?_
                        refine tr_thenN ?_
                        exact tr_join [(4, (.pointer (some x4))), (5, (.pointer (some x5))), (6, (.pointer (some x6))), (7, (.pointer (some x7))), (8, (.pointer (some x8))), (9, (.string x9)), (13, (.int .i64 x13)), (14, (.bool x14)), (100, (.bool (decide (x13 ≥ (IntKind.wrap .i64 (Int.tdiv r94 2))))))] ⟨rfl, rfl, rfl, rfl, rfl, rfl, rfl, rfl, rfl, trivial⟩ ⟨_, _, _, _, _, _, _, _, _, rfl, H⟩
                      · replace H := H.2 g90
                        refine tr_s rfl rfl ?_
                        refine tr_s rfl rfl ?_
                        refine tr_s rfl rfl ?_
                        refine tr_s rfl rfl ?_
                        refine tr_s rfl rfl ?_
                        refine tr_p (y_pick_f rfl rfl) rfl rfl ?_
                        refine tr_p (y_pick_f rfl rfl) rfl rfl ?_
                        refine tr_nil ?_
                        refine tr_thenN ?_
                        exact tr_join [(4, (.pointer (some x4))), (5, (.pointer (some x5))), (6, (.pointer (some x6))), (7, (.pointer (some x7))), (8, (.pointer (some x8))), (9, (.string x9)), (13, (.int .i64 x13)), (14, (.bool x14)), (100, (.bool false))] ⟨rfl, rfl, rfl, rfl, rfl, rfl, rfl, rfl, rfl, trivial⟩ ⟨_, _, _, _, _, _, _, _, _, rfl, H⟩
                  · replace H := H.2 g84
                    refine tr_s rfl rfl ?_
                    refine tr_s rfl rfl ?_
                    refine tr_s rfl rfl ?_
                    refine tr_s rfl rfl ?_
                    refine tr_p (y_pick_f rfl rfl) rfl rfl ?_
                    refine tr_p (y_pick_f rfl rfl) rfl rfl ?_
                    refine tr_p (y_move rfl) rfl rfl ?_
                    refine tr_p (y_move rfl) rfl rfl ?_
                    refine tr_p (y_move rfl) rfl rfl ?_
                    refine tr_split (t := 93) rfl (fun g96 => ?_) (fun g96 => ?_)
                    · replace H := H.1 g96
                      refine tr_p (y_move rfl) rfl rfl ?_
                      obtain ⟨y97, k98, H⟩ := H
                      refine tr_h (y_ld Try.isAgg48 rfl) k98 rfl rfl ?_
                      refine tr_e (e_call Try.call32 rfl (F.table_Table_Slint_Slots_ok H)) rfl rfl ?_
                      rintro _ h99 ⟨r100, rfl, H⟩
                      obtain ⟨e101, H⟩ := H
                      refine tr_p (y_quo rfl rfl e101) rfl rfl ?_
                      refine tr_p (y_geq rfl rfl) rfl rfl ?_
                      refine tr_p (y_pick_t rfl rfl) rfl rfl ?_
                      refine tr_p (y_pick_f rfl rfl) rfl rfl ?_
                      refine tr_nil ?_
                      refine tr_thenN ?_
                      exact tr_join [(4, (.pointer (some x4))), (5, (.pointer (some x5))), (6, (.pointer (some x6))), (7, (.pointer (some x7))), (8, (.pointer (some x8))), (9, (.string x9)), (13, (.int .i64 x13)), (14, (.bool x14)), (100, (.bool (decide (x13 ≥ (IntKind.wrap .i64 (Int.tdiv r100 2))))))] ⟨rfl, rfl, rfl, rfl, rfl, rfl, rfl, rfl, rfl, trivial⟩ ⟨_, _, _, _, _, _, _, _, _, rfl, H⟩
                    · replace H := H.2 g96
                      refine tr_s rfl rfl ?_
                      refine tr_s rfl rfl ?_
                      refine tr_s rfl rfl ?_
                      refine tr_s rfl rfl ?_
                      refine tr_s rfl rfl ?_
                      refine tr_p (y_pick_f rfl rfl) rfl rfl ?_
                      refine tr_p (y_pick_f rfl rfl) rfl rfl ?_
                      refine tr_nil ?_
                      refine tr_thenN ?_
                      exact tr_join [(4, (.pointer (some x4))), (5, (.pointer (some x5))), (6, (.pointer (some x6))), (7, (.pointer (some x7))), (8, (.pointer (some x8))), (9, (.string x9)), (13, (.int .i64 x13)), (14, (.bool x14)), (100, (.bool false))] ⟨rfl, rfl, rfl, rfl, rfl, rfl, rfl, rfl, rfl, trivial⟩ ⟨_, _, _, _, _, _, _, _, _, rfl, H⟩
          · replace H := H.2 g52
            refine tr_s rfl rfl ?_
            refine tr_s rfl rfl ?_
            refine tr_s rfl rfl ?_
            refine tr_p (y_pick_f rfl rfl) rfl rfl ?_
            refine tr_p (y_move rfl) rfl rfl ?_
            refine tr_p (y_move rfl) rfl rfl ?_
            refine tr_p (y_not rfl) rfl rfl ?_
            refine tr_p (y_move rfl) rfl rfl ?_
            refine tr_split (t := 71) rfl (fun g102 => ?_) (fun g102 => ?_)
            · replace H := H.1 g102
              obtain ⟨y103, k104, H⟩ := H
              refine tr_h (y_ld Try.isAgg96 rfl) k104 rfl rfl ?_
              refine tr_p (y_move rfl) rfl rfl ?_
              refine tr_e (f_lk rfl rfl H) rfl rfl ?_
              rintro _ h105 ⟨r106, rfl, H⟩
              refine tr_p (y_pick_t rfl rfl) rfl rfl ?_
              refine tr_p (y_pick_f rfl rfl) rfl rfl ?_
              refine tr_p (y_move rfl) rfl rfl ?_
              refine tr_split (t := 77) rfl (fun g107 => ?_) (fun g107 => ?_)
              · replace H := H.1 g107
                refine tr_s rfl rfl ?_
                refine tr_s rfl rfl ?_
                refine tr_p (y_pick_t rfl rfl) rfl rfl ?_
                refine tr_p (y_move rfl) rfl rfl ?_
                refine tr_s rfl rfl ?_
                refine tr_s rfl rfl ?_
                refine tr_s rfl rfl ?_
                refine tr_s rfl rfl ?_
                refine tr_s rfl rfl ?_
                refine tr_s rfl rfl ?_
                refine tr_s rfl rfl ?_
                refine tr_s rfl rfl ?_
                refine tr_p (y_pick_t rfl rfl) rfl rfl ?_
                refine tr_p (y_move rfl) rfl rfl ?_
                refine tr_s rfl rfl ?_
                refine tr_s rfl rfl ?_
                refine tr_s rfl rfl ?_
                refine tr_s rfl rfl ?_
                refine tr_s rfl rfl ?_
                refine tr_s rfl rfl ?_
                refine tr_s rfl rfl ?_
                refine tr_s rfl rfl ?_
                refine tr_p (y_pick_t rfl rfl) rfl rfl ?_
                refine tr_nil ?_
                refine tr_thenN ?_
                exact tr_join [(4, (.pointer (some x4))), (5, (.pointer (some x5))), (6, (.pointer (some x6))), (7, (.pointer (some x7))), (8, (.pointer (some x8))), (9, (.string x9)), (13, (.int .i64 x13)), (14, (.bool x14)), (100, (.bool true))] ⟨rfl, rfl, rfl, rfl, rfl, rfl, rfl, rfl, rfl, trivial⟩ ⟨_, _, _, _, _, _, _, _, _, rfl, H⟩
              · replace H := H.2 g107
                refine tr_p (y_move rfl) rfl rfl ?_
                refine tr_p (y_lss rfl rfl) rfl rfl ?_
                refine tr_p (y_pick_f rfl rfl) rfl rfl ?_
                refine tr_p (y_move rfl) rfl rfl ?_
                refine tr_split (t := 81) rfl (fun g108 => ?_) (fun g108 => ?_)
                · replace H := H.1 g108
                  refine tr_s rfl rfl ?_
                  refine tr_s rfl rfl ?_
                  refine tr_s rfl rfl ?_
                  refine tr_s rfl rfl ?_
                  refine tr_s rfl rfl ?_
                  refine tr_s rfl rfl ?_
                  refine tr_s rfl rfl ?_
                  refine tr_s rfl rfl ?_
                  refine tr_p (y_pick_t rfl rfl) rfl rfl ?_
                  refine tr_p (y_move rfl) rfl rfl ?_
                  refine tr_s rfl rfl ?_
                  refine tr_s rfl rfl ?_
                  refine tr_s rfl rfl ?_
                  refine tr_s rfl rfl ?_
                  refine tr_s rfl rfl ?_
                  refine tr_s rfl rfl ?_
                  refine tr_s rfl rfl ?_
                  refine tr_s rfl rfl ?_
                  refine tr_p (y_pick_t rfl rfl) rfl rfl ?_
                  refine tr_nil ?_
                  refine tr_thenN ?_
                  exact tr_join [(4, (.pointer (some x4))), (5, (.pointer (some x5))), (6, (.pointer (some x6))), (7, (.pointer (some x7))), (8, (.pointer (some x8))), (9, (.string x9)), (13, (.int .i64 x13)), (14, (.bool x14)), (100, (.bool true))] ⟨rfl, rfl, rfl, rfl, rfl, rfl, rfl, rfl, rfl, trivial⟩ ⟨_, _, _, _, _, _, _, _, _, rfl, H⟩
                · replace H := H.2 g108
                  refine tr_p (y_move rfl) rfl rfl ?_
                  refine tr_p (y_not rfl) rfl rfl ?_
                  refine tr_p (y_move rfl) rfl rfl ?_
                  refine tr_split (t := 84) rfl (fun g109 => ?_) (fun g109 => ?_)
                  · replace H := H.1 g109
                    refine tr_p (y_move rfl) rfl rfl ?_
                    obtain ⟨y110, k111, H⟩ := H
                    refine tr_h (y_ld Try.isAgg48 rfl) k111 rfl rfl ?_
                    refine tr_e (e_call Try.call32 rfl (F.table_Table_Slint_Slots_ok H)) rfl rfl ?_
                    rintro _ h112 ⟨r113, rfl, H⟩
                    refine tr_p (y_geq rfl rfl) rfl rfl ?_
                    refine tr_p (y_pick_t rfl rfl) rfl rfl ?_
                    refine tr_p (y_pick_f rfl rfl) rfl rfl ?_
                    refine tr_p (y_move rfl) rfl rfl ?_
                    refine tr_split (t := 91) rfl (fun g114 => ?_) (fun g114 => ?_)
                    · replace H := H.1 g114
                      refine tr_s rfl rfl ?_
                      refine tr_s rfl rfl ?_
                      refine tr_s rfl rfl ?_
                      refine tr_s rfl rfl ?_
                      refine tr_s rfl rfl ?_
                      refine tr_s rfl rfl ?_
                      refine tr_s rfl rfl ?_
                      refine tr_s rfl rfl ?_
                      refine tr_p (y_pick_t rfl rfl) rfl rfl ?_
                      refine tr_nil ?_
                      refine tr_thenN ?_
                      exact tr_join [(4, (.pointer (some x4))), (5, (.pointer (some x5))), (6, (.pointer (some x6))), (7, (.pointer (some x7))), (8, (.pointer (some x8))), (9, (.string x9)), (13, (.int .i64 x13)), (14, (.bool x14)), (100, (.bool true))] ⟨rfl, rfl, rfl, rfl, rfl, rfl, rfl, rfl, rfl, trivial⟩ ⟨_, _, _, _, _, _, _, _, _, rfl, H⟩
                    · replace H := H.2 g114
                      refine tr_p (y_move rfl) rfl rfl ?_
                      refine tr_p (y_move rfl) rfl rfl ?_
                      refine tr_split (t := 93) rfl (fun g115 => ?_) (fun g115 => ?_)
                      · replace H := H.1 g115
                        refine tr_p (y_move rfl) rfl rfl ?_
                        obtain ⟨y116, k117, H⟩ := H
                        refine tr_h (y_ld Try.isAgg48 rfl) k117 rfl rfl ?_
                        refine tr_e (e_call Try.call32 rfl (F.table_Table_Slint_Slots_ok H)) rfl rfl ?_
                        rintro _ h118 ⟨r119, rfl, H⟩
                        obtain ⟨e120, H⟩ := H
                        refine tr_p (y_quo rfl rfl e120) rfl rfl ?_
                        refine tr_p (y_geq rfl rfl) rfl rfl ?_
                        refine tr_p (y_pick_t rfl rfl) rfl rfl ?_
                        refine tr_p (y_pick_f rfl rfl) rfl rfl ?_
                        refine tr_nil ?_
                        refine tr_thenN ?_
                        exact tr_join [(4, (.pointer (some x4))), (5, (.pointer (some x5))), (6, (.pointer (some x6))), (7, (.pointer (some x7))), (8, (.pointer (some x8))), (9, (.string x9)), (13, (.int .i64 x13)), (14, (.bool x14)), (100, (.bool (decide (x13 ≥ (IntKind.wrap .i64 (Int.tdiv r119 2))))))] ⟨rfl, rfl, rfl, rfl, rfl, rfl, rfl, rfl, rfl, trivial⟩ ⟨_, _, _, _, _, _, _, _, _, rfl, H⟩
                      · replace H := H.2 g115
                        refine tr_s rfl rfl ?_
                        refine tr_s rfl rfl ?_
                        refine tr_s rfl rfl ?_
                        refine tr_s rfl rfl ?_
                        refine tr_s rfl rfl ?_
                        refine tr_p (y_pick_f rfl rfl) rfl rfl ?_
                        refine tr_p (y_pick_f rfl rfl) rfl rfl ?_
                        refine tr_nil ?_
                        refine tr_thenN ?_
                        exact tr_join [(4, (.pointer (some x4))), (5, (.pointer (some x5))), (6, (.pointer (some x6))), (7, (.pointer (some x7))), (8, (.pointer (some x8))), (9, (.string x9)), (13, (.int .i64 x13)), (14, (.bool x14)), (100, (.bool false))] ⟨rfl, rfl, rfl, rfl, rfl, rfl, rfl, rfl, rfl, trivial⟩ ⟨_, _, _, _, _, _, _, _, _, rfl, H⟩
                  · replace H := H.2 g109
                    refine tr_s rfl rfl ?_
                    refine tr_s rfl rfl ?_
                    refine tr_s rfl rfl ?_
                    refine tr_s rfl rfl ?_
                    refine tr_p (y_pick_f rfl rfl) rfl rfl ?_
                    refine tr_p (y_pick_f rfl rfl) rfl rfl ?_
                    refine tr_p (y_move rfl) rfl rfl ?_
                    refine tr_p (y_move rfl) rfl rfl ?_
                    refine tr_p (y_move rfl) rfl rfl ?_
                    refine tr_split (t := 93) rfl (fun g121 => ?_) (fun g121 => ?_)
                    · replace H := H.1 g121
                      refine tr_p (y_move rfl) rfl rfl ?_
                      obtain ⟨y122, k123, H⟩ := H
                      refine tr_h (y_ld Try.isAgg48 rfl) k123 rfl rfl ?_
                      refine tr_e (e_call Try.call32 rfl (F.table_Table_Slint_Slots_ok H)) rfl rfl ?_
                      rintro _ h124 ⟨r125, rfl, H⟩
                      obtain ⟨e126, H⟩ := H
                      refine tr_p (y_quo rfl rfl e126) rfl rfl ?_
                      refine tr_p (y_geq rfl rfl) rfl rfl ?_
                      refine tr_p (y_pick_t rfl rfl) rfl rfl ?_
                      refine tr_p (y_pick_f rfl rfl) rfl rfl ?_
                      refine tr_nil ?_
                      refine tr_thenN ?_
                      exact tr_join [(4, (.pointer (some x4))), (5, (.pointer (some x5))), (6, (.pointer (some x6))), (7, (.pointer (some x7))), (8, (.pointer (some x8))), (9, (.string x9)), (13, (.int .i64 x13)), (14, (.bool x14)), (100, (.bool (decide (x13 ≥ (IntKind.wrap .i64 (Int.tdiv r125 2))))))] ⟨rfl, rfl, rfl, rfl, rfl, rfl, rfl, rfl, rfl, trivial⟩ ⟨_, _, _, _, _, _, _, _, _, rfl, H⟩
                    · replace H := H.2 g121
                      refine tr_s rfl rfl ?_
                      refine tr_s rfl rfl ?_
                      refine tr_s rfl rfl ?_
                      refine tr_s rfl rfl ?_
                      refine tr_s rfl rfl ?_
                      refine tr_p (y_pick_f rfl rfl) rfl rfl ?_
                      refine tr_p (y_pick_f rfl rfl) rfl rfl ?_
                      refine tr_nil ?_
                      refine tr_thenN ?_
                      exact tr_join [(4, (.pointer (some x4))), (5, (.pointer (some x5))), (6, (.pointer (some x6))), (7, (.pointer (some x7))), (8, (.pointer (some x8))), (9, (.string x9)), (13, (.int .i64 x13)), (14, (.bool x14)), (100, (.bool false))] ⟨rfl, rfl, rfl, rfl, rfl, rfl, rfl, rfl, rfl, trivial⟩ ⟨_, _, _, _, _, _, _, _, _, rfl, H⟩
            · replace H := H.2 g102
              refine tr_s rfl rfl ?_
              refine tr_s rfl rfl ?_
              refine tr_s rfl rfl ?_
              refine tr_p (y_pick_f rfl rfl) rfl rfl ?_
              refine tr_p (y_pick_f rfl rfl) rfl rfl ?_
              refine tr_p (y_move rfl) rfl rfl ?_
              refine tr_p (y_move rfl) rfl rfl ?_
              refine tr_p (y_lss rfl rfl) rfl rfl ?_
              refine tr_p (y_pick_f rfl rfl) rfl rfl ?_
              refine tr_p (y_move rfl) rfl rfl ?_
              refine tr_split (t := 81) rfl (fun g127 => ?_) (fun g127 => ?_)
              · replace H := H.1 g127
                refine tr_s rfl rfl ?_
                refine tr_s rfl rfl ?_
                refine tr_s rfl rfl ?_
                refine tr_s rfl rfl ?_
                refine tr_s rfl rfl ?_
                refine tr_s rfl rfl ?_
                refine tr_s rfl rfl ?_
                refine tr_s rfl rfl ?_
                refine tr_p (y_pick_t rfl rfl) rfl rfl ?_
                refine tr_p (y_move rfl) rfl rfl ?_
                refine tr_s rfl rfl ?_
                refine tr_s rfl rfl ?_
                refine tr_s rfl rfl ?_
                refine tr_s rfl rfl ?_
                refine tr_s rfl rfl ?_
                refine tr_s rfl rfl ?_
                refine tr_s rfl rfl ?_
                refine tr_s rfl rfl ?_
                refine tr_p (y_pick_t rfl rfl) rfl rfl ?_
                refine tr_nil ?_
                refine tr_thenN ?_
                exact tr_join [(4, (.pointer (some x4))), (5, (.pointer (some x5))), (6, (.pointer (some x6))), (7, (.pointer (some x7))), (8, (.pointer (some x8))), (9, (.string x9)), (13, (.int .i64 x13)), (14, (.bool x14)), (100, (.bool true))] ⟨rfl, rfl, rfl, rfl, rfl, rfl, rfl, rfl, rfl, trivial⟩ ⟨_, _, _, _, _, _, _, _, _, rfl, H⟩
              · replace H := H.2 g127
                refine tr_p (y_move rfl) rfl rfl ?_
                refine tr_p (y_not rfl) rfl rfl ?_
                refine tr_p (y_move rfl) rfl rfl ?_
                refine tr_split (t := 84) rfl (fun g128 => ?_) (fun g128 => ?_)
                · replace H := H.1 g128
                  refine tr_p (y_move rfl) rfl rfl ?_
                  obtain ⟨y129, k130, H⟩ := H
                  refine tr_h (y_ld Try.isAgg48 rfl) k130 rfl rfl ?_
                  refine tr_e (e_call Try.call32 rfl (F.table_Table_Slint_Slots_ok H)) rfl rfl ?_
                  rintro _ h131 ⟨r132, rfl, H⟩
                  refine tr_p (y_geq rfl rfl) rfl rfl ?_
                  refine tr_p (y_pick_t rfl rfl) rfl rfl ?_
                  refine tr_p (y_pick_f rfl rfl) rfl rfl ?_
                  refine tr_p (y_move rfl) rfl rfl ?_
                  refine tr_split (t := 91) rfl (fun g133 => ?_) (fun g133 => ?_)
                  · replace H := H.1 g133
                    refine tr_s rfl rfl ?_
                    refine tr_s rfl rfl ?_
                    refine tr_s rfl rfl ?_
                    refine tr_s rfl rfl ?_
                    refine tr_s rfl rfl ?_
                    refine tr_s rfl rfl ?_
                    refine tr_s rfl rfl ?_
                    refine tr_s rfl rfl ?_
                    refine tr_p (y_pick_t rfl rfl) rfl rfl ?_
                    refine tr_nil ?_
                    refine tr_thenN ?_
                    exact tr_join [(4, (.pointer (some x4))), (5, (.pointer (some x5))), (6, (.pointer (some x6))), (7, (.pointer (some x7))), (8, (.pointer (some x8))), (9, (.string x9)), (13, (.int .i64 x13)), (14, (.bool x14)), (100, (.bool true))] ⟨rfl, rfl, rfl, rfl, rfl, rfl, rfl, rfl, rfl, trivial⟩ ⟨_, _, _, _, _, _, _, _, _, rfl, H⟩
                  · replace H := H.2 g133
                    refine tr_p (y_move rfl) rfl rfl ?_
                    refine tr_p (y_move rfl) rfl rfl ?_
                    refine tr_split (t := 93) rfl (fun g134 => ?_) (fun g134 => ?_)
                    · replace H := H.1 g134
                      refine tr_p (y_move rfl) rfl rfl ?_
                      obtain ⟨y135, k136, H⟩ := H
                      refine tr_h (y_ld Try.isAgg48 rfl) k136 rfl rfl ?_
                      refine tr_e (e_call Try.call32 rfl (F.table_Table_Slint_Slots_ok H)) rfl rfl ?_
                      rintro _ h137 ⟨r138, rfl, H⟩
                      obtain ⟨e139, H⟩ := H
                      refine tr_p (y_quo rfl rfl e139) rfl rfl ?_
                      refine tr_p (y_geq rfl rfl) rfl rfl ?_
                      refine tr_p (y_pick_t rfl rfl) rfl rfl ?_
                      refine tr_p (y_pick_f rfl rfl) rfl rfl ?_
                      refine tr_nil ?_
                      refine tr_thenN ?_
                      exact tr_join [(4, (.pointer (some x4))), (5, (.pointer (some x5))), (6, (.pointer (some x6))), (7, (.pointer (some x7))), (8, (.pointer (some x8))), (9, (.string x9)), (13, (.int .i64 x13)), (14, (.bool x14)), (100, (.bool (decide (x13 ≥ (IntKind.wrap .i64 (Int.tdiv r138 2))))))] ⟨rfl, rfl, rfl, rfl, rfl, rfl, rfl, rfl, rfl, trivial⟩ ⟨_, _, _, _, _, _, _, _, _, rfl, H⟩
                    · replace H := H.2 g134
                      refine tr_s rfl rfl ?_
                      refine tr_s rfl rfl ?_
                      refine tr_s rfl rfl ?_
                      refine tr_s rfl rfl ?_
                      refine tr_s rfl rfl ?_
                      refine tr_p (y_pick_f rfl rfl) rfl rfl ?_
                      refine tr_p (y_pick_f rfl rfl) rfl rfl ?_
                      refine tr_nil ?_
                      refine tr_thenN ?_
                      exact tr_join [(4, (.pointer (some x4))), (5, (.pointer (some x5))), (6, (.pointer (some x6))), (7, (.pointer (some x7))), (8, (.pointer (some x8))), (9, (.string x9)), (13, (.int .i64 x13)), (14, (.bool x14)), (100, (.bool false))] ⟨rfl, rfl, rfl, rfl, rfl, rfl, rfl, rfl, rfl, trivial⟩ ⟨_, _, _, _, _, _, _, _, _, rfl, H⟩
                · replace H := H.2 g128
                  refine tr_s rfl rfl ?_
                  refine tr_s rfl rfl ?_
                  refine tr_s rfl rfl ?_
                  refine tr_s rfl rfl ?_
                  refine tr_p (y_pick_f rfl rfl) rfl rfl ?_
                  refine tr_p (y_pick_f rfl rfl) rfl rfl ?_
                  refine tr_p (y_move rfl) rfl rfl ?_
                  refine tr_p (y_move rfl) rfl rfl ?_
                  refine tr_p (y_move rfl) rfl rfl ?_
                  refine tr_split (t := 93) rfl (fun g140 => ?_) (fun g140 => ?_)
                  · replace H := H.1 g140
                    refine tr_p (y_move rfl) rfl rfl ?_
                    obtain ⟨y141, k142, H⟩ := H
                    refine tr_h (y_ld Try.isAgg48 rfl) k142 rfl rfl ?_
                    refine tr_e (e_call Try.call32 rfl (F.table_Table_Slint_Slots_ok H)) rfl rfl ?_
                    rintro _ h143 ⟨r144, rfl, H⟩
                    obtain ⟨e145, H⟩ := H
                    refine tr_p (y_quo rfl rfl e145) rfl rfl ?_
                    refine tr_p (y_geq rfl rfl) rfl rfl ?_
                    refine tr_p (y_pick_t rfl rfl) rfl rfl ?_
                    refine tr_p (y_pick_f rfl rfl) rfl rfl ?_
                    refine tr_nil ?_
                    refine tr_thenN ?_
                    exact tr_join [(4, (.pointer (some x4))), (5, (.pointer (some x5))), (6, (.pointer (some x6))), (7, (.pointer (some x7))), (8, (.pointer (some x8))), (9, (.string x9)), (13, (.int .i64 x13)), (14, (.bool x14)), (100, (.bool (decide (x13 ≥ (IntKind.wrap .i64 (Int.tdiv r144 2))))))] ⟨rfl, rfl, rfl, rfl, rfl, rfl, rfl, rfl, rfl, trivial⟩ ⟨_, _, _, _, _, _, _, _, _, rfl, H⟩
                  · replace H := H.2 g140
                    refine tr_s rfl rfl ?_
                    refine tr_s rfl rfl ?_
                    refine tr_s rfl rfl ?_
                    refine tr_s rfl rfl ?_
                    refine tr_s rfl rfl ?_
                    refine tr_p (y_pick_f rfl rfl) rfl rfl ?_
                    refine tr_p (y_pick_f rfl rfl) rfl rfl ?_
                    refine tr_nil ?_
                    refine tr_thenN ?_
                    exact tr_join [(4, (.pointer (some x4))), (5, (.pointer (some x5))), (6, (.pointer (some x6))), (7, (.pointer (some x7))), (8, (.pointer (some x8))), (9, (.string x9)), (13, (.int .i64 x13)), (14, (.bool x14)), (100, (.bool false))] ⟨rfl, rfl, rfl, rfl, rfl, rfl, rfl, rfl, rfl, trivial⟩ ⟨_, _, _, _, _, _, _, _, _, rfl, H⟩
    · refine tr_seq_j (fun L' h => ∃ (x2 : Addr) (x4 : Addr) (x5 : Addr) (x6 : Addr) (x7 : Addr) (x8 : Addr) (x9 : ByteArray) (x13 : Int) (x14 : Bool) (x61 : Bool), L' = [(2, (.pointer (some x2))), (4, (.pointer (some x4))), (5, (.pointer (some x5))), (6, (.pointer (some x6))), (7, (.pointer (some x7))), (8, (.pointer (some x8))), (9, (.string x9)), (13, (.int .i64 x13)), (14, (.bool x14)), (61, (.bool x61))] ∧ F.spatelaw6_lies.j5 Q K1 J1 l1 x2 x4 x5 x6 x7 x8 x9 x13 x14 x61 h) ?_ ?_
      · rintro L' h ⟨x2, x4, x5, x6, x7, x8, x9, x13, x14, x61, rfl, H⟩
        unfold F.spatelaw6_lies.j5 at H
        refine tr_cond rfl (fun g146 => ?_) (fun g146 => ?_)
        · replace H := H.1 g146
          refine tr_seq ?_
          refine tr_region ?_
          refine tr_e (f_store (vs := [(.bool false)]) Try.sizeOf4 rfl rfl rfl rfl (one1 rfl) H) rfl rfl ?_
          rintro _ h147 ⟨rfl, H⟩
          refine tr_nil ?_
          refine tr_thenN ?_
          refine tr_ret ?_
          refine tr_thenR ?_
          refine tr_blockR ?_
          exact tr_rR 0 rfl H
        · replace H := H.2 g146
          refine tr_skip ?_
          refine tr_thenN ?_
          exact tr_join [(2, (.pointer (some x2))), (4, (.pointer (some x4))), (5, (.pointer (some x5))), (6, (.pointer (some x6))), (7, (.pointer (some x7))), (8, (.pointer (some x8))), (9, (.string x9)), (13, (.int .i64 x13)), (14, (.bool x14))] ⟨rfl, rfl, rfl, rfl, rfl, rfl, rfl, rfl, rfl, trivial⟩ ⟨_, _, _, _, _, _, _, _, _, rfl, H⟩
      · refine tr_region ?_
        refine tr_p (y_move rfl) rfl rfl ?_
        refine tr_p (y_not rfl) rfl rfl ?_
        refine tr_p (y_move rfl) rfl rfl ?_
        refine tr_split (t := 42) rfl (fun g148 => ?_) (fun g148 => ?_)
        · replace H := H.1 g148
          refine tr_s rfl rfl ?_
          refine tr_s rfl rfl ?_
          refine tr_p (y_pick_t rfl rfl) rfl rfl ?_
          refine tr_p (y_move rfl) rfl rfl ?_
          refine tr_s rfl rfl ?_
          refine tr_s rfl rfl ?_
          refine tr_s rfl rfl ?_
          refine tr_s rfl rfl ?_
          refine tr_s rfl rfl ?_
          refine tr_p (y_pick_t rfl rfl) rfl rfl ?_
          refine tr_p (y_move rfl) rfl rfl ?_
          refine tr_s rfl rfl ?_
          refine tr_s rfl rfl ?_
          refine tr_s rfl rfl ?_
          refine tr_s rfl rfl ?_
          refine tr_s rfl rfl ?_
          refine tr_s rfl rfl ?_
          refine tr_s rfl rfl ?_
          refine tr_p (y_pick_t rfl rfl) rfl rfl ?_
          refine tr_nil ?_
          refine tr_thenN ?_
          exact tr_join [(2, (.pointer (some a2))), (4, (.pointer (some a6))), (5, (.pointer (some a8))), (6, (.pointer (some a11))), (7, (.pointer (some a16))), (8, (.pointer (some a21))), (9, (.string y1_25)), (13, (.int .i64 r36)), (14, (.bool r37)), (61, (.bool true))] ⟨rfl, rfl, rfl, rfl, rfl, rfl, rfl, rfl, rfl, rfl, trivial⟩ ⟨_, _, _, _, _, _, _, _, _, _, rfl, H⟩
        · replace H := H.2 g148
          refine tr_p (y_move rfl) rfl rfl ?_
          refine tr_p (y_not rfl) rfl rfl ?_
          refine tr_p (y_pick_f rfl rfl) rfl rfl ?_
          refine tr_p (y_move rfl) rfl rfl ?_
          refine tr_split (t := 46) rfl (fun g149 => ?_) (fun g149 => ?_)
          · replace H := H.1 g149
            refine tr_s rfl rfl ?_
            refine tr_s rfl rfl ?_
            refine tr_s rfl rfl ?_
            refine tr_s rfl rfl ?_
            refine tr_s rfl rfl ?_
            refine tr_p (y_pick_t rfl rfl) rfl rfl ?_
            refine tr_p (y_move rfl) rfl rfl ?_
            refine tr_s rfl rfl ?_
            refine tr_s rfl rfl ?_
            refine tr_s rfl rfl ?_
            refine tr_s rfl rfl ?_
            refine tr_s rfl rfl ?_
            refine tr_s rfl rfl ?_
            refine tr_s rfl rfl ?_
            refine tr_p (y_pick_t rfl rfl) rfl rfl ?_
            refine tr_nil ?_
            refine tr_thenN ?_
            exact tr_join [(2, (.pointer (some a2))), (4, (.pointer (some a6))), (5, (.pointer (some a8))), (6, (.pointer (some a11))), (7, (.pointer (some a16))), (8, (.pointer (some a21))), (9, (.string y1_25)), (13, (.int .i64 r36)), (14, (.bool r37)), (61, (.bool true))] ⟨rfl, rfl, rfl, rfl, rfl, rfl, rfl, rfl, rfl, rfl, trivial⟩ ⟨_, _, _, _, _, _, _, _, _, _, rfl, H⟩
          · replace H := H.2 g149
            refine tr_p (y_move rfl) rfl rfl ?_
            obtain ⟨a150, e151, H⟩ := H
            refine tr_p (f_idx (s := y1_26) Try.runUnderlying38 Try.sizeOf3 rfl rfl e151) rfl rfl ?_
            obtain ⟨y152, k153, H⟩ := H
            refine tr_h (y_ld Try.isAgg3 rfl) k153 rfl rfl ?_
            refine tr_p (y_move rfl) rfl rfl ?_
            refine tr_p (y_neq rfl rfl) rfl rfl ?_
            refine tr_p (y_pick_f rfl rfl) rfl rfl ?_
            refine tr_p (y_move rfl) rfl rfl ?_
            refine tr_split (t := 53) rfl (fun g154 => ?_) (fun g154 => ?_)
            · replace H := H.1 g154
              refine tr_s rfl rfl ?_
              refine tr_s rfl rfl ?_
              refine tr_s rfl rfl ?_
              refine tr_s rfl rfl ?_
              refine tr_s rfl rfl ?_
              refine tr_s rfl rfl ?_
              refine tr_s rfl rfl ?_
              refine tr_p (y_pick_t rfl rfl) rfl rfl ?_
              refine tr_nil ?_
              refine tr_thenN ?_
              exact tr_join [(2, (.pointer (some a2))), (4, (.pointer (some a6))), (5, (.pointer (some a8))), (6, (.pointer (some a11))), (7, (.pointer (some a16))), (8, (.pointer (some a21))), (9, (.string y1_25)), (13, (.int .i64 r36)), (14, (.bool r37)), (61, (.bool true))] ⟨rfl, rfl, rfl, rfl, rfl, rfl, rfl, rfl, rfl, rfl, trivial⟩ ⟨_, _, _, _, _, _, _, _, _, _, rfl, H⟩
            · replace H := H.2 g154
              obtain ⟨y155, k156, H⟩ := H
              refine tr_h (y_ld Try.isAgg3 rfl) k156 rfl rfl ?_
              refine tr_p (y_gtr rfl rfl) rfl rfl ?_
              refine tr_p (y_move rfl) rfl rfl ?_
              refine tr_split (t := 56) rfl (fun g157 => ?_) (fun g157 => ?_)
              · replace H := H.1 g157
                refine tr_p (y_move rfl) rfl rfl ?_
                obtain ⟨y158, k159, H⟩ := H
                refine tr_h (y_ld Try.isAgg9 rfl) k159 rfl rfl ?_
                refine tr_p (y_sleq rfl rfl) rfl rfl ?_
                refine tr_p (y_pick_t rfl rfl) rfl rfl ?_
                refine tr_p (y_pick_f rfl rfl) rfl rfl ?_
                refine tr_nil ?_
                refine tr_thenN ?_
                exact tr_join [(2, (.pointer (some a2))), (4, (.pointer (some a6))), (5, (.pointer (some a8))), (6, (.pointer (some a11))), (7, (.pointer (some a16))), (8, (.pointer (some a21))), (9, (.string y1_25)), (13, (.int .i64 r36)), (14, (.bool r37)), (61, (.bool (Op.bytesLess y1_25.toList y158.toList || (y1_25.toList == y158.toList))))] ⟨rfl, rfl, rfl, rfl, rfl, rfl, rfl, rfl, rfl, rfl, trivial⟩ ⟨_, _, _, _, _, _, _, _, _, _, rfl, H⟩
              · replace H := H.2 g157
                refine tr_s rfl rfl ?_
                refine tr_s rfl rfl ?_
                refine tr_s rfl rfl ?_
                refine tr_p (y_pick_f rfl rfl) rfl rfl ?_
                refine tr_p (y_pick_f rfl rfl) rfl rfl ?_
                refine tr_nil ?_
                refine tr_thenN ?_
                exact tr_join [(2, (.pointer (some a2))), (4, (.pointer (some a6))), (5, (.pointer (some a8))), (6, (.pointer (some a11))), (7, (.pointer (some a16))), (8, (.pointer (some a21))), (9, (.string y1_25)), (13, (.int .i64 r36)), (14, (.bool r37)), (61, (.bool false))] ⟨rfl, rfl, rfl, rfl, rfl, rfl, rfl, rfl, rfl, rfl, trivial⟩ ⟨_, _, _, _, _, _, _, _, _, _, rfl, H⟩
  · intro h160 H
    refine tr_blockN ?_
    refine tr_thenN ?_
    refine tr_seq ?_
    refine tr_seq ?_
    refine tr_region ?_
    obtain ⟨y161, k162, H⟩ := H
    refine tr_h (y_ld Try.isAgg48 rfl) k162 rfl rfl ?_
    refine tr_e (e_call Try.call56 rfl (F.table_Table_Slint_All_ok H)) rfl rfl ?_
    rintro r164 h163 ⟨_, rfl, H⟩
    refine tr_nil ?_
    refine tr_thenN ?_
    refine tr_block ?_
    refine tr_range rfl (by kernel_rfl) H ?_ ?_ ?_
    · intro bg2 l2 args h K2 J2 w2 hbg2 H
      obtain ⟨y2_111, y2_112, rfl, H⟩ := H
      refine ⟨rfl, ?_⟩
      refine tr_sub [(0, (.pointer p0)), (1, p1), (2, (.pointer (some a2))), (3, (.pointer (some a4))), (4, (.pointer (some a6))), (5, (.pointer (some a8))), (6, (.pointer (some a11))), (21, m14), (7, (.pointer (some a16))), (22, m19), (8, (.pointer (some a21))), (23, (.pointer y23)), (24, r26), (109, (.pointer y161)), (110, r164), (111, (.string y2_111)), (112, y2_112.enc)] ⟨rfl, rfl, rfl, rfl, rfl, rfl, rfl, rfl, rfl, rfl, rfl, rfl, rfl, rfl, rfl, rfl, rfl, trivial⟩ ?_
      refine tr_region ?_
      refine tr_p (y_assign rfl) rfl rfl ?_
      refine tr_nil ?_
      refine tr_thenN ?_
      refine tr_bgn hbg2 H fun h165 H => ?_
      refine tr_block ?_
      refine tr_seq ?_
      refine tr_region ?_
      obtain ⟨y166, k167, H⟩ := H
      refine tr_h (y_ld Try.isAgg48 rfl) k167 rfl rfl ?_
      refine tr_p (y_move rfl) rfl rfl ?_
      refine tr_e (e_call Try.call57 rfl (F.table_Table_Slint_Place_ok H)) rfl rfl ?_
      rintro _ h168 ⟨r169, r170, r171, rfl, H⟩
      refine tr_p (y_move rfl) rfl rfl ?_
      refine tr_p (y_ext rfl rfl) rfl rfl ?_
      refine tr_p (y_ext rfl rfl) rfl rfl ?_
      refine tr_p (y_ext rfl rfl) rfl rfl ?_
      refine tr_p (y_assign rfl) rfl rfl ?_
      refine tr_p (y_assign rfl) rfl rfl ?_
      refine tr_p (y_assign rfl) rfl rfl ?_
      refine tr_nil ?_
      refine tr_thenN ?_
      refine tr_seq ?_
      refine tr_seq ?_
      refine tr_region ?_
      refine tr_p (y_move rfl) rfl rfl ?_
      refine tr_nil ?_
      refine tr_thenN ?_
      refine tr_cond rfl (fun g172 => ?_) (fun g172 => ?_)
      · replace H := H.1 g172
        refine tr_seq ?_
        refine tr_seq_j (fun L' h => ∃ (x4 : Addr) (x133 : Bool), L' = [(4, (.pointer (some x4))), (133, (.bool x133))] ∧ F.spatelaw6_lies.j6 Q K2 J2 l2 x4 x133 h) ?_ ?_
        · rintro L' h ⟨x4, x133, rfl, H⟩
          unfold F.spatelaw6_lies.j6 at H
          refine tr_cond rfl (fun g173 => ?_) (fun g173 => ?_)
          · replace H := H.1 g173
            refine tr_seq ?_
            refine tr_region ?_
            refine tr_e (f_store (vs := [(.bool false)]) Try.sizeOf4 rfl rfl rfl rfl (one1 rfl) H) rfl rfl ?_
            rintro _ h174 ⟨rfl, H⟩
            refine tr_nil ?_
            refine tr_thenN ?_
            refine tr_ret ?_
            refine tr_thenR ?_
            refine tr_thenR ?_
            refine tr_blockR ?_
            exact tr_rR 0 rfl H
          · replace H := H.2 g173
            refine tr_skip ?_
            refine tr_thenN ?_
            refine tr_exit ?_
            refine tr_thenE ?_
            refine tr_hit ?_
            exact tr_rN H
        · refine tr_draw mixed [0, 1, 3, 7, 15, 15, 47, 111, 15, 367, 1007, 2047, 4095] (by kernel_rfl) ?_
          obtain ⟨y175, k176, H⟩ := H
          refine g_h 0 1 rfl (by kernel_rfl) (y_ld Try.isAgg48 rfl) k176 rfl rfl ?_
          refine g_e 1 3 [] (by kernel_rfl) rfl (by kernel_rfl) (e_call Try.call33 rfl (F.table_Table_Slint_Left_ok H)) rfl rfl ?_
          rintro _ h177 ⟨r178, rfl, H⟩
          refine ⟨trivial, ?_⟩
          refine g_p 2 7 rfl (by kernel_rfl) (y_eql rfl rfl) rfl rfl ?_
          refine g_p 3 15 rfl (by kernel_rfl) (y_move rfl) rfl rfl ?_
          refine g_split (t := 124) rfl (fun g179 => ?_) (fun g179 => ?_)
          · replace H := H.1 g179
            refine g_s 4 31 rfl (by kernel_rfl) rfl rfl ?_
            refine g_s 5 63 rfl (by kernel_rfl) rfl rfl ?_
            refine g_s 6 127 rfl (by kernel_rfl) rfl rfl ?_
            refine g_s 7 255 rfl (by kernel_rfl) rfl rfl ?_
            refine g_s 8 511 rfl (by kernel_rfl) rfl rfl ?_
            refine g_s 9 1023 rfl (by kernel_rfl) rfl rfl ?_
            refine g_s 10 2047 rfl (by kernel_rfl) rfl rfl ?_
            refine g_s 11 4095 rfl (by kernel_rfl) rfl rfl ?_
            refine g_p 12 8191 rfl (by kernel_rfl) (y_pick_t rfl rfl) rfl rfl ?_
            refine g_d (by kernel_rfl) ?_
            refine tr_thenN ?_
            exact tr_join [(4, (.pointer (some a6))), (133, (.bool true))] ⟨rfl, rfl, trivial⟩ ⟨_, _, rfl, H⟩
          · replace H := H.2 g179
            refine g_p 4 31 rfl (by kernel_rfl) (y_move rfl) rfl rfl ?_
            obtain ⟨y180, k181, H⟩ := H
            refine g_h 5 63 rfl (by kernel_rfl) (y_ld Try.isAgg48 rfl) k181 rfl rfl ?_
            obtain ⟨y182, k183, H⟩ := H
            refine g_h 8 319 rfl (by kernel_rfl) (y_ld Try.isAgg48 rfl) k183 rfl rfl ?_
            refine g_e 6 383 [(8, fun h => cellH h a2 = some (.pointer y182))] (by kernel_rfl) rfl (by kernel_rfl) (e_call Try.call32 rfl (F.table_Table_Slint_Slots_ok H)) rfl rfl ?_
            rintro _ h184 ⟨r185, rfl, H⟩
            obtain ⟨k186, H⟩ := H
            refine ⟨And.intro k186 trivial, ?_⟩
            obtain ⟨e187, H⟩ := H
            refine g_p 7 511 rfl (by kernel_rfl) (y_quo rfl rfl e187) rfl rfl ?_
            refine g_e 9 1023 [] (by kernel_rfl) rfl (by kernel_rfl) (e_call Try.call33 rfl (F.table_Table_Slint_Left_ok H)) rfl rfl ?_
            rintro _ h188 ⟨r189, rfl, H⟩
            refine ⟨trivial, ?_⟩
            refine g_p 10 2047 rfl (by kernel_rfl) (y_sub rfl rfl) rfl rfl ?_
            refine g_p 11 4095 rfl (by kernel_rfl) (y_lss rfl rfl) rfl rfl ?_
            refine g_p 12 8191 rfl (by kernel_rfl) (y_pick_f rfl rfl) rfl rfl ?_
            refine g_d (by kernel_rfl) ?_
            refine tr_thenN ?_
            exact tr_join [(4, (.pointer (some a6))), (133, (.bool (decide (r169 < (IntKind.wrap .i64 ((IntKind.wrap .i64 (Int.tdiv r185 2)) - r189))))))] ⟨rfl, rfl, trivial⟩ ⟨_, _, rfl, H⟩
      · replace H := H.2 g172
        refine tr_skip ?_
        refine tr_thenN ?_
        refine tr_seq ?_
        refine tr_draw mixed [0, 1, 0, 7, 15, 31, 63, 127] (by kernel_rfl) ?_
        refine g_p 0 1 rfl (by kernel_rfl) (y_move rfl) rfl rfl ?_
        obtain ⟨y190, k191, H⟩ := H
        refine g_h 2 5 rfl (by kernel_rfl) (y_ld Try.isAgg48 rfl) k191 rfl rfl ?_
        refine g_e 1 7 [(2, fun h => cellH h a2 = some (.pointer y190))] (by kernel_rfl) rfl (by kernel_rfl) (e_call Try.call16 rfl (F.table_Hash_ok H)) rfl rfl ?_
        rintro _ h192 ⟨r193, rfl, H⟩
        obtain ⟨k194, H⟩ := H
        refine ⟨And.intro k194 trivial, ?_⟩
        refine g_e 3 15 [] (by kernel_rfl) rfl (by kernel_rfl) (e_call Try.call32 rfl (F.table_Table_Slint_Slots_ok H)) rfl rfl ?_
        rintro _ h195 ⟨r196, rfl, H⟩
        refine ⟨trivial, ?_⟩
        refine g_p 4 31 rfl (by kernel_rfl) (y_cvt Try.runUnderlying3 Try.runUnderlying26 rfl) rfl rfl ?_
        obtain ⟨e197, H⟩ := H
        refine g_p 5 63 rfl (by kernel_rfl) (y_rem rfl rfl e197) rfl rfl ?_
        refine g_p 6 127 rfl (by kernel_rfl) (y_cvt Try.runUnderlying26 Try.runUnderlying3 rfl) rfl rfl ?_
        refine g_p 7 255 rfl (by kernel_rfl) (y_assign rfl) rfl rfl ?_
        refine g_d (by kernel_rfl) ?_
        refine tr_thenN ?_
        refine tr_block ?_
        obtain ⟨m210, H⟩ := H
        refine tr_sub [(2, (.pointer (some a2))), (4, (.pointer (some a6))), (7, (.pointer (some a16))), (17, (.int .i64 r169)), (20, (.int .i64 (IntKind.wrap .i64 (Int.tmod r193 (IntKind.wrap .u64 r196)))))] ⟨rfl, rfl, rfl, rfl, rfl, trivial⟩ ?_
        refine tr_loop_j (fun m L' h => ∃ (x2 : Addr) (x4 : Addr) (x7 : Addr) (x17 : Int) (x20 : Int), L' = [(2, (.pointer (some x2))), (4, (.pointer (some x4))), (7, (.pointer (some x7))), (17, (.int .i64 x17)), (20, (.int .i64 x20))] ∧ F.spatelaw6_lies.l7 Q K2 J2 l2 m x2 x4 x7 x17 x20 h) ?_ ?_ m210 ⟨_, _, _, _, _, rfl, H⟩
        · rintro L' h ⟨_, _, _, _, _, _, H⟩; exact H
        · rintro q7 L' h ⟨x2, x4, x7, x17, x20, rfl, H⟩
          unfold F.spatelaw6_lies.l7 at H
          refine tr_seq ?_
          refine tr_seq ?_
          refine tr_region ?_
          refine tr_p (y_move rfl) rfl rfl ?_
          refine tr_p (y_move rfl) rfl rfl ?_
          refine tr_p (y_neq rfl rfl) rfl rfl ?_
          refine tr_nil ?_
          refine tr_thenN ?_
          refine tr_cond rfl (fun g198 => ?_) (fun g198 => ?_)
          · replace H := H.1 g198
            refine tr_skip ?_
            refine tr_thenN ?_
            refine tr_seq ?_
            refine tr_block ?_
            refine tr_seq ?_
            refine tr_region ?_
            obtain ⟨y199, k200, H⟩ := H
            refine tr_h (y_ld Try.isAgg96 rfl) k200 rfl rfl ?_
            refine tr_p (y_move rfl) rfl rfl ?_
            refine tr_e (f_lk rfl rfl H) rfl rfl ?_
            rintro _ h201 ⟨r202, rfl, H⟩
            refine tr_p (y_not rfl) rfl rfl ?_
            refine tr_nil ?_
            refine tr_thenN ?_
            refine tr_cond rfl (fun g203 => ?_) (fun g203 => ?_)
            · replace H := H.1 g203
              refine tr_seq ?_
              refine tr_region ?_
              refine tr_e (f_store (vs := [(.bool false)]) Try.sizeOf4 rfl rfl rfl rfl (one1 rfl) H) rfl rfl ?_
              rintro _ h204 ⟨rfl, H⟩
              refine tr_nil ?_
              refine tr_thenN ?_
              refine tr_ret ?_
              refine tr_blockR ?_
              refine tr_thenR ?_
              refine tr_thenR ?_
              refine tr_blockR ?_
              refine tr_blockR ?_
              exact tr_rR 0 rfl H
            · replace H := H.2 g203
              refine tr_skip ?_
              refine tr_blockN ?_
              refine tr_thenN ?_
              refine tr_region ?_
              refine tr_p (y_move rfl) rfl rfl ?_
              refine tr_p (y_add rfl rfl) rfl rfl ?_
              obtain ⟨y205, k206, H⟩ := H
              refine tr_h (y_ld Try.isAgg48 rfl) k206 rfl rfl ?_
              refine tr_e (e_call Try.call32 rfl (F.table_Table_Slint_Slots_ok H)) rfl rfl ?_
              rintro _ h207 ⟨r208, rfl, H⟩
              obtain ⟨e209, H⟩ := H
              refine tr_p (y_rem rfl rfl e209) rfl rfl ?_
              refine tr_p (y_assign rfl) rfl rfl ?_
              refine tr_nil ?_
              refine tr_thenN ?_
              exact tr_join [(2, (.pointer (some x2))), (4, (.pointer (some x4))), (7, (.pointer (some x7))), (17, (.int .i64 x17)), (20, (.int .i64 (Int.tmod (IntKind.wrap .i64 (x20 + 1)) r208)))] ⟨rfl, rfl, rfl, rfl, rfl, trivial⟩ ⟨_, _, _, _, _, rfl, H⟩
          · replace H := H.2 g198
            refine tr_exit ?_
            refine tr_thenE ?_
            refine tr_thenE ?_
            refine tr_hit ?_
            refine tr_blockN ?_
            exact tr_rN H
    · intro h211 H
      refine tr_blockN ?_
      refine tr_thenN ?_
      refine tr_seq ?_
      refine tr_region ?_
      obtain ⟨y212, k213, H⟩ := H
      refine tr_h (y_ld Try.isAgg3 rfl) k213 rfl rfl ?_
      obtain ⟨y214, k215, H⟩ := H
      refine tr_h (y_ld Try.isAgg50 rfl) k215 rfl rfl ?_
      refine tr_e (f_lenM rfl H) rfl rfl ?_
      rintro _ h216 ⟨s217, rfl, H⟩
      refine tr_p (y_eql rfl rfl) rfl rfl ?_
      refine tr_e (f_store (vs := [(.bool ((y212 == s217)))]) Try.sizeOf4 rfl rfl rfl rfl (one1 rfl) H) rfl rfl ?_
      rintro _ h218 ⟨rfl, H⟩
      refine tr_nil ?_
      refine tr_thenN ?_
      refine tr_ret ?_
      refine tr_shut (h163.size :: (h25.size :: ([] : List Nat))) rfl H fun h219 H => ?_
      obtain ⟨y220, k221, H⟩ := H
      exact tr_rv1 rfl (rv_cell Try.isAgg4 rfl k221) ⟨_, rfl, H⟩
    · intro jj c h222 hjc H
      rcases jj with _ | jj
      · obtain rfl : Code.ret = c := by simpa using hjc
        replace H := H rfl
        refine tr_ret ?_
        refine tr_blockR ?_
        refine tr_thenR ?_
        refine tr_shut (h163.size :: (h25.size :: ([] : List Nat))) rfl H fun h223 H => ?_
        obtain ⟨y224, k225, H⟩ := H
        exact tr_rv1 rfl (rv_cell Try.isAgg4 rfl k225) ⟨_, rfl, H⟩
      · simp at hjc
  · intro jj c h226 hjc H
    rcases jj with _ | jj
    · obtain rfl : Code.ret = c := by simpa using hjc
      replace H := H rfl
      refine tr_ret ?_
      refine tr_blockR ?_
      refine tr_thenR ?_
      refine tr_shut (h25.size :: ([] : List Nat)) rfl H fun h227 H => ?_
      obtain ⟨y228, k229, H⟩ := H
      exact tr_rv1 rfl (rv_cell Try.isAgg4 rfl k229) ⟨_, rfl, H⟩
    · simp at hjc

def F.spatelaw6_TableKeeps.j3 (Q : Bool → H → Prop) (C1 : Sl → (Option Addr) → Value → Int → H → Prop) (x0 : Sl) (x3 : Option Addr) (x4 : Value) (x5 : Int) (h : H) : Prop :=
  C1 x0 x3 x4 (IntKind.wrap .i64 (x5 + 1)) h
def F.spatelaw6_TableKeeps.j5 (Q : Bool → H → Prop) (C1 : Sl → (Option Addr) → Value → Int → H → Prop) (x0 : Sl) (x3 : Option Addr) (x4 : Value) (x5 : Int) (x191 : Bool) (h : H) : Prop :=
  (x191 = true →
  Q false h) ∧
  (x191 = false →
  F.spatelaw6_TableKeeps.j3 Q C1 x0 x3 x4 x5 h)
def F.spatelaw6_TableKeeps.j4 (Q : Bool → H → Prop) (C1 : Sl → (Option Addr) → Value → Int → H → Prop) (x0 : Sl) (x3 : Option Addr) (x4 : Value) (x5 : Int) (h : H) : Prop :=
  F.table_Table_Slint_Len x3 h fun r27 h26 =>
  RunS PP (Builtin.len_ #[50] 3 #[x4]) h26 fun u h28 => ∃ s29 : Int, u = (.int .i64 s29) ∧
  (((r27 != s29)) = true →
  F.spatelaw6_TableKeeps.j5 Q C1 x0 x3 x4 x5 true h28) ∧
  (((r27 != s29)) = false →
  F.table_Table_Slint_Len x3 h28 fun r32 h31 =>
  F.table_Table_Slint_Slots x3 h31 fun r34 h33 =>
  F.spatelaw6_TableKeeps.j5 Q C1 x0 x3 x4 x5 (decide ((IntKind.wrap .i64 (4 * r32)) > (IntKind.wrap .i64 (3 * r34)))) h33)
def F.spatelaw6_TableKeeps.j6 (Q : Bool → H → Prop) (C1 : Sl → (Option Addr) → Value → Int → H → Prop) (x0 : Sl) (x3 : Option Addr) (x4 : Value) (x5 : Int) (x87 : Bool) (h : H) : Prop :=
  (x87 = true →
  Q false h) ∧
  (x87 = false →
  F.spatelaw6_TableKeeps.j4 Q C1 x0 x3 x4 x5 h)
def F.spatelaw6_TableKeeps.j7 (Q : Bool → H → Prop) (C1 : Sl → (Option Addr) → Value → Int → H → Prop) (x0 : Sl) (x3 : Option Addr) (x4 : Value) (x5 : Int) (x6 : Addr) (h : H) : Prop :=
  ldS h (x6.add 2) fun y67 =>
  RunS PP (Builtin.delete_ #[50, 9] 0 #[x4, (.string y67)]) h fun u h69 => u = (.tuple #[]) ∧
  F.spatelaw6_TableKeeps.j4 Q C1 x0 x3 x4 x5 h69
def F.spatelaw6_TableKeeps.j8 (Q : Bool → H → Prop) (C1 : Sl → (Option Addr) → Value → Int → H → Prop) (x0 : Sl) (x3 : Option Addr) (x4 : Value) (x5 : Int) (x6 : Addr) (x121 : Bool) (h : H) : Prop :=
  (x121 = true →
  Q false h) ∧
  (x121 = false →
  F.spatelaw6_TableKeeps.j7 Q C1 x0 x3 x4 x5 x6 h)
def F.spatelaw6_TableKeeps.j9 (Q : Bool → H → Prop) (C1 : Sl → (Option Addr) → Value → Int → H → Prop) (x0 : Sl) (x3 : Option Addr) (x4 : Value) (x5 : Int) (x143 : Bool) (h : H) : Prop :=
  (x143 = true →
  Q false h) ∧
  (x143 = false →
  F.spatelaw6_TableKeeps.j4 Q C1 x0 x3 x4 x5 h)
def F.spatelaw6_TableKeeps.j10 (Q : Bool → H → Prop) (C1 : Sl → (Option Addr) → Value → Int → H → Prop) (x0 : Sl) (x3 : Option Addr) (x4 : Value) (x5 : Int) (x177 : Bool) (h : H) : Prop :=
  (x177 = true →
  Q false h) ∧
  (x177 = false →
  F.spatelaw6_TableKeeps.j4 Q C1 x0 x3 x4 x5 h)
def F.spatelaw6_TableKeeps.j2 (Q : Bool → H → Prop) (C1 : Sl → (Option Addr) → Value → Int → H → Prop) (x0 : Sl) (x3 : Option Addr) (x4 : Value) (x5 : Int) (h : H) : Prop :=
  idxA x0 x5 3 fun a9 =>
  ld_S_spatelaw6_Step h a9 fun y11 =>
  new h (((⟨0, 0, (⟨#[]⟩ : ByteArray)⟩ : S_spatelaw6_Step) : S_spatelaw6_Step).cells.toArray) ty_46 fun a14 h13 =>
  stH h13 a14 y11.cells fun h15 =>
  ldS h15 (a14.add 2) fun y16 =>
  RunS PP (Instr.lookup 50 x4 (.string y16) true) h15 fun u h18 => ∃ (r19 : Int) (r20 : Bool), u = (.tuple #[(.int .i64 r19), (.bool r20)]) ∧
  F.table_Table_Slint_Slots x3 h18 fun r22 h21 =>
  F.table_Table_Slint_Left x3 h21 fun r24 h23 =>
  ldI .i64 h23 (a14.add 0) fun y35 =>
  (((y35 == 1)) = true →
  ldS h23 (a14.add 2) fun y38 =>
  ldI .i64 h23 (a14.add 1) fun y40 =>
  newL h23 #[(.int .i64 y40), (.int .i64 x5)] ty_3 2 fun s43 h42 =>
  F.table_Table_Slint_Put x3 y38 s43 h42 fun h44 =>
  ldS h44 (a14.add 2) fun y45 =>
  ldI .i64 h44 (a14.add 1) fun y47 =>
  RunS PP (Instr.mapUpdate 50 x4 (.string y45) (.int .i64 y47)) h44 fun _ h49 =>
  F.table_Table_Slint_Slots x3 h49 fun r52 h51 =>
  (((r52 != r22)) = true →
  (r20 = true →
  F.spatelaw6_TableKeeps.j6 Q C1 x0 x3 x4 x5 true h51) ∧
  (r20 = false →
  ((decide (r24 > 4)) = true →
  F.spatelaw6_TableKeeps.j6 Q C1 x0 x3 x4 x5 true h51) ∧
  ((decide (r24 > 4)) = false →
  F.table_Table_Slint_Left x3 h51 fun r57 h56 =>
  (((r57 != r22)) = true →
  F.spatelaw6_TableKeeps.j6 Q C1 x0 x3 x4 x5 true h56) ∧
  (((r57 != r22)) = false →
  F.table_Table_Slint_Slots x3 h56 fun r60 h59 =>
  F.spatelaw6_TableKeeps.j6 Q C1 x0 x3 x4 x5 ((r60 != (IntKind.wrap .i64 (2 * r22)))) h59)))) ∧
  (((r52 != r22)) = false →
  F.spatelaw6_TableKeeps.j6 Q C1 x0 x3 x4 x5 false h51)) ∧
  (((y35 == 1)) = false →
  (((y35 == 3)) = true →
  ldS h23 (a14.add 2) fun y62 =>
  F.table_Table_Slint_Drop x3 y62 h23 fun r65 r66 h64 =>
  ((!(r66 == r20)) = true →
  F.spatelaw6_TableKeeps.j8 Q C1 x0 x3 x4 x5 a14 true h64) ∧
  ((!(r66 == r20)) = false →
  (r66 = true →
  idxA r65 0 1 fun a74 =>
  ldI .i64 h64 a74 fun y76 =>
  ldS h64 (a14.add 2) fun y78 =>
  RunS PP (Instr.lookup 50 x4 (.string y78) false) h64 fun u h80 => ∃ r81 : Int, u = (.int .i64 r81) ∧
  cellH h80 a74 = some (.int .i64 y76) ∧
  (((y76 != r81)) = true →
  F.spatelaw6_TableKeeps.j8 Q C1 x0 x3 x4 x5 a14 true h80) ∧
  (((y76 != r81)) = false →
  ((!r66) = true →
  F.spatelaw6_TableKeeps.j8 Q C1 x0 x3 x4 x5 a14 (((r65.len : Int) != 0)) h80) ∧
  ((!r66) = false →
  F.spatelaw6_TableKeeps.j8 Q C1 x0 x3 x4 x5 a14 false h80))) ∧
  (r66 = false →
  ((!r66) = true →
  F.spatelaw6_TableKeeps.j8 Q C1 x0 x3 x4 x5 a14 (((r65.len : Int) != 0)) h64) ∧
  ((!r66) = false →
  F.spatelaw6_TableKeeps.j8 Q C1 x0 x3 x4 x5 a14 false h64)))) ∧
  (((y35 == 3)) = false →
  (((y35 == 4)) = true →
  ldI .i64 h23 (a14.add 1) fun y87 =>
  F.table_Table_Slint_Move x3 y87 h23 fun r90 h89 =>
  F.table_Table_Slint_Left x3 h89 fun r93 h92 =>
  (((r90 != r93)) = true →
  F.spatelaw6_TableKeeps.j9 Q C1 x0 x3 x4 x5 true h92) ∧
  (((r90 != r93)) = false →
  ((decide (r90 > r24)) = true →
  F.spatelaw6_TableKeeps.j9 Q C1 x0 x3 x4 x5 true h92) ∧
  ((decide (r90 > r24)) = false →
  F.spatelaw6_TableKeeps.j9 Q C1 x0 x3 x4 x5 (decide (r90 < 0)) h92))) ∧
  (((y35 == 4)) = false →
  (((y35 == 2)) = true →
  ldS h23 (a14.add 2) fun y97 =>
  F.table_Table_Slint_Get x3 y97 h23 fun r100 r101 h99 =>
  ((!(r101 == r20)) = true →
  F.spatelaw6_TableKeeps.j10 Q C1 x0 x3 x4 x5 true h99) ∧
  ((!(r101 == r20)) = false →
  (r101 = true →
  idxA r100 0 1 fun a105 =>
  ldI .i64 h99 a105 fun y107 =>
  ldS h99 (a14.add 2) fun y109 =>
  RunS PP (Instr.lookup 50 x4 (.string y109) false) h99 fun u h111 => ∃ r112 : Int, u = (.int .i64 r112) ∧
  cellH h111 a105 = some (.int .i64 y107) ∧
  (((y107 != r112)) = true →
  F.spatelaw6_TableKeeps.j10 Q C1 x0 x3 x4 x5 true h111) ∧
  (((y107 != r112)) = false →
  ((!r101) = true →
  F.spatelaw6_TableKeeps.j10 Q C1 x0 x3 x4 x5 (((r100.len : Int) != 0)) h111) ∧
  ((!r101) = false →
  F.spatelaw6_TableKeeps.j10 Q C1 x0 x3 x4 x5 false h111))) ∧
  (r101 = false →
  ((!r101) = true →
  F.spatelaw6_TableKeeps.j10 Q C1 x0 x3 x4 x5 (((r100.len : Int) != 0)) h99) ∧
  ((!r101) = false →
  F.spatelaw6_TableKeeps.j10 Q C1 x0 x3 x4 x5 false h99)))) ∧
  (((y35 == 2)) = false →
  F.spatelaw6_TableKeeps.j4 Q C1 x0 x3 x4 x5 h23))))
def F.spatelaw6_TableKeeps.j11 (Q : Bool → H → Prop) (C1 : Sl → (Option Addr) → Value → Int → H → Prop) (x0 : Sl) (x3 : Option Addr) (x4 : Value) (x5 : Int) (x29 : Bool) (h : H) : Prop :=
  (x29 = true →
  F.spatelaw6_TableKeeps.j2 Q C1 x0 x3 x4 x5 h) ∧
  (x29 = false →
  F.spatelaw6_lies x3 x4 h fun r119 h118 =>
  Q r119 h118)
def F.spatelaw6_TableKeeps.l1 (Q : Bool → H → Prop) : Nat → Sl → (Option Addr) → Value → Int → H → Prop
  | 0, _, _, _, _, _ => False
  | q1 + 1, x0, x3, x4, x5, h =>
    ((decide (x5 < (x0.len : Int))) = true →
    F.spatelaw6_TableKeeps.j11 Q (F.spatelaw6_TableKeeps.l1 Q q1) x0 x3 x4 x5 (decide (x5 < 4000)) h) ∧
    ((decide (x5 < (x0.len : Int))) = false →
    F.spatelaw6_TableKeeps.j11 Q (F.spatelaw6_TableKeeps.l1 Q q1) x0 x3 x4 x5 false h)
/-- spate/spatelaw6.TableKeeps -/
def F.spatelaw6_TableKeeps (p0 : Sl) (h : H) (Q : Bool → H → Prop) : Prop :=
  F.spatelaw6_known  h fun r2 h1 =>
  ((!r2) = true →
  Q false h1) ∧
  ((!r2) = false →
  F.table_New_Slint  h1 fun r5 h4 =>
  (r5.isNone = true →
  Q false h4) ∧
  (r5.isNone = false →
  RunS PP (Instr.makeMap 50 none) h4 fun m8 h7 =>
  ∃ m, F.spatelaw6_TableKeeps.l1 Q m p0 r5 m8 0 h7))
theorem F.spatelaw6_TableKeeps_ok {p0 : Sl} {h : H} {Q : Bool → H → Prop} (H : F.spatelaw6_TableKeeps p0 h Q) : Fn PP 8 ([p0.enc] : List Value).toArray h fun r h' => ∃ r0, r = (.bool r0) ∧ Q r0 h' := by
  unfold F.spatelaw6_TableKeeps at H
  refine fn_of Try.func8 Try.ntmps8 rfl rfl fun w0 => ?_
  refine tr_sub [(0, p0.enc)] ⟨rfl, trivial⟩ ?_
  refine tr_seq ?_
  refine tr_region ?_
  refine tr_p (y_assign rfl) rfl rfl ?_
  refine tr_nil ?_
  refine tr_thenN ?_
  refine tr_seq ?_
  refine tr_seq ?_
  refine tr_region ?_
  refine tr_e (e_call Try.call17 rfl (F.spatelaw6_known_ok H)) rfl rfl ?_
  rintro _ h1 ⟨r2, rfl, H⟩
  refine tr_p (y_not rfl) rfl rfl ?_
  refine tr_nil ?_
  refine tr_thenN ?_
  refine tr_cond rfl (fun g3 => ?_) (fun g3 => ?_)
  · replace H := H.1 g3
    refine tr_seq ?_
    refine tr_region ?_
    refine tr_p (y_assign rfl) rfl rfl ?_
    refine tr_nil ?_
    refine tr_thenN ?_
    refine tr_ret ?_
    refine tr_thenR ?_
    exact tr_ret1 rfl rfl ⟨_, rfl, H⟩
  · replace H := H.2 g3
    refine tr_skip ?_
    refine tr_thenN ?_
    refine tr_seq ?_
    refine tr_region ?_
    refine tr_e (e_call Try.call31 rfl (F.table_New_Slint_ok H)) rfl rfl ?_
    rintro _ h4 ⟨r5, rfl, H⟩
    refine tr_p (y_assign rfl) rfl rfl ?_
    refine tr_nil ?_
    refine tr_thenN ?_
    refine tr_seq ?_
    refine tr_seq ?_
    refine tr_region ?_
    refine tr_p (y_move rfl) rfl rfl ?_
    refine tr_p (y_pnil_eql Try.runUnderlying48 rfl rfl) rfl rfl ?_
    refine tr_nil ?_
    refine tr_thenN ?_
    refine tr_cond rfl (fun g6 => ?_) (fun g6 => ?_)
    · replace H := H.1 g6
      refine tr_seq ?_
      refine tr_region ?_
      refine tr_p (y_assign rfl) rfl rfl ?_
      refine tr_nil ?_
      refine tr_thenN ?_
      refine tr_ret ?_
      refine tr_thenR ?_
      exact tr_ret1 rfl rfl ⟨_, rfl, H⟩
    · replace H := H.2 g6
      refine tr_skip ?_
      refine tr_thenN ?_
      refine tr_seq ?_
      refine tr_region ?_
      refine tr_e (f_mkN H) rfl rfl ?_
      rintro m8 h7 H
      refine tr_p (y_assign rfl) rfl rfl ?_
      refine tr_nil ?_
      refine tr_thenN ?_
      refine tr_seq ?_
      refine tr_seq ?_
      refine tr_region ?_
      refine tr_p (y_assign rfl) rfl rfl ?_
      refine tr_nil ?_
      refine tr_thenN ?_
      refine tr_block ?_
      obtain ⟨m121, H⟩ := H
      refine tr_sub [(0, p0.enc), (3, (.pointer r5)), (4, m8), (5, (.int .i64 0))] ⟨rfl, rfl, rfl, rfl, trivial⟩ ?_
      refine tr_loop_j (fun m L' h => ∃ (x0 : Sl) (x3 : Option Addr) (x4 : Value) (x5 : Int), L' = [(0, x0.enc), (3, (.pointer x3)), (4, x4), (5, (.int .i64 x5))] ∧ F.spatelaw6_TableKeeps.l1 Q m x0 x3 x4 x5 h) ?_ ?_ m121 ⟨_, _, _, _, rfl, H⟩
      · rintro L' h ⟨_, _, _, _, _, H⟩; exact H
      · rintro q1 L' h ⟨x0, x3, x4, x5, rfl, H⟩
        unfold F.spatelaw6_TableKeeps.l1 at H
        refine tr_seq_j (fun L' h => ∃ (x0 : Sl) (x3 : Option Addr) (x4 : Value) (x5 : Int), L' = [(0, x0.enc), (3, (.pointer x3)), (4, x4), (5, (.int .i64 x5))] ∧ F.spatelaw6_TableKeeps.j2 Q (F.spatelaw6_TableKeeps.l1 Q q1) x0 x3 x4 x5 h) ?_ ?_
        · rintro L' h ⟨x0, x3, x4, x5, rfl, H⟩
          unfold F.spatelaw6_TableKeeps.j2 at H
          refine tr_seq_j (fun L' h => ∃ (x0 : Sl) (x3 : Option Addr) (x4 : Value) (x5 : Int), L' = [(0, x0.enc), (3, (.pointer x3)), (4, x4), (5, (.int .i64 x5))] ∧ F.spatelaw6_TableKeeps.j3 Q (F.spatelaw6_TableKeeps.l1 Q q1) x0 x3 x4 x5 h) ?_ ?_
          · rintro L' h ⟨x0, x3, x4, x5, rfl, H⟩
            unfold F.spatelaw6_TableKeeps.j3 at H
            refine tr_region ?_
            refine tr_p (y_move rfl) rfl rfl ?_
            refine tr_p (y_add rfl rfl) rfl rfl ?_
            refine tr_p (y_assign rfl) rfl rfl ?_
            refine tr_nil ?_
            refine tr_thenN ?_
            exact tr_join [(0, x0.enc), (3, (.pointer x3)), (4, x4), (5, (.int .i64 (IntKind.wrap .i64 (x5 + 1))))] ⟨rfl, rfl, rfl, rfl, trivial⟩ ⟨_, _, _, _, rfl, H⟩
          · refine tr_block ?_
            refine tr_seq ?_
            refine tr_region ?_
            refine tr_p (y_move rfl) rfl rfl ?_
            refine tr_p (y_move rfl) rfl rfl ?_
            obtain ⟨a9, e10, H⟩ := H
            refine tr_p (f_idx (s := x0) Try.runUnderlying43 Try.sizeOf46 rfl rfl e10) rfl rfl ?_
            obtain ⟨y11, k12, H⟩ := H
            refine tr_h (y_ldS Try.isAgg46 Try.sizeOf46 rfl rfl) k12 rfl rfl ?_
            refine tr_e (f_alloc (cs := ((⟨0, 0, (⟨#[]⟩ : ByteArray)⟩ : S_spatelaw6_Step) : S_spatelaw6_Step).cells.toArray) Try.zeroValue46 rfl H) rfl rfl ?_
            rintro _ h13 ⟨a14, rfl, H⟩
            refine tr_e (f_store (vs := y11.cells) Try.sizeOf46 rfl rfl cellsOfStruct rfl (by intro v hv; exact ones_S_spatelaw6_Step _ v hv) H) rfl rfl ?_
            rintro _ h15 ⟨rfl, H⟩
            refine tr_nil ?_
            refine tr_thenN ?_
            refine tr_seq ?_
            refine tr_region ?_
            refine tr_p (y_move rfl) rfl rfl ?_
            refine tr_p (y_fa (off := 2) Try.runUnderlying46 fo_46_2 rfl) rfl rfl ?_
            obtain ⟨y16, k17, H⟩ := H
            refine tr_h (y_ld Try.isAgg9 rfl) k17 rfl rfl ?_
            refine tr_e (f_lk rfl rfl H) rfl rfl ?_
            rintro _ h18 ⟨r19, r20, rfl, H⟩
            refine tr_p (y_move rfl) rfl rfl ?_
            refine tr_p (y_ext rfl rfl) rfl rfl ?_
            refine tr_p (y_ext rfl rfl) rfl rfl ?_
            refine tr_p (y_assign rfl) rfl rfl ?_
            refine tr_p (y_assign rfl) rfl rfl ?_
            refine tr_nil ?_
            refine tr_thenN ?_
            refine tr_seq ?_
            refine tr_region ?_
            refine tr_p (y_move rfl) rfl rfl ?_
            refine tr_e (e_call Try.call32 rfl (F.table_Table_Slint_Slots_ok H)) rfl rfl ?_
            rintro _ h21 ⟨r22, rfl, H⟩
            refine tr_p (y_assign rfl) rfl rfl ?_
            refine tr_nil ?_
            refine tr_thenN ?_
            refine tr_seq ?_
            refine tr_region ?_
            refine tr_p (y_move rfl) rfl rfl ?_
            refine tr_e (e_call Try.call33 rfl (F.table_Table_Slint_Left_ok H)) rfl rfl ?_
            rintro _ h23 ⟨r24, rfl, H⟩
            refine tr_p (y_assign rfl) rfl rfl ?_
            refine tr_nil ?_
            refine tr_thenN ?_
            refine tr_seq_j (fun L' h => ∃ (x0 : Sl) (x3 : Option Addr) (x4 : Value) (x5 : Int), L' = [(0, x0.enc), (3, (.pointer x3)), (4, x4), (5, (.int .i64 x5))] ∧ F.spatelaw6_TableKeeps.j4 Q (F.spatelaw6_TableKeeps.l1 Q q1) x0 x3 x4 x5 h) ?_ ?_
            · rintro L' h ⟨x0, x3, x4, x5, rfl, H⟩
              unfold F.spatelaw6_TableKeeps.j4 at H
              refine tr_seq_j (fun L' h => ∃ (x0 : Sl) (x3 : Option Addr) (x4 : Value) (x5 : Int) (x191 : Bool), L' = [(0, x0.enc), (3, (.pointer x3)), (4, x4), (5, (.int .i64 x5)), (191, (.bool x191))] ∧ F.spatelaw6_TableKeeps.j5 Q (F.spatelaw6_TableKeeps.l1 Q q1) x0 x3 x4 x5 x191 h) ?_ ?_
              · rintro L' h ⟨x0, x3, x4, x5, x191, rfl, H⟩
                unfold F.spatelaw6_TableKeeps.j5 at H
                refine tr_cond rfl (fun g25 => ?_) (fun g25 => ?_)
                · replace H := H.1 g25
                  refine tr_seq ?_
                  refine tr_region ?_
                  refine tr_p (y_assign rfl) rfl rfl ?_
                  refine tr_nil ?_
                  refine tr_thenN ?_
                  refine tr_ret ?_
                  refine tr_blockR ?_
                  refine tr_thenR ?_
                  refine tr_thenR ?_
                  refine tr_blockR ?_
                  refine tr_thenR ?_
                  exact tr_ret1 rfl rfl ⟨_, rfl, H⟩
                · replace H := H.2 g25
                  refine tr_skip ?_
                  refine tr_blockN ?_
                  refine tr_thenN ?_
                  exact tr_join [(0, x0.enc), (3, (.pointer x3)), (4, x4), (5, (.int .i64 x5))] ⟨rfl, rfl, rfl, rfl, trivial⟩ ⟨_, _, _, _, rfl, H⟩
              · refine tr_region ?_
                refine tr_p (y_move rfl) rfl rfl ?_
                refine tr_e (e_call Try.call38 rfl (F.table_Table_Slint_Len_ok H)) rfl rfl ?_
                rintro _ h26 ⟨r27, rfl, H⟩
                refine tr_p (y_move rfl) rfl rfl ?_
                refine tr_e (f_lenM rfl H) rfl rfl ?_
                rintro _ h28 ⟨s29, rfl, H⟩
                refine tr_p (y_neq rfl rfl) rfl rfl ?_
                refine tr_p (y_move rfl) rfl rfl ?_
                refine tr_split (t := 183) rfl (fun g30 => ?_) (fun g30 => ?_)
                · replace H := H.1 g30
                  refine tr_s rfl rfl ?_
                  refine tr_s rfl rfl ?_
                  refine tr_s rfl rfl ?_
                  refine tr_s rfl rfl ?_
                  refine tr_s rfl rfl ?_
                  refine tr_s rfl rfl ?_
                  refine tr_s rfl rfl ?_
                  refine tr_p (y_pick_t rfl rfl) rfl rfl ?_
                  refine tr_nil ?_
                  refine tr_thenN ?_
                  exact tr_join [(0, x0.enc), (3, (.pointer x3)), (4, x4), (5, (.int .i64 x5)), (191, (.bool true))] ⟨rfl, rfl, rfl, rfl, rfl, trivial⟩ ⟨_, _, _, _, _, rfl, H⟩
                · replace H := H.2 g30
                  refine tr_p (y_move rfl) rfl rfl ?_
                  refine tr_e (e_call Try.call38 rfl (F.table_Table_Slint_Len_ok H)) rfl rfl ?_
                  rintro _ h31 ⟨r32, rfl, H⟩
                  refine tr_p (y_mul rfl rfl) rfl rfl ?_
                  refine tr_p (y_move rfl) rfl rfl ?_
                  refine tr_e (e_call Try.call32 rfl (F.table_Table_Slint_Slots_ok H)) rfl rfl ?_
                  rintro _ h33 ⟨r34, rfl, H⟩
                  refine tr_p (y_mul rfl rfl) rfl rfl ?_
                  refine tr_p (y_gtr rfl rfl) rfl rfl ?_
                  refine tr_p (y_pick_f rfl rfl) rfl rfl ?_
                  refine tr_nil ?_
                  refine tr_thenN ?_
                  exact tr_join [(0, x0.enc), (3, (.pointer x3)), (4, x4), (5, (.int .i64 x5)), (191, (.bool (decide ((IntKind.wrap .i64 (4 * r32)) > (IntKind.wrap .i64 (3 * r34))))))] ⟨rfl, rfl, rfl, rfl, rfl, trivial⟩ ⟨_, _, _, _, _, rfl, H⟩
            · refine tr_seq ?_
              refine tr_region ?_
              refine tr_p (y_fa (off := 0) Try.runUnderlying46 fo_46_0 rfl) rfl rfl ?_
              obtain ⟨y35, k36, H⟩ := H
              refine tr_h (y_ld Try.isAgg3 rfl) k36 rfl rfl ?_
              refine tr_nil ?_
              refine tr_thenN ?_
              refine tr_block ?_
              refine tr_seq ?_
              refine tr_region ?_
              refine tr_p (y_eql rfl rfl) rfl rfl ?_
              refine tr_p (y_assign rfl) rfl rfl ?_
              refine tr_nil ?_
              refine tr_thenN ?_
              refine tr_cond rfl (fun g37 => ?_) (fun g37 => ?_)
              · replace H := H.1 g37
                refine tr_seq ?_
                refine tr_region ?_
                refine tr_p (y_move rfl) rfl rfl ?_
                refine tr_p (y_fa (off := 2) Try.runUnderlying46 fo_46_2 rfl) rfl rfl ?_
                obtain ⟨y38, k39, H⟩ := H
                refine tr_h (y_ld Try.isAgg9 rfl) k39 rfl rfl ?_
                refine tr_p (y_fa (off := 1) Try.runUnderlying46 fo_46_1 rfl) rfl rfl ?_
                obtain ⟨y40, k41, H⟩ := H
                refine tr_h (y_ld Try.isAgg3 rfl) k41 rfl rfl ?_
                refine tr_p (y_move rfl) rfl rfl ?_
                refine tr_e (f_buildL (cs := #[(.int .i64 y40), (.int .i64 x5)]) rfl rfl (bl_38_2_0_1 y40 x5) H) rfl rfl ?_
                rintro _ h42 ⟨s43, rfl, H⟩
                refine tr_e (e_call Try.call34 rfl (F.table_Table_Slint_Put_ok H)) rfl rfl ?_
                rintro _ h44 ⟨rfl, H⟩
                refine tr_nil ?_
                refine tr_thenN ?_
                refine tr_seq ?_
                refine tr_region ?_
                refine tr_p (y_move rfl) rfl rfl ?_
                refine tr_p (y_fa (off := 2) Try.runUnderlying46 fo_46_2 rfl) rfl rfl ?_
                obtain ⟨y45, k46, H⟩ := H
                refine tr_h (y_ld Try.isAgg9 rfl) k46 rfl rfl ?_
                refine tr_p (y_fa (off := 1) Try.runUnderlying46 fo_46_1 rfl) rfl rfl ?_
                obtain ⟨y47, k48, H⟩ := H
                refine tr_h (y_ld Try.isAgg3 rfl) k48 rfl rfl ?_
                refine tr_e (f_mu rfl rfl rfl H) rfl rfl ?_
                rintro _ h49 ⟨rfl, H⟩
                refine tr_nil ?_
                refine tr_thenN ?_
                refine tr_seq_j (fun L' h => ∃ (x0 : Sl) (x3 : Option Addr) (x4 : Value) (x5 : Int) (x87 : Bool), L' = [(0, x0.enc), (3, (.pointer x3)), (4, x4), (5, (.int .i64 x5)), (87, (.bool x87))] ∧ F.spatelaw6_TableKeeps.j6 Q (F.spatelaw6_TableKeeps.l1 Q q1) x0 x3 x4 x5 x87 h) ?_ ?_
                · rintro L' h ⟨x0, x3, x4, x5, x87, rfl, H⟩
                  unfold F.spatelaw6_TableKeeps.j6 at H
                  refine tr_cond rfl (fun g50 => ?_) (fun g50 => ?_)
                  · replace H := H.1 g50
                    refine tr_seq ?_
                    refine tr_region ?_
                    refine tr_p (y_assign rfl) rfl rfl ?_
                    refine tr_nil ?_
                    refine tr_thenN ?_
                    refine tr_ret ?_
                    refine tr_blockR ?_
                    refine tr_thenR ?_
                    refine tr_blockR ?_
                    refine tr_thenR ?_
                    refine tr_thenR ?_
                    refine tr_blockR ?_
                    refine tr_thenR ?_
                    exact tr_ret1 rfl rfl ⟨_, rfl, H⟩
                  · replace H := H.2 g50
                    refine tr_skip ?_
                    refine tr_blockN ?_
                    refine tr_thenN ?_
                    exact tr_join [(0, x0.enc), (3, (.pointer x3)), (4, x4), (5, (.int .i64 x5))] ⟨rfl, rfl, rfl, rfl, trivial⟩ ⟨_, _, _, _, rfl, H⟩
                · refine tr_region ?_
                  refine tr_p (y_move rfl) rfl rfl ?_
                  refine tr_e (e_call Try.call32 rfl (F.table_Table_Slint_Slots_ok H)) rfl rfl ?_
                  rintro _ h51 ⟨r52, rfl, H⟩
                  refine tr_p (y_move rfl) rfl rfl ?_
                  refine tr_p (y_neq rfl rfl) rfl rfl ?_
                  refine tr_p (y_move rfl) rfl rfl ?_
                  refine tr_split (t := 68) rfl (fun g53 => ?_) (fun g53 => ?_)
                  · replace H := H.1 g53
                    refine tr_p (y_move rfl) rfl rfl ?_
                    refine tr_p (y_move rfl) rfl rfl ?_
                    refine tr_split (t := 70) rfl (fun g54 => ?_) (fun g54 => ?_)
                    · replace H := H.1 g54
                      refine tr_s rfl rfl ?_
                      refine tr_s rfl rfl ?_
                      refine tr_p (y_pick_t rfl rfl) rfl rfl ?_
                      refine tr_p (y_move rfl) rfl rfl ?_
                      refine tr_s rfl rfl ?_
                      refine tr_s rfl rfl ?_
                      refine tr_s rfl rfl ?_
                      refine tr_s rfl rfl ?_
                      refine tr_p (y_pick_t rfl rfl) rfl rfl ?_
                      refine tr_p (y_move rfl) rfl rfl ?_
                      refine tr_s rfl rfl ?_
                      refine tr_s rfl rfl ?_
                      refine tr_s rfl rfl ?_
                      refine tr_s rfl rfl ?_
                      refine tr_s rfl rfl ?_
                      refine tr_p (y_pick_t rfl rfl) rfl rfl ?_
                      refine tr_p (y_pick_t rfl rfl) rfl rfl ?_
                      refine tr_nil ?_
                      refine tr_thenN ?_
                      exact tr_join [(0, x0.enc), (3, (.pointer x3)), (4, x4), (5, (.int .i64 x5)), (87, (.bool true))] ⟨rfl, rfl, rfl, rfl, rfl, trivial⟩ ⟨_, _, _, _, _, rfl, H⟩
                    · replace H := H.2 g54
                      refine tr_p (y_move rfl) rfl rfl ?_
                      refine tr_p (y_gtr rfl rfl) rfl rfl ?_
                      refine tr_p (y_pick_f rfl rfl) rfl rfl ?_
                      refine tr_p (y_move rfl) rfl rfl ?_
                      refine tr_split (t := 74) rfl (fun g55 => ?_) (fun g55 => ?_)
                      · replace H := H.1 g55
                        refine tr_s rfl rfl ?_
                        refine tr_s rfl rfl ?_
                        refine tr_s rfl rfl ?_
                        refine tr_s rfl rfl ?_
                        refine tr_p (y_pick_t rfl rfl) rfl rfl ?_
                        refine tr_p (y_move rfl) rfl rfl ?_
                        refine tr_s rfl rfl ?_
                        refine tr_s rfl rfl ?_
                        refine tr_s rfl rfl ?_
                        refine tr_s rfl rfl ?_
                        refine tr_s rfl rfl ?_
                        refine tr_p (y_pick_t rfl rfl) rfl rfl ?_
                        refine tr_p (y_pick_t rfl rfl) rfl rfl ?_
                        refine tr_nil ?_
                        refine tr_thenN ?_
                        exact tr_join [(0, x0.enc), (3, (.pointer x3)), (4, x4), (5, (.int .i64 x5)), (87, (.bool true))] ⟨rfl, rfl, rfl, rfl, rfl, trivial⟩ ⟨_, _, _, _, _, rfl, H⟩
                      · replace H := H.2 g55
                        refine tr_p (y_move rfl) rfl rfl ?_
                        refine tr_e (e_call Try.call33 rfl (F.table_Table_Slint_Left_ok H)) rfl rfl ?_
                        rintro _ h56 ⟨r57, rfl, H⟩
                        refine tr_p (y_move rfl) rfl rfl ?_
                        refine tr_p (y_neq rfl rfl) rfl rfl ?_
                        refine tr_p (y_pick_f rfl rfl) rfl rfl ?_
                        refine tr_p (y_move rfl) rfl rfl ?_
                        refine tr_split (t := 80) rfl (fun g58 => ?_) (fun g58 => ?_)
                        · replace H := H.1 g58
                          refine tr_s rfl rfl ?_
                          refine tr_s rfl rfl ?_
                          refine tr_s rfl rfl ?_
                          refine tr_s rfl rfl ?_
                          refine tr_s rfl rfl ?_
                          refine tr_p (y_pick_t rfl rfl) rfl rfl ?_
                          refine tr_p (y_pick_t rfl rfl) rfl rfl ?_
                          refine tr_nil ?_
                          refine tr_thenN ?_
                          exact tr_join [(0, x0.enc), (3, (.pointer x3)), (4, x4), (5, (.int .i64 x5)), (87, (.bool true))] ⟨rfl, rfl, rfl, rfl, rfl, trivial⟩ ⟨_, _, _, _, _, rfl, H⟩
                        · replace H := H.2 g58
                          refine tr_p (y_move rfl) rfl rfl ?_
                          refine tr_e (e_call Try.call32 rfl (F.table_Table_Slint_Slots_ok H)) rfl rfl ?_
                          rintro _ h59 ⟨r60, rfl, H⟩
                          refine tr_p (y_move rfl) rfl rfl ?_
                          refine tr_p (y_mul rfl rfl) rfl rfl ?_
                          refine tr_p (y_neq rfl rfl) rfl rfl ?_
                          refine tr_p (y_pick_f rfl rfl) rfl rfl ?_
                          refine tr_p (y_pick_t rfl rfl) rfl rfl ?_
                          refine tr_nil ?_
                          refine tr_thenN ?_
                          exact tr_join [(0, x0.enc), (3, (.pointer x3)), (4, x4), (5, (.int .i64 x5)), (87, (.bool ((r60 != (IntKind.wrap .i64 (2 * r22))))))] ⟨rfl, rfl, rfl, rfl, rfl, trivial⟩ ⟨_, _, _, _, _, rfl, H⟩
                  · replace H := H.2 g53
                    refine tr_s rfl rfl ?_
                    refine tr_s rfl rfl ?_
                    refine tr_s rfl rfl ?_
                    refine tr_s rfl rfl ?_
                    refine tr_s rfl rfl ?_
                    refine tr_s rfl rfl ?_
                    refine tr_s rfl rfl ?_
                    refine tr_s rfl rfl ?_
                    refine tr_s rfl rfl ?_
                    refine tr_s rfl rfl ?_
                    refine tr_s rfl rfl ?_
                    refine tr_s rfl rfl ?_
                    refine tr_s rfl rfl ?_
                    refine tr_s rfl rfl ?_
                    refine tr_s rfl rfl ?_
                    refine tr_s rfl rfl ?_
                    refine tr_s rfl rfl ?_
                    refine tr_s rfl rfl ?_
                    refine tr_p (y_pick_f rfl rfl) rfl rfl ?_
                    refine tr_nil ?_
                    refine tr_thenN ?_
                    exact tr_join [(0, x0.enc), (3, (.pointer x3)), (4, x4), (5, (.int .i64 x5)), (87, (.bool false))] ⟨rfl, rfl, rfl, rfl, rfl, trivial⟩ ⟨_, _, _, _, _, rfl, H⟩
              · replace H := H.2 g37
                refine tr_seq ?_
                refine tr_region ?_
                refine tr_p (y_eql rfl rfl) rfl rfl ?_
                refine tr_p (y_assign rfl) rfl rfl ?_
                refine tr_nil ?_
                refine tr_thenN ?_
                refine tr_cond rfl (fun g61 => ?_) (fun g61 => ?_)
                · replace H := H.1 g61
                  refine tr_seq ?_
                  refine tr_region ?_
                  refine tr_p (y_move rfl) rfl rfl ?_
                  refine tr_p (y_fa (off := 2) Try.runUnderlying46 fo_46_2 rfl) rfl rfl ?_
                  obtain ⟨y62, k63, H⟩ := H
                  refine tr_h (y_ld Try.isAgg9 rfl) k63 rfl rfl ?_
                  refine tr_e (e_call Try.call35 rfl (F.table_Table_Slint_Drop_ok H)) rfl rfl ?_
                  rintro _ h64 ⟨r65, r66, rfl, H⟩
                  refine tr_p (y_move rfl) rfl rfl ?_
                  refine tr_p (y_ext rfl rfl) rfl rfl ?_
                  refine tr_p (y_ext rfl rfl) rfl rfl ?_
                  refine tr_p (y_assign rfl) rfl rfl ?_
                  refine tr_p (y_assign rfl) rfl rfl ?_
                  refine tr_nil ?_
                  refine tr_thenN ?_
                  refine tr_seq_j (fun L' h => ∃ (x0 : Sl) (x3 : Option Addr) (x4 : Value) (x5 : Int) (x6 : Addr), L' = [(0, x0.enc), (3, (.pointer x3)), (4, x4), (5, (.int .i64 x5)), (6, (.pointer (some x6)))] ∧ F.spatelaw6_TableKeeps.j7 Q (F.spatelaw6_TableKeeps.l1 Q q1) x0 x3 x4 x5 x6 h) ?_ ?_
                  · rintro L' h ⟨x0, x3, x4, x5, x6, rfl, H⟩
                    unfold F.spatelaw6_TableKeeps.j7 at H
                    refine tr_region ?_
                    refine tr_p (y_move rfl) rfl rfl ?_
                    refine tr_p (y_fa (off := 2) Try.runUnderlying46 fo_46_2 rfl) rfl rfl ?_
                    obtain ⟨y67, k68, H⟩ := H
                    refine tr_h (y_ld Try.isAgg9 rfl) k68 rfl rfl ?_
                    refine tr_e (f_del rfl H) rfl rfl ?_
                    rintro _ h69 ⟨rfl, H⟩
                    refine tr_nil ?_
                    refine tr_blockN ?_
                    refine tr_thenN ?_
                    exact tr_join [(0, x0.enc), (3, (.pointer x3)), (4, x4), (5, (.int .i64 x5))] ⟨rfl, rfl, rfl, rfl, trivial⟩ ⟨_, _, _, _, rfl, H⟩
                  · refine tr_seq_j (fun L' h => ∃ (x0 : Sl) (x3 : Option Addr) (x4 : Value) (x5 : Int) (x6 : Addr) (x121 : Bool), L' = [(0, x0.enc), (3, (.pointer x3)), (4, x4), (5, (.int .i64 x5)), (6, (.pointer (some x6))), (121, (.bool x121))] ∧ F.spatelaw6_TableKeeps.j8 Q (F.spatelaw6_TableKeeps.l1 Q q1) x0 x3 x4 x5 x6 x121 h) ?_ ?_
                    · rintro L' h ⟨x0, x3, x4, x5, x6, x121, rfl, H⟩
                      unfold F.spatelaw6_TableKeeps.j8 at H
                      refine tr_cond rfl (fun g71 => ?_) (fun g71 => ?_)
                      · replace H := H.1 g71
                        refine tr_seq ?_
                        refine tr_region ?_
                        refine tr_p (y_assign rfl) rfl rfl ?_
                        refine tr_nil ?_
                        refine tr_thenN ?_
                        refine tr_ret ?_
                        refine tr_thenR ?_
                        refine tr_blockR ?_
                        refine tr_thenR ?_
                        refine tr_blockR ?_
                        refine tr_thenR ?_
                        refine tr_thenR ?_
                        refine tr_blockR ?_
                        refine tr_thenR ?_
                        exact tr_ret1 rfl rfl ⟨_, rfl, H⟩
                      · replace H := H.2 g71
                        refine tr_skip ?_
                        refine tr_thenN ?_
                        exact tr_join [(0, x0.enc), (3, (.pointer x3)), (4, x4), (5, (.int .i64 x5)), (6, (.pointer (some x6)))] ⟨rfl, rfl, rfl, rfl, rfl, trivial⟩ ⟨_, _, _, _, _, rfl, H⟩
                    · refine tr_draw mixed [0, 0, 3, 7, 15, 31, 63, 127, 255, 63, 63, 1087, 3647, 8191, 16383, 32767, 65535, 131071, 262143, 524287, 1048575, 2097151, 4194303, 8388607, 16777215] (by kernel_rfl) ?_
                      refine g_p 0 1 rfl (by kernel_rfl) (y_move rfl) rfl rfl ?_
                      refine g_p 1 3 rfl (by kernel_rfl) (y_move rfl) rfl rfl ?_
                      refine g_p 2 7 rfl (by kernel_rfl) (y_bneq Try.underlying4 rfl rfl) rfl rfl ?_
                      refine g_p 3 15 rfl (by kernel_rfl) (y_move rfl) rfl rfl ?_
                      refine g_split (t := 100) rfl (fun g72 => ?_) (fun g72 => ?_)
                      · replace H := H.1 g72
                        refine g_s 4 31 rfl (by kernel_rfl) rfl rfl ?_
                        refine g_s 5 63 rfl (by kernel_rfl) rfl rfl ?_
                        refine g_s 6 127 rfl (by kernel_rfl) rfl rfl ?_
                        refine g_s 7 255 rfl (by kernel_rfl) rfl rfl ?_
                        refine g_s 8 511 rfl (by kernel_rfl) rfl rfl ?_
                        refine g_s 9 1023 rfl (by kernel_rfl) rfl rfl ?_
                        refine g_s 10 2047 rfl (by kernel_rfl) rfl rfl ?_
                        refine g_s 11 4095 rfl (by kernel_rfl) rfl rfl ?_
                        refine g_s 12 8191 rfl (by kernel_rfl) rfl rfl ?_
                        refine g_s 13 16383 rfl (by kernel_rfl) rfl rfl ?_
                        refine g_s 14 32767 rfl (by kernel_rfl) rfl rfl ?_
                        refine g_p 15 65535 rfl (by kernel_rfl) (y_pick_t rfl rfl) rfl rfl ?_
                        refine g_p 16 131071 rfl (by kernel_rfl) (y_move rfl) rfl rfl ?_
                        refine g_s 17 262143 rfl (by kernel_rfl) rfl rfl ?_
                        refine g_s 18 524287 rfl (by kernel_rfl) rfl rfl ?_
                        refine g_s 19 1048575 rfl (by kernel_rfl) rfl rfl ?_
                        refine g_s 20 2097151 rfl (by kernel_rfl) rfl rfl ?_
                        refine g_s 21 4194303 rfl (by kernel_rfl) rfl rfl ?_
                        refine g_s 22 8388607 rfl (by kernel_rfl) rfl rfl ?_
                        refine g_s 23 16777215 rfl (by kernel_rfl) rfl rfl ?_
                        refine g_p 24 33554431 rfl (by kernel_rfl) (y_pick_t rfl rfl) rfl rfl ?_
                        refine g_d (by kernel_rfl) ?_
                        refine tr_thenN ?_
                        exact tr_join [(0, x0.enc), (3, (.pointer x3)), (4, x4), (5, (.int .i64 x5)), (6, (.pointer (some a14))), (121, (.bool true))] ⟨rfl, rfl, rfl, rfl, rfl, rfl, trivial⟩ ⟨_, _, _, _, _, _, rfl, H⟩
                      · replace H := H.2 g72
                        refine g_p 4 31 rfl (by kernel_rfl) (y_move rfl) rfl rfl ?_
                        refine g_p 5 63 rfl (by kernel_rfl) (y_move rfl) rfl rfl ?_
                        refine g_split (t := 102) rfl (fun g73 => ?_) (fun g73 => ?_)
                        · replace H := H.1 g73
                          refine g_p 6 127 rfl (by kernel_rfl) (y_move rfl) rfl rfl ?_
                          obtain ⟨a74, e75, H⟩ := H
                          refine g_p 7 255 rfl (by kernel_rfl) (f_idx (s := r65) Try.runUnderlying38 Try.sizeOf3 rfl rfl e75) rfl rfl ?_
                          obtain ⟨y76, k77, H⟩ := H
                          refine g_h 8 511 rfl (by kernel_rfl) (y_ld Try.isAgg3 rfl) k77 rfl rfl ?_
                          refine g_p 9 1023 rfl (by kernel_rfl) (y_move rfl) rfl rfl ?_
                          refine g_p 10 2047 rfl (by kernel_rfl) (y_fa (off := 2) Try.runUnderlying46 fo_46_2 rfl) rfl rfl ?_
                          obtain ⟨y78, k79, H⟩ := H
                          refine g_h 11 4095 rfl (by kernel_rfl) (y_ld Try.isAgg9 rfl) k79 rfl rfl ?_
                          refine g_e 12 8191 [(8, fun h => cellH h a74 = some (.int .i64 y76))] (by kernel_rfl) rfl (by kernel_rfl) (f_lk rfl rfl H) rfl rfl ?_
                          rintro _ h80 ⟨r81, rfl, H⟩
                          obtain ⟨k82, H⟩ := H
                          refine ⟨And.intro k82 trivial, ?_⟩
                          refine g_p 13 16383 rfl (by kernel_rfl) (y_neq rfl rfl) rfl rfl ?_
                          refine g_p 14 32767 rfl (by kernel_rfl) (y_pick_t rfl rfl) rfl rfl ?_
                          refine g_p 15 65535 rfl (by kernel_rfl) (y_pick_f rfl rfl) rfl rfl ?_
                          refine g_p 16 131071 rfl (by kernel_rfl) (y_move rfl) rfl rfl ?_
                          refine g_split (t := 113) rfl (fun g83 => ?_) (fun g83 => ?_)
                          · replace H := H.1 g83
                            refine g_s 17 262143 rfl (by kernel_rfl) rfl rfl ?_
                            refine g_s 18 524287 rfl (by kernel_rfl) rfl rfl ?_
                            refine g_s 19 1048575 rfl (by kernel_rfl) rfl rfl ?_
                            refine g_s 20 2097151 rfl (by kernel_rfl) rfl rfl ?_
                            refine g_s 21 4194303 rfl (by kernel_rfl) rfl rfl ?_
                            refine g_s 22 8388607 rfl (by kernel_rfl) rfl rfl ?_
                            refine g_s 23 16777215 rfl (by kernel_rfl) rfl rfl ?_
                            refine g_p 24 33554431 rfl (by kernel_rfl) (y_pick_t rfl rfl) rfl rfl ?_
                            refine g_d (by kernel_rfl) ?_
                            refine tr_thenN ?_
                            exact tr_join [(0, x0.enc), (3, (.pointer x3)), (4, x4), (5, (.int .i64 x5)), (6, (.pointer (some a14))), (121, (.bool true))] ⟨rfl, rfl, rfl, rfl, rfl, rfl, trivial⟩ ⟨_, _, _, _, _, _, rfl, H⟩
                          · replace H := H.2 g83
                            refine g_p 17 262143 rfl (by kernel_rfl) (y_move rfl) rfl rfl ?_
                            refine g_p 18 524287 rfl (by kernel_rfl) (y_not rfl) rfl rfl ?_
                            refine g_p 19 1048575 rfl (by kernel_rfl) (y_move rfl) rfl rfl ?_
                            refine g_split (t := 116) rfl (fun g84 => ?_) (fun g84 => ?_)
                            · replace H := H.1 g84
                              refine g_p 20 2097151 rfl (by kernel_rfl) (y_move rfl) rfl rfl ?_
                              refine g_p 21 4194303 rfl (by kernel_rfl) (y_len (ts := #[]) Try.runUnderlying38 (o := r65.ptr) (n := r65.len) (cap := r65.cap) rfl) rfl rfl ?_
                              refine g_p 22 8388607 rfl (by kernel_rfl) (y_neq rfl rfl) rfl rfl ?_
                              refine g_p 23 16777215 rfl (by kernel_rfl) (y_pick_t rfl rfl) rfl rfl ?_
                              refine g_p 24 33554431 rfl (by kernel_rfl) (y_pick_f rfl rfl) rfl rfl ?_
                              refine g_d (by kernel_rfl) ?_
                              refine tr_thenN ?_
                              exact tr_join [(0, x0.enc), (3, (.pointer x3)), (4, x4), (5, (.int .i64 x5)), (6, (.pointer (some a14))), (121, (.bool (((r65.len : Int) != 0))))] ⟨rfl, rfl, rfl, rfl, rfl, rfl, trivial⟩ ⟨_, _, _, _, _, _, rfl, H⟩
                            · replace H := H.2 g84
                              refine g_s 20 2097151 rfl (by kernel_rfl) rfl rfl ?_
                              refine g_s 21 4194303 rfl (by kernel_rfl) rfl rfl ?_
                              refine g_s 22 8388607 rfl (by kernel_rfl) rfl rfl ?_
                              refine g_p 23 16777215 rfl (by kernel_rfl) (y_pick_f rfl rfl) rfl rfl ?_
                              refine g_p 24 33554431 rfl (by kernel_rfl) (y_pick_f rfl rfl) rfl rfl ?_
                              refine g_d (by kernel_rfl) ?_
                              refine tr_thenN ?_
                              exact tr_join [(0, x0.enc), (3, (.pointer x3)), (4, x4), (5, (.int .i64 x5)), (6, (.pointer (some a14))), (121, (.bool false))] ⟨rfl, rfl, rfl, rfl, rfl, rfl, trivial⟩ ⟨_, _, _, _, _, _, rfl, H⟩
                        · replace H := H.2 g73
                          refine g_s 6 127 rfl (by kernel_rfl) rfl rfl ?_
                          refine g_s 7 255 rfl (by kernel_rfl) rfl rfl ?_
                          refine g_s 8 511 rfl (by kernel_rfl) rfl rfl ?_
                          refine g_s 9 1023 rfl (by kernel_rfl) rfl rfl ?_
                          refine g_s 10 2047 rfl (by kernel_rfl) rfl rfl ?_
                          refine g_s 11 4095 rfl (by kernel_rfl) rfl rfl ?_
                          refine g_s 12 8191 rfl (by kernel_rfl) rfl rfl ?_
                          refine g_s 13 16383 rfl (by kernel_rfl) rfl rfl ?_
                          refine g_p 14 32767 rfl (by kernel_rfl) (y_pick_f rfl rfl) rfl rfl ?_
                          refine g_p 15 65535 rfl (by kernel_rfl) (y_pick_f rfl rfl) rfl rfl ?_
                          refine g_p 16 131071 rfl (by kernel_rfl) (y_move rfl) rfl rfl ?_
                          refine g_p 17 262143 rfl (by kernel_rfl) (y_move rfl) rfl rfl ?_
                          refine g_p 18 524287 rfl (by kernel_rfl) (y_not rfl) rfl rfl ?_
                          refine g_p 19 1048575 rfl (by kernel_rfl) (y_move rfl) rfl rfl ?_
                          refine g_split (t := 116) rfl (fun g85 => ?_) (fun g85 => ?_)
                          · replace H := H.1 g85
                            refine g_p 20 2097151 rfl (by kernel_rfl) (y_move rfl) rfl rfl ?_
                            refine g_p 21 4194303 rfl (by kernel_rfl) (y_len (ts := #[]) Try.runUnderlying38 (o := r65.ptr) (n := r65.len) (cap := r65.cap) rfl) rfl rfl ?_
                            refine g_p 22 8388607 rfl (by kernel_rfl) (y_neq rfl rfl) rfl rfl ?_
                            refine g_p 23 16777215 rfl (by kernel_rfl) (y_pick_t rfl rfl) rfl rfl ?_
                            refine g_p 24 33554431 rfl (by kernel_rfl) (y_pick_f rfl rfl) rfl rfl ?_
                            refine g_d (by kernel_rfl) ?_
                            refine tr_thenN ?_
                            exact tr_join [(0, x0.enc), (3, (.pointer x3)), (4, x4), (5, (.int .i64 x5)), (6, (.pointer (some a14))), (121, (.bool (((r65.len : Int) != 0))))] ⟨rfl, rfl, rfl, rfl, rfl, rfl, trivial⟩ ⟨_, _, _, _, _, _, rfl, H⟩
                          · replace H := H.2 g85
                            refine g_s 20 2097151 rfl (by kernel_rfl) rfl rfl ?_
                            refine g_s 21 4194303 rfl (by kernel_rfl) rfl rfl ?_
                            refine g_s 22 8388607 rfl (by kernel_rfl) rfl rfl ?_
                            refine g_p 23 16777215 rfl (by kernel_rfl) (y_pick_f rfl rfl) rfl rfl ?_
                            refine g_p 24 33554431 rfl (by kernel_rfl) (y_pick_f rfl rfl) rfl rfl ?_
                            refine g_d (by kernel_rfl) ?_
                            refine tr_thenN ?_
                            exact tr_join [(0, x0.enc), (3, (.pointer x3)), (4, x4), (5, (.int .i64 x5)), (6, (.pointer (some a14))), (121, (.bool false))] ⟨rfl, rfl, rfl, rfl, rfl, rfl, trivial⟩ ⟨_, _, _, _, _, _, rfl, H⟩
                · replace H := H.2 g61
                  refine tr_seq ?_
                  refine tr_region ?_
                  refine tr_p (y_eql rfl rfl) rfl rfl ?_
                  refine tr_p (y_assign rfl) rfl rfl ?_
                  refine tr_nil ?_
                  refine tr_thenN ?_
                  refine tr_cond rfl (fun g86 => ?_) (fun g86 => ?_)
                  · replace H := H.1 g86
                    refine tr_seq ?_
                    refine tr_region ?_
                    refine tr_p (y_move rfl) rfl rfl ?_
                    refine tr_p (y_fa (off := 1) Try.runUnderlying46 fo_46_1 rfl) rfl rfl ?_
                    obtain ⟨y87, k88, H⟩ := H
                    refine tr_h (y_ld Try.isAgg3 rfl) k88 rfl rfl ?_
                    refine tr_e (e_call Try.call36 rfl (F.table_Table_Slint_Move_ok H)) rfl rfl ?_
                    rintro _ h89 ⟨r90, rfl, H⟩
                    refine tr_p (y_assign rfl) rfl rfl ?_
                    refine tr_nil ?_
                    refine tr_thenN ?_
                    refine tr_seq_j (fun L' h => ∃ (x0 : Sl) (x3 : Option Addr) (x4 : Value) (x5 : Int) (x143 : Bool), L' = [(0, x0.enc), (3, (.pointer x3)), (4, x4), (5, (.int .i64 x5)), (143, (.bool x143))] ∧ F.spatelaw6_TableKeeps.j9 Q (F.spatelaw6_TableKeeps.l1 Q q1) x0 x3 x4 x5 x143 h) ?_ ?_
                    · rintro L' h ⟨x0, x3, x4, x5, x143, rfl, H⟩
                      unfold F.spatelaw6_TableKeeps.j9 at H
                      refine tr_cond rfl (fun g91 => ?_) (fun g91 => ?_)
                      · replace H := H.1 g91
                        refine tr_seq ?_
                        refine tr_region ?_
                        refine tr_p (y_assign rfl) rfl rfl ?_
                        refine tr_nil ?_
                        refine tr_thenN ?_
                        refine tr_ret ?_
                        refine tr_blockR ?_
                        refine tr_thenR ?_
                        refine tr_blockR ?_
                        refine tr_thenR ?_
                        refine tr_thenR ?_
                        refine tr_blockR ?_
                        refine tr_thenR ?_
                        exact tr_ret1 rfl rfl ⟨_, rfl, H⟩
                      · replace H := H.2 g91
                        refine tr_skip ?_
                        refine tr_blockN ?_
                        refine tr_thenN ?_
                        exact tr_join [(0, x0.enc), (3, (.pointer x3)), (4, x4), (5, (.int .i64 x5))] ⟨rfl, rfl, rfl, rfl, trivial⟩ ⟨_, _, _, _, rfl, H⟩
                    · refine tr_region ?_
                      refine tr_p (y_move rfl) rfl rfl ?_
                      refine tr_p (y_move rfl) rfl rfl ?_
                      refine tr_e (e_call Try.call33 rfl (F.table_Table_Slint_Left_ok H)) rfl rfl ?_
                      rintro _ h92 ⟨r93, rfl, H⟩
                      refine tr_p (y_neq rfl rfl) rfl rfl ?_
                      refine tr_p (y_move rfl) rfl rfl ?_
                      refine tr_split (t := 135) rfl (fun g94 => ?_) (fun g94 => ?_)
                      · replace H := H.1 g94
                        refine tr_s rfl rfl ?_
                        refine tr_s rfl rfl ?_
                        refine tr_s rfl rfl ?_
                        refine tr_p (y_pick_t rfl rfl) rfl rfl ?_
                        refine tr_p (y_move rfl) rfl rfl ?_
                        refine tr_s rfl rfl ?_
                        refine tr_s rfl rfl ?_
                        refine tr_p (y_pick_t rfl rfl) rfl rfl ?_
                        refine tr_nil ?_
                        refine tr_thenN ?_
                        exact tr_join [(0, x0.enc), (3, (.pointer x3)), (4, x4), (5, (.int .i64 x5)), (143, (.bool true))] ⟨rfl, rfl, rfl, rfl, rfl, trivial⟩ ⟨_, _, _, _, _, rfl, H⟩
                      · replace H := H.2 g94
                        refine tr_p (y_move rfl) rfl rfl ?_
                        refine tr_p (y_move rfl) rfl rfl ?_
                        refine tr_p (y_gtr rfl rfl) rfl rfl ?_
                        refine tr_p (y_pick_f rfl rfl) rfl rfl ?_
                        refine tr_p (y_move rfl) rfl rfl ?_
                        refine tr_split (t := 140) rfl (fun g95 => ?_) (fun g95 => ?_)
                        · replace H := H.1 g95
                          refine tr_s rfl rfl ?_
                          refine tr_s rfl rfl ?_
                          refine tr_p (y_pick_t rfl rfl) rfl rfl ?_
                          refine tr_nil ?_
                          refine tr_thenN ?_
                          exact tr_join [(0, x0.enc), (3, (.pointer x3)), (4, x4), (5, (.int .i64 x5)), (143, (.bool true))] ⟨rfl, rfl, rfl, rfl, rfl, trivial⟩ ⟨_, _, _, _, _, rfl, H⟩
                        · replace H := H.2 g95
                          refine tr_p (y_move rfl) rfl rfl ?_
                          refine tr_p (y_lss rfl rfl) rfl rfl ?_
                          refine tr_p (y_pick_f rfl rfl) rfl rfl ?_
                          refine tr_nil ?_
                          refine tr_thenN ?_
                          exact tr_join [(0, x0.enc), (3, (.pointer x3)), (4, x4), (5, (.int .i64 x5)), (143, (.bool (decide (r90 < 0))))] ⟨rfl, rfl, rfl, rfl, rfl, trivial⟩ ⟨_, _, _, _, _, rfl, H⟩
                  · replace H := H.2 g86
                    refine tr_seq ?_
                    refine tr_region ?_
                    refine tr_p (y_eql rfl rfl) rfl rfl ?_
                    refine tr_p (y_assign rfl) rfl rfl ?_
                    refine tr_nil ?_
                    refine tr_thenN ?_
                    refine tr_cond rfl (fun g96 => ?_) (fun g96 => ?_)
                    · replace H := H.1 g96
                      refine tr_seq ?_
                      refine tr_region ?_
                      refine tr_p (y_move rfl) rfl rfl ?_
                      refine tr_p (y_fa (off := 2) Try.runUnderlying46 fo_46_2 rfl) rfl rfl ?_
                      obtain ⟨y97, k98, H⟩ := H
                      refine tr_h (y_ld Try.isAgg9 rfl) k98 rfl rfl ?_
                      refine tr_e (e_call Try.call37 rfl (F.table_Table_Slint_Get_ok H)) rfl rfl ?_
                      rintro _ h99 ⟨r100, r101, rfl, H⟩
                      refine tr_p (y_move rfl) rfl rfl ?_
                      refine tr_p (y_ext rfl rfl) rfl rfl ?_
                      refine tr_p (y_ext rfl rfl) rfl rfl ?_
                      refine tr_p (y_assign rfl) rfl rfl ?_
                      refine tr_p (y_assign rfl) rfl rfl ?_
                      refine tr_nil ?_
                      refine tr_thenN ?_
                      refine tr_seq_j (fun L' h => ∃ (x0 : Sl) (x3 : Option Addr) (x4 : Value) (x5 : Int) (x177 : Bool), L' = [(0, x0.enc), (3, (.pointer x3)), (4, x4), (5, (.int .i64 x5)), (177, (.bool x177))] ∧ F.spatelaw6_TableKeeps.j10 Q (F.spatelaw6_TableKeeps.l1 Q q1) x0 x3 x4 x5 x177 h) ?_ ?_
                      · rintro L' h ⟨x0, x3, x4, x5, x177, rfl, H⟩
                        unfold F.spatelaw6_TableKeeps.j10 at H
                        refine tr_cond rfl (fun g102 => ?_) (fun g102 => ?_)
                        · replace H := H.1 g102
                          refine tr_seq ?_
                          refine tr_region ?_
                          refine tr_p (y_assign rfl) rfl rfl ?_
                          refine tr_nil ?_
                          refine tr_thenN ?_
                          refine tr_ret ?_
                          refine tr_blockR ?_
                          refine tr_thenR ?_
                          refine tr_blockR ?_
                          refine tr_thenR ?_
                          refine tr_thenR ?_
                          refine tr_blockR ?_
                          refine tr_thenR ?_
                          exact tr_ret1 rfl rfl ⟨_, rfl, H⟩
                        · replace H := H.2 g102
                          refine tr_skip ?_
                          refine tr_blockN ?_
                          refine tr_thenN ?_
                          exact tr_join [(0, x0.enc), (3, (.pointer x3)), (4, x4), (5, (.int .i64 x5))] ⟨rfl, rfl, rfl, rfl, trivial⟩ ⟨_, _, _, _, rfl, H⟩
                      · refine tr_draw mixed [0, 0, 3, 7, 15, 31, 63, 127, 255, 63, 63, 1087, 3647, 8191, 16383, 32767, 65535, 131071, 262143, 524287, 1048575, 2097151, 4194303, 8388607, 16777215] (by kernel_rfl) ?_
                        refine g_p 0 1 rfl (by kernel_rfl) (y_move rfl) rfl rfl ?_
                        refine g_p 1 3 rfl (by kernel_rfl) (y_move rfl) rfl rfl ?_
                        refine g_p 2 7 rfl (by kernel_rfl) (y_bneq Try.underlying4 rfl rfl) rfl rfl ?_
                        refine g_p 3 15 rfl (by kernel_rfl) (y_move rfl) rfl rfl ?_
                        refine g_split (t := 156) rfl (fun g103 => ?_) (fun g103 => ?_)
                        · replace H := H.1 g103
                          refine g_s 4 31 rfl (by kernel_rfl) rfl rfl ?_
                          refine g_s 5 63 rfl (by kernel_rfl) rfl rfl ?_
                          refine g_s 6 127 rfl (by kernel_rfl) rfl rfl ?_
                          refine g_s 7 255 rfl (by kernel_rfl) rfl rfl ?_
                          refine g_s 8 511 rfl (by kernel_rfl) rfl rfl ?_
                          refine g_s 9 1023 rfl (by kernel_rfl) rfl rfl ?_
                          refine g_s 10 2047 rfl (by kernel_rfl) rfl rfl ?_
                          refine g_s 11 4095 rfl (by kernel_rfl) rfl rfl ?_
                          refine g_s 12 8191 rfl (by kernel_rfl) rfl rfl ?_
                          refine g_s 13 16383 rfl (by kernel_rfl) rfl rfl ?_
                          refine g_s 14 32767 rfl (by kernel_rfl) rfl rfl ?_
                          refine g_p 15 65535 rfl (by kernel_rfl) (y_pick_t rfl rfl) rfl rfl ?_
                          refine g_p 16 131071 rfl (by kernel_rfl) (y_move rfl) rfl rfl ?_
                          refine g_s 17 262143 rfl (by kernel_rfl) rfl rfl ?_
                          refine g_s 18 524287 rfl (by kernel_rfl) rfl rfl ?_
                          refine g_s 19 1048575 rfl (by kernel_rfl) rfl rfl ?_
                          refine g_s 20 2097151 rfl (by kernel_rfl) rfl rfl ?_
                          refine g_s 21 4194303 rfl (by kernel_rfl) rfl rfl ?_
                          refine g_s 22 8388607 rfl (by kernel_rfl) rfl rfl ?_
                          refine g_s 23 16777215 rfl (by kernel_rfl) rfl rfl ?_
                          refine g_p 24 33554431 rfl (by kernel_rfl) (y_pick_t rfl rfl) rfl rfl ?_
                          refine g_d (by kernel_rfl) ?_
                          refine tr_thenN ?_
                          exact tr_join [(0, x0.enc), (3, (.pointer x3)), (4, x4), (5, (.int .i64 x5)), (177, (.bool true))] ⟨rfl, rfl, rfl, rfl, rfl, trivial⟩ ⟨_, _, _, _, _, rfl, H⟩
                        · replace H := H.2 g103
                          refine g_p 4 31 rfl (by kernel_rfl) (y_move rfl) rfl rfl ?_
                          refine g_p 5 63 rfl (by kernel_rfl) (y_move rfl) rfl rfl ?_
                          refine g_split (t := 158) rfl (fun g104 => ?_) (fun g104 => ?_)
                          · replace H := H.1 g104
                            refine g_p 6 127 rfl (by kernel_rfl) (y_move rfl) rfl rfl ?_
                            obtain ⟨a105, e106, H⟩ := H
                            refine g_p 7 255 rfl (by kernel_rfl) (f_idx (s := r100) Try.runUnderlying38 Try.sizeOf3 rfl rfl e106) rfl rfl ?_
                            obtain ⟨y107, k108, H⟩ := H
                            refine g_h 8 511 rfl (by kernel_rfl) (y_ld Try.isAgg3 rfl) k108 rfl rfl ?_
                            refine g_p 9 1023 rfl (by kernel_rfl) (y_move rfl) rfl rfl ?_
                            refine g_p 10 2047 rfl (by kernel_rfl) (y_fa (off := 2) Try.runUnderlying46 fo_46_2 rfl) rfl rfl ?_
                            obtain ⟨y109, k110, H⟩ := H
                            refine g_h 11 4095 rfl (by kernel_rfl) (y_ld Try.isAgg9 rfl) k110 rfl rfl ?_
                            refine g_e 12 8191 [(8, fun h => cellH h a105 = some (.int .i64 y107))] (by kernel_rfl) rfl (by kernel_rfl) (f_lk rfl rfl H) rfl rfl ?_
                            rintro _ h111 ⟨r112, rfl, H⟩
                            obtain ⟨k113, H⟩ := H
                            refine ⟨And.intro k113 trivial, ?_⟩
                            refine g_p 13 16383 rfl (by kernel_rfl) (y_neq rfl rfl) rfl rfl ?_
                            refine g_p 14 32767 rfl (by kernel_rfl) (y_pick_t rfl rfl) rfl rfl ?_
                            refine g_p 15 65535 rfl (by kernel_rfl) (y_pick_f rfl rfl) rfl rfl ?_
                            refine g_p 16 131071 rfl (by kernel_rfl) (y_move rfl) rfl rfl ?_
                            refine g_split (t := 169) rfl (fun g114 => ?_) (fun g114 => ?_)
                            · replace H := H.1 g114
                              refine g_s 17 262143 rfl (by kernel_rfl) rfl rfl ?_
                              refine g_s 18 524287 rfl (by kernel_rfl) rfl rfl ?_
                              refine g_s 19 1048575 rfl (by kernel_rfl) rfl rfl ?_
                              refine g_s 20 2097151 rfl (by kernel_rfl) rfl rfl ?_
                              refine g_s 21 4194303 rfl (by kernel_rfl) rfl rfl ?_
                              refine g_s 22 8388607 rfl (by kernel_rfl) rfl rfl ?_
                              refine g_s 23 16777215 rfl (by kernel_rfl) rfl rfl ?_
                              refine g_p 24 33554431 rfl (by kernel_rfl) (y_pick_t rfl rfl) rfl rfl ?_
                              refine g_d (by kernel_rfl) ?_
                              refine tr_thenN ?_
                              exact tr_join [(0, x0.enc), (3, (.pointer x3)), (4, x4), (5, (.int .i64 x5)), (177, (.bool true))] ⟨rfl, rfl, rfl, rfl, rfl, trivial⟩ ⟨_, _, _, _, _, rfl, H⟩
                            · replace H := H.2 g114
                              refine g_p 17 262143 rfl (by kernel_rfl) (y_move rfl) rfl rfl ?_
                              refine g_p 18 524287 rfl (by kernel_rfl) (y_not rfl) rfl rfl ?_
                              refine g_p 19 1048575 rfl (by kernel_rfl) (y_move rfl) rfl rfl ?_
                              refine g_split (t := 172) rfl (fun g115 => ?_) (fun g115 => ?_)
                              · replace H := H.1 g115
                                refine g_p 20 2097151 rfl (by kernel_rfl) (y_move rfl) rfl rfl ?_
                                refine g_p 21 4194303 rfl (by kernel_rfl) (y_len (ts := #[]) Try.runUnderlying38 (o := r100.ptr) (n := r100.len) (cap := r100.cap) rfl) rfl rfl ?_
                                refine g_p 22 8388607 rfl (by kernel_rfl) (y_neq rfl rfl) rfl rfl ?_
                                refine g_p 23 16777215 rfl (by kernel_rfl) (y_pick_t rfl rfl) rfl rfl ?_
                                refine g_p 24 33554431 rfl (by kernel_rfl) (y_pick_f rfl rfl) rfl rfl ?_
                                refine g_d (by kernel_rfl) ?_
                                refine tr_thenN ?_
                                exact tr_join [(0, x0.enc), (3, (.pointer x3)), (4, x4), (5, (.int .i64 x5)), (177, (.bool (((r100.len : Int) != 0))))] ⟨rfl, rfl, rfl, rfl, rfl, trivial⟩ ⟨_, _, _, _, _, rfl, H⟩
                              · replace H := H.2 g115
                                refine g_s 20 2097151 rfl (by kernel_rfl) rfl rfl ?_
                                refine g_s 21 4194303 rfl (by kernel_rfl) rfl rfl ?_
                                refine g_s 22 8388607 rfl (by kernel_rfl) rfl rfl ?_
                                refine g_p 23 16777215 rfl (by kernel_rfl) (y_pick_f rfl rfl) rfl rfl ?_
                                refine g_p 24 33554431 rfl (by kernel_rfl) (y_pick_f rfl rfl) rfl rfl ?_
                                refine g_d (by kernel_rfl) ?_
                                refine tr_thenN ?_
                                exact tr_join [(0, x0.enc), (3, (.pointer x3)), (4, x4), (5, (.int .i64 x5)), (177, (.bool false))] ⟨rfl, rfl, rfl, rfl, rfl, trivial⟩ ⟨_, _, _, _, _, rfl, H⟩
                          · replace H := H.2 g104
                            refine g_s 6 127 rfl (by kernel_rfl) rfl rfl ?_
                            refine g_s 7 255 rfl (by kernel_rfl) rfl rfl ?_
                            refine g_s 8 511 rfl (by kernel_rfl) rfl rfl ?_
                            refine g_s 9 1023 rfl (by kernel_rfl) rfl rfl ?_
                            refine g_s 10 2047 rfl (by kernel_rfl) rfl rfl ?_
                            refine g_s 11 4095 rfl (by kernel_rfl) rfl rfl ?_
                            refine g_s 12 8191 rfl (by kernel_rfl) rfl rfl ?_
                            refine g_s 13 16383 rfl (by kernel_rfl) rfl rfl ?_
                            refine g_p 14 32767 rfl (by kernel_rfl) (y_pick_f rfl rfl) rfl rfl ?_
                            refine g_p 15 65535 rfl (by kernel_rfl) (y_pick_f rfl rfl) rfl rfl ?_
                            refine g_p 16 131071 rfl (by kernel_rfl) (y_move rfl) rfl rfl ?_
                            refine g_p 17 262143 rfl (by kernel_rfl) (y_move rfl) rfl rfl ?_
                            refine g_p 18 524287 rfl (by kernel_rfl) (y_not rfl) rfl rfl ?_
                            refine g_p 19 1048575 rfl (by kernel_rfl) (y_move rfl) rfl rfl ?_
                            refine g_split (t := 172) rfl (fun g116 => ?_) (fun g116 => ?_)
                            · replace H := H.1 g116
                              refine g_p 20 2097151 rfl (by kernel_rfl) (y_move rfl) rfl rfl ?_
                              refine g_p 21 4194303 rfl (by kernel_rfl) (y_len (ts := #[]) Try.runUnderlying38 (o := r100.ptr) (n := r100.len) (cap := r100.cap) rfl) rfl rfl ?_
                              refine g_p 22 8388607 rfl (by kernel_rfl) (y_neq rfl rfl) rfl rfl ?_
                              refine g_p 23 16777215 rfl (by kernel_rfl) (y_pick_t rfl rfl) rfl rfl ?_
                              refine g_p 24 33554431 rfl (by kernel_rfl) (y_pick_f rfl rfl) rfl rfl ?_
                              refine g_d (by kernel_rfl) ?_
                              refine tr_thenN ?_
                              exact tr_join [(0, x0.enc), (3, (.pointer x3)), (4, x4), (5, (.int .i64 x5)), (177, (.bool (((r100.len : Int) != 0))))] ⟨rfl, rfl, rfl, rfl, rfl, trivial⟩ ⟨_, _, _, _, _, rfl, H⟩
                            · replace H := H.2 g116
                              refine g_s 20 2097151 rfl (by kernel_rfl) rfl rfl ?_
                              refine g_s 21 4194303 rfl (by kernel_rfl) rfl rfl ?_
                              refine g_s 22 8388607 rfl (by kernel_rfl) rfl rfl ?_
                              refine g_p 23 16777215 rfl (by kernel_rfl) (y_pick_f rfl rfl) rfl rfl ?_
                              refine g_p 24 33554431 rfl (by kernel_rfl) (y_pick_f rfl rfl) rfl rfl ?_
                              refine g_d (by kernel_rfl) ?_
                              refine tr_thenN ?_
                              exact tr_join [(0, x0.enc), (3, (.pointer x3)), (4, x4), (5, (.int .i64 x5)), (177, (.bool false))] ⟨rfl, rfl, rfl, rfl, rfl, trivial⟩ ⟨_, _, _, _, _, rfl, H⟩
                    · replace H := H.2 g96
                      refine tr_skip ?_
                      refine tr_blockN ?_
                      refine tr_thenN ?_
                      exact tr_join [(0, x0.enc), (3, (.pointer x3)), (4, x4), (5, (.int .i64 x5))] ⟨rfl, rfl, rfl, rfl, trivial⟩ ⟨_, _, _, _, rfl, H⟩
        · refine tr_seq_j (fun L' h => ∃ (x0 : Sl) (x3 : Option Addr) (x4 : Value) (x5 : Int) (x29 : Bool), L' = [(0, x0.enc), (3, (.pointer x3)), (4, x4), (5, (.int .i64 x5)), (29, (.bool x29))] ∧ F.spatelaw6_TableKeeps.j11 Q (F.spatelaw6_TableKeeps.l1 Q q1) x0 x3 x4 x5 x29 h) ?_ ?_
          · rintro L' h ⟨x0, x3, x4, x5, x29, rfl, H⟩
            unfold F.spatelaw6_TableKeeps.j11 at H
            refine tr_cond rfl (fun g117 => ?_) (fun g117 => ?_)
            · replace H := H.1 g117
              refine tr_skip ?_
              refine tr_thenN ?_
              exact tr_join [(0, x0.enc), (3, (.pointer x3)), (4, x4), (5, (.int .i64 x5))] ⟨rfl, rfl, rfl, rfl, trivial⟩ ⟨_, _, _, _, rfl, H⟩
            · replace H := H.2 g117
              refine tr_exit ?_
              refine tr_thenE ?_
              refine tr_thenE ?_
              refine tr_hit ?_
              refine tr_thenN ?_
              refine tr_seq ?_
              refine tr_region ?_
              refine tr_p (y_move rfl) rfl rfl ?_
              refine tr_p (y_move rfl) rfl rfl ?_
              refine tr_e (e_call Try.call39 rfl (F.spatelaw6_lies_ok H)) rfl rfl ?_
              rintro _ h118 ⟨r119, rfl, H⟩
              refine tr_p (y_assign rfl) rfl rfl ?_
              refine tr_nil ?_
              refine tr_thenN ?_
              refine tr_ret ?_
              exact tr_ret1 rfl rfl ⟨_, rfl, H⟩
          · refine tr_region ?_
            refine tr_p (y_move rfl) rfl rfl ?_
            refine tr_p (y_move rfl) rfl rfl ?_
            refine tr_p (y_len (ts := #[]) Try.runUnderlying43 (o := x0.ptr) (n := x0.len) (cap := x0.cap) rfl) rfl rfl ?_
            refine tr_p (y_lss rfl rfl) rfl rfl ?_
            refine tr_p (y_move rfl) rfl rfl ?_
            refine tr_split (t := 26) rfl (fun g120 => ?_) (fun g120 => ?_)
            · replace H := H.1 g120
              refine tr_p (y_move rfl) rfl rfl ?_
              refine tr_p (y_lss rfl rfl) rfl rfl ?_
              refine tr_p (y_pick_t rfl rfl) rfl rfl ?_
              refine tr_nil ?_
              refine tr_thenN ?_
              exact tr_join [(0, x0.enc), (3, (.pointer x3)), (4, x4), (5, (.int .i64 x5)), (29, (.bool (decide (x5 < 4000))))] ⟨rfl, rfl, rfl, rfl, rfl, trivial⟩ ⟨_, _, _, _, _, rfl, H⟩
            · replace H := H.2 g120
              refine tr_s rfl rfl ?_
              refine tr_s rfl rfl ?_
              refine tr_p (y_pick_f rfl rfl) rfl rfl ?_
              refine tr_nil ?_
              refine tr_thenN ?_
              exact tr_join [(0, x0.enc), (3, (.pointer x3)), (4, x4), (5, (.int .i64 x5)), (29, (.bool false))] ⟨rfl, rfl, rfl, rfl, rfl, trivial⟩ ⟨_, _, _, _, _, rfl, H⟩

/-- spate/spateref6.New -/
def F.spateref6_New  (h : H) (Q : (Option Addr) → H → Prop) : Prop :=
  runL PP (Instr.makeSlice 102 (.int .i64 8) (.int .i64 8)) h fun s2 h1 =>
  new h1 ((⟨s2, (⟨none, 0, 0⟩ : Sl), 0, 0⟩ : S_spateref6_Table).cells.toArray) ty_104 fun a4 h3 =>
  Q (some a4) h3
theorem F.spateref6_New_ok  {h : H} {Q : (Option Addr) → H → Prop} (H : F.spateref6_New  h Q) : Fn PP 40 ([] : List Value).toArray h fun r h' => ∃ r0, r = (.pointer r0) ∧ Q r0 h' := by
  unfold F.spateref6_New at H
  refine fn_of Try.func40 Try.ntmps40 rfl rfl fun w0 => ?_
  refine tr_sub [] trivial ?_
  refine tr_seq ?_
  refine tr_region ?_
  refine tr_p (y_assign rfl) rfl rfl ?_
  refine tr_nil ?_
  refine tr_thenN ?_
  refine tr_seq ?_
  refine tr_region ?_
  refine tr_e (f_make rfl rfl H) rfl rfl ?_
  rintro _ h1 ⟨s2, rfl, H⟩
  refine tr_p (f_build rfl (bd_104_0 s2)) rfl rfl ?_
  refine tr_e (f_box (cs := (⟨s2, (⟨none, 0, 0⟩ : Sl), 0, 0⟩ : S_spateref6_Table).cells.toArray) rfl rfl H) rfl rfl ?_
  rintro _ h3 ⟨a4, rfl, H⟩
  refine tr_p (y_assign rfl) rfl rfl ?_
  refine tr_nil ?_
  refine tr_thenN ?_
  refine tr_ret ?_
  exact tr_ret1 rfl rfl ⟨_, rfl, H⟩

/-- (*spate/spateref6.Table).Left -/
def F.spateref6_Table_Left (p0 : Option Addr) (h : H) (Q : Int → H → Prop) : Prop :=
  nn p0 fun a1 =>
  ldL h (a1.add 1) fun y3 =>
  nn p0 fun a5 =>
  ldI .i64 h (a5.add 2) fun y7 =>
  Q (IntKind.wrap .i64 ((y3.len : Int) - y7)) h
theorem F.spateref6_Table_Left_ok {p0 : Option Addr} {h : H} {Q : Int → H → Prop} (H : F.spateref6_Table_Left p0 h Q) : Fn PP 72 ([(.pointer p0)] : List Value).toArray h fun r h' => ∃ r0, r = (.int .i64 r0) ∧ Q r0 h' := by
  unfold F.spateref6_Table_Left at H
  refine fn_of Try.func72 Try.ntmps72 rfl rfl fun w0 => ?_
  refine tr_sub [(0, (.pointer p0))] ⟨rfl, trivial⟩ ?_
  refine tr_seq ?_
  refine tr_region ?_
  refine tr_p (y_assign rfl) rfl rfl ?_
  refine tr_nil ?_
  refine tr_thenN ?_
  refine tr_seq ?_
  refine tr_draw mixed [0, 1, 3, 7, 15, 0, 32, 96, 224, 511, 1023] (by kernel_rfl) ?_
  refine g_p 0 1 rfl (by kernel_rfl) (y_move rfl) rfl rfl ?_
  obtain ⟨a1, e2, H⟩ := H
  refine g_p 1 3 rfl (by kernel_rfl) (f_nn rfl e2) rfl rfl ?_
  refine g_p 2 7 rfl (by kernel_rfl) (y_fa (off := 1) Try.runUnderlying104 fo_104_1 rfl) rfl rfl ?_
  obtain ⟨y3, k4, H⟩ := H
  refine g_h 3 15 rfl (by kernel_rfl) (y_ld Try.isAgg102 rfl) k4 rfl rfl ?_
  refine g_p 4 31 rfl (by kernel_rfl) (y_len (ts := #[]) Try.runUnderlying102 (o := y3.ptr) (n := y3.len) (cap := y3.cap) rfl) rfl rfl ?_
  refine g_p 5 63 rfl (by kernel_rfl) (y_move rfl) rfl rfl ?_
  obtain ⟨a5, e6, H⟩ := H
  refine g_p 6 127 rfl (by kernel_rfl) (f_nn rfl e6) rfl rfl ?_
  refine g_p 7 255 rfl (by kernel_rfl) (y_fa (off := 2) Try.runUnderlying104 fo_104_2 rfl) rfl rfl ?_
  obtain ⟨y7, k8, H⟩ := H
  refine g_h 8 511 rfl (by kernel_rfl) (y_ld Try.isAgg3 rfl) k8 rfl rfl ?_
  refine g_p 9 1023 rfl (by kernel_rfl) (y_sub rfl rfl) rfl rfl ?_
  refine g_p 10 2047 rfl (by kernel_rfl) (y_assign rfl) rfl rfl ?_
  refine g_d (by kernel_rfl) ?_
  refine tr_thenN ?_
  refine tr_ret ?_
  exact tr_ret1 rfl rfl ⟨_, rfl, H⟩

/-- spate/spatelaw6.sizes -/
def F.spatelaw6_sizes (p0 : Option Addr) (p1 : Option Addr) (h : H) (Q : Bool → H → Prop) : Prop :=
  nn p1 fun a1 =>
  ldI .i64 h (a1.add 3) fun y3 =>
  F.table_Table_int_Len p0 h fun r6 h5 =>
  cellH h5 (a1.add 3) = some (.int .i64 y3) ∧
  (((r6 == y3)) = true →
  nn p1 fun a9 =>
  ldL h5 (a9.add 0) fun y11 =>
  F.table_Table_int_Slots p0 h5 fun r14 h13 =>
  cellH h13 (a9.add 0) = some y11.enc ∧
  (((r14 == (y11.len : Int))) = true →
  F.table_Table_int_Left p0 h13 fun r18 h17 =>
  F.spateref6_Table_Left p1 h17 fun r20 h19 =>
  Q ((r18 == r20)) h19) ∧
  (((r14 == (y11.len : Int))) = false →
  Q false h13)) ∧
  (((r6 == y3)) = false →
  Q false h5)
theorem F.spatelaw6_sizes_ok {p0 : Option Addr} {p1 : Option Addr} {h : H} {Q : Bool → H → Prop} (H : F.spatelaw6_sizes p0 p1 h Q) : Fn PP 61 ([(.pointer p0), (.pointer p1)] : List Value).toArray h fun r h' => ∃ r0, r = (.bool r0) ∧ Q r0 h' := by
  unfold F.spatelaw6_sizes at H
  refine fn_of Try.func61 Try.ntmps61 rfl rfl fun w0 => ?_
  refine tr_sub [(0, (.pointer p0)), (1, (.pointer p1))] ⟨rfl, rfl, trivial⟩ ?_
  refine tr_seq ?_
  refine tr_region ?_
  refine tr_p (y_assign rfl) rfl rfl ?_
  refine tr_nil ?_
  refine tr_thenN ?_
  refine tr_seq ?_
  refine tr_draw mixed [0, 1, 0, 4, 12, 28, 63, 127, 255, 511, 255, 1279, 3327, 7423, 15615, 32767, 65535, 131071, 262143, 524287, 262143, 2097151, 4194303, 8388607, 16777215] (by kernel_rfl) ?_
  refine g_p 0 1 rfl (by kernel_rfl) (y_move rfl) rfl rfl ?_
  refine g_p 2 5 rfl (by kernel_rfl) (y_move rfl) rfl rfl ?_
  obtain ⟨a1, e2, H⟩ := H
  refine g_p 3 13 rfl (by kernel_rfl) (f_nn rfl e2) rfl rfl ?_
  refine g_p 4 29 rfl (by kernel_rfl) (y_fa (off := 3) Try.runUnderlying104 fo_104_3 rfl) rfl rfl ?_
  obtain ⟨y3, k4, H⟩ := H
  refine g_h 5 61 rfl (by kernel_rfl) (y_ld Try.isAgg3 rfl) k4 rfl rfl ?_
  refine g_e 1 63 [(5, fun h => cellH h (a1.add 3) = some (.int .i64 y3))] (by kernel_rfl) rfl (by kernel_rfl) (e_call Try.call23 rfl (F.table_Table_int_Len_ok H)) rfl rfl ?_
  rintro _ h5 ⟨r6, rfl, H⟩
  obtain ⟨k7, H⟩ := H
  refine ⟨And.intro k7 trivial, ?_⟩
  refine g_p 6 127 rfl (by kernel_rfl) (y_eql rfl rfl) rfl rfl ?_
  refine g_p 7 255 rfl (by kernel_rfl) (y_move rfl) rfl rfl ?_
  refine g_split (t := 12) rfl (fun g8 => ?_) (fun g8 => ?_)
  · replace H := H.1 g8
    refine g_p 8 511 rfl (by kernel_rfl) (y_move rfl) rfl rfl ?_
    refine g_p 10 1535 rfl (by kernel_rfl) (y_move rfl) rfl rfl ?_
    obtain ⟨a9, e10, H⟩ := H
    refine g_p 11 3583 rfl (by kernel_rfl) (f_nn rfl e10) rfl rfl ?_
    refine g_p 12 7679 rfl (by kernel_rfl) (y_fa (off := 0) Try.runUnderlying104 fo_104_0 rfl) rfl rfl ?_
    obtain ⟨y11, k12, H⟩ := H
    refine g_h 13 15871 rfl (by kernel_rfl) (y_ld Try.isAgg102 rfl) k12 rfl rfl ?_
    refine g_p 14 32255 rfl (by kernel_rfl) (y_len (ts := #[]) Try.runUnderlying102 (o := y11.ptr) (n := y11.len) (cap := y11.cap) rfl) rfl rfl ?_
    refine g_e 9 32767 [(13, fun h => cellH h (a9.add 0) = some y11.enc)] (by kernel_rfl) rfl (by kernel_rfl) (e_call Try.call24 rfl (F.table_Table_int_Slots_ok H)) rfl rfl ?_
    rintro _ h13 ⟨r14, rfl, H⟩
    obtain ⟨k15, H⟩ := H
    refine ⟨And.intro k15 trivial, ?_⟩
    refine g_p 15 65535 rfl (by kernel_rfl) (y_eql rfl rfl) rfl rfl ?_
    refine g_p 16 131071 rfl (by kernel_rfl) (y_pick_t rfl rfl) rfl rfl ?_
    refine g_p 17 262143 rfl (by kernel_rfl) (y_move rfl) rfl rfl ?_
    refine g_split (t := 22) rfl (fun g16 => ?_) (fun g16 => ?_)
    · replace H := H.1 g16
      refine g_p 18 524287 rfl (by kernel_rfl) (y_move rfl) rfl rfl ?_
      refine g_p 20 1572863 rfl (by kernel_rfl) (y_move rfl) rfl rfl ?_
      refine g_e 19 2097151 [] (by kernel_rfl) rfl (by kernel_rfl) (e_call Try.call27 rfl (F.table_Table_int_Left_ok H)) rfl rfl ?_
      rintro _ h17 ⟨r18, rfl, H⟩
      refine ⟨trivial, ?_⟩
      refine g_e 21 4194303 [] (by kernel_rfl) rfl (by kernel_rfl) (e_call Try.call72 rfl (F.spateref6_Table_Left_ok H)) rfl rfl ?_
      rintro _ h19 ⟨r20, rfl, H⟩
      refine ⟨trivial, ?_⟩
      refine g_p 22 8388607 rfl (by kernel_rfl) (y_eql rfl rfl) rfl rfl ?_
      refine g_p 23 16777215 rfl (by kernel_rfl) (y_pick_t rfl rfl) rfl rfl ?_
      refine g_p 24 33554431 rfl (by kernel_rfl) (y_assign rfl) rfl rfl ?_
      refine g_d (by kernel_rfl) ?_
      refine tr_thenN ?_
      refine tr_ret ?_
      exact tr_ret1 rfl rfl ⟨_, rfl, H⟩
    · replace H := H.2 g16
      refine g_s 18 524287 rfl (by kernel_rfl) rfl rfl ?_
      refine g_s 19 1048575 rfl (by kernel_rfl) rfl rfl ?_
      refine g_s 20 2097151 rfl (by kernel_rfl) rfl rfl ?_
      refine g_s 21 4194303 rfl (by kernel_rfl) rfl rfl ?_
      refine g_s 22 8388607 rfl (by kernel_rfl) rfl rfl ?_
      refine g_p 23 16777215 rfl (by kernel_rfl) (y_pick_f rfl rfl) rfl rfl ?_
      refine g_p 24 33554431 rfl (by kernel_rfl) (y_assign rfl) rfl rfl ?_
      refine g_d (by kernel_rfl) ?_
      refine tr_thenN ?_
      refine tr_ret ?_
      exact tr_ret1 rfl rfl ⟨_, rfl, H⟩
  · replace H := H.2 g8
    refine g_s 8 511 rfl (by kernel_rfl) rfl rfl ?_
    refine g_s 9 1023 rfl (by kernel_rfl) rfl rfl ?_
    refine g_s 10 2047 rfl (by kernel_rfl) rfl rfl ?_
    refine g_s 11 4095 rfl (by kernel_rfl) rfl rfl ?_
    refine g_s 12 8191 rfl (by kernel_rfl) rfl rfl ?_
    refine g_s 13 16383 rfl (by kernel_rfl) rfl rfl ?_
    refine g_s 14 32767 rfl (by kernel_rfl) rfl rfl ?_
    refine g_s 15 65535 rfl (by kernel_rfl) rfl rfl ?_
    refine g_p 16 131071 rfl (by kernel_rfl) (y_pick_f rfl rfl) rfl rfl ?_
    refine g_p 17 262143 rfl (by kernel_rfl) (y_move rfl) rfl rfl ?_
    refine g_s 18 524287 rfl (by kernel_rfl) rfl rfl ?_
    refine g_s 19 1048575 rfl (by kernel_rfl) rfl rfl ?_
    refine g_s 20 2097151 rfl (by kernel_rfl) rfl rfl ?_
    refine g_s 21 4194303 rfl (by kernel_rfl) rfl rfl ?_
    refine g_s 22 8388607 rfl (by kernel_rfl) rfl rfl ?_
    refine g_p 23 16777215 rfl (by kernel_rfl) (y_pick_f rfl rfl) rfl rfl ?_
    refine g_p 24 33554431 rfl (by kernel_rfl) (y_assign rfl) rfl rfl ?_
    refine g_d (by kernel_rfl) ?_
    refine tr_thenN ?_
    refine tr_ret ?_
    exact tr_ret1 rfl rfl ⟨_, rfl, H⟩

/-- spate/spateref6.home -/
def F.spateref6_home (p0 : Sl) (p1 : ByteArray) (h : H) (Q : Int → H → Prop) : Prop :=
  F.spateref6_Hash p1 h fun r2 h1 =>
  ((IntKind.wrap .u64 (p0.len : Int)) : Int) ≠ 0 ∧
  Q (IntKind.wrap .i64 (Int.tmod r2 (IntKind.wrap .u64 (p0.len : Int)))) h1
theorem F.spateref6_home_ok {p0 : Sl} {p1 : ByteArray} {h : H} {Q : Int → H → Prop} (H : F.spateref6_home p0 p1 h Q) : Fn PP 75 ([p0.enc, (.string p1)] : List Value).toArray h fun r h' => ∃ r0, r = (.int .i64 r0) ∧ Q r0 h' := by
  unfold F.spateref6_home at H
  refine fn_of Try.func75 Try.ntmps75 rfl rfl fun w0 => ?_
  refine tr_sub [(0, p0.enc), (1, (.string p1))] ⟨rfl, rfl, trivial⟩ ?_
  refine tr_seq ?_
  refine tr_region ?_
  refine tr_p (y_assign rfl) rfl rfl ?_
  refine tr_nil ?_
  refine tr_thenN ?_
  refine tr_seq ?_
  refine tr_region ?_
  refine tr_p (y_move rfl) rfl rfl ?_
  refine tr_e (e_call Try.call18 rfl (F.spateref6_Hash_ok H)) rfl rfl ?_
  rintro _ h1 ⟨r2, rfl, H⟩
  refine tr_p (y_move rfl) rfl rfl ?_
  refine tr_p (y_len (ts := #[]) Try.runUnderlying102 (o := p0.ptr) (n := p0.len) (cap := p0.cap) rfl) rfl rfl ?_
  refine tr_p (y_cvt Try.runUnderlying3 Try.runUnderlying26 rfl) rfl rfl ?_
  obtain ⟨e3, H⟩ := H
  refine tr_p (y_rem rfl rfl e3) rfl rfl ?_
  refine tr_p (y_cvt Try.runUnderlying26 Try.runUnderlying3 rfl) rfl rfl ?_
  refine tr_p (y_assign rfl) rfl rfl ?_
  refine tr_nil ?_
  refine tr_thenN ?_
  refine tr_ret ?_
  exact tr_ret1 rfl rfl ⟨_, rfl, H⟩

def F.spateref6_find.j3 (Q : Int → Bool → H → Prop) (C1 : Sl → ByteArray → Int → H → Prop) (x0 : Sl) (x1 : ByteArray) (x6 : Int) (h : H) : Prop :=
  ((x0.len : Int) : Int) ≠ 0 ∧
  C1 x0 x1 (Int.tmod (IntKind.wrap .i64 (x6 + 1)) (x0.len : Int)) h
def F.spateref6_find.j4 (Q : Int → Bool → H → Prop) (C1 : Sl → ByteArray → Int → H → Prop) (x0 : Sl) (x1 : ByteArray) (x6 : Int) (x35 : Bool) (h : H) : Prop :=
  (x35 = true →
  Q x6 true h) ∧
  (x35 = false →
  F.spateref6_find.j3 Q C1 x0 x1 x6 h)
def F.spateref6_find.j2 (Q : Int → Bool → H → Prop) (C1 : Sl → ByteArray → Int → H → Prop) (x0 : Sl) (x1 : ByteArray) (x6 : Int) (h : H) : Prop :=
  idxA x0 x6 4 fun a5 =>
  ldB h (a5.add 0) fun y7 =>
  (y7 = true →
  idxA x0 x6 4 fun a10 =>
  ldS h (a10.add 2) fun y12 =>
  F.spateref6_find.j4 Q C1 x0 x1 x6 (y12.toList == x1.toList) h) ∧
  (y7 = false →
  F.spateref6_find.j4 Q C1 x0 x1 x6 false h)
def F.spateref6_find.j5 (Q : Int → Bool → H → Prop) (C1 : Sl → ByteArray → Int → H → Prop) (x0 : Sl) (x1 : ByteArray) (x6 : Int) (x21 : Bool) (h : H) : Prop :=
  (x21 = true →
  F.spateref6_find.j2 Q C1 x0 x1 x6 h) ∧
  (x21 = false →
  Q x6 false h)
def F.spateref6_find.l1 (Q : Int → Bool → H → Prop) : Nat → Sl → ByteArray → Int → H → Prop
  | 0, _, _, _, _ => False
  | q1 + 1, x0, x1, x6, h =>
    idxA x0 x6 4 fun a15 =>
    ldB h (a15.add 0) fun y17 =>
    (y17 = true →
    F.spateref6_find.j5 Q (F.spateref6_find.l1 Q q1) x0 x1 x6 true h) ∧
    (y17 = false →
    idxA x0 x6 4 fun a20 =>
    ldB h (a20.add 1) fun y22 =>
    F.spateref6_find.j5 Q (F.spateref6_find.l1 Q q1) x0 x1 x6 y22 h)
/-- spate/spateref6.find -/
def F.spateref6_find (p0 : Sl) (p1 : ByteArray) (h : H) (Q : Int → Bool → H → Prop) : Prop :=
  F.spateref6_home p0 p1 h fun r2 h1 =>
  ∃ m, F.spateref6_find.l1 Q m p0 p1 r2 h1
theorem F.spateref6_find_ok {p0 : Sl} {p1 : ByteArray} {h : H} {Q : Int → Bool → H → Prop} (H : F.spateref6_find p0 p1 h Q) : Fn PP 73 ([p0.enc, (.string p1)] : List Value).toArray h fun r h' => ∃ r0 r1, r = .tuple #[(.int .i64 r0), (.bool r1)] ∧ Q r0 r1 h' := by
  unfold F.spateref6_find at H
  refine fn_of Try.func73 Try.ntmps73 rfl rfl fun w0 => ?_
  refine tr_sub [(0, p0.enc), (1, (.string p1))] ⟨rfl, rfl, trivial⟩ ?_
  refine tr_seq ?_
  refine tr_region ?_
  refine tr_p (y_assign rfl) rfl rfl ?_
  refine tr_p (y_assign rfl) rfl rfl ?_
  refine tr_nil ?_
  refine tr_thenN ?_
  refine tr_seq ?_
  refine tr_region ?_
  refine tr_p (y_move rfl) rfl rfl ?_
  refine tr_p (y_move rfl) rfl rfl ?_
  refine tr_e (e_call Try.call75 rfl (F.spateref6_home_ok H)) rfl rfl ?_
  rintro _ h1 ⟨r2, rfl, H⟩
  refine tr_p (y_assign rfl) rfl rfl ?_
  refine tr_nil ?_
  refine tr_thenN ?_
  refine tr_seq ?_
  refine tr_block ?_
  obtain ⟨m24, H⟩ := H
  refine tr_sub [(0, p0.enc), (1, (.string p1)), (6, (.int .i64 r2))] ⟨rfl, rfl, rfl, trivial⟩ ?_
  refine tr_loop_j (fun m L' h => ∃ (x0 : Sl) (x1 : ByteArray) (x6 : Int), L' = [(0, x0.enc), (1, (.string x1)), (6, (.int .i64 x6))] ∧ F.spateref6_find.l1 Q m x0 x1 x6 h) ?_ ?_ m24 ⟨_, _, _, rfl, H⟩
  · rintro L' h ⟨_, _, _, _, H⟩; exact H
  · rintro q1 L' h ⟨x0, x1, x6, rfl, H⟩
    unfold F.spateref6_find.l1 at H
    refine tr_seq_j (fun L' h => ∃ (x0 : Sl) (x1 : ByteArray) (x6 : Int), L' = [(0, x0.enc), (1, (.string x1)), (6, (.int .i64 x6))] ∧ F.spateref6_find.j2 Q (F.spateref6_find.l1 Q q1) x0 x1 x6 h) ?_ ?_
    · rintro L' h ⟨x0, x1, x6, rfl, H⟩
      unfold F.spateref6_find.j2 at H
      refine tr_block ?_
      refine tr_seq_j (fun L' h => ∃ (x0 : Sl) (x1 : ByteArray) (x6 : Int), L' = [(0, x0.enc), (1, (.string x1)), (6, (.int .i64 x6))] ∧ F.spateref6_find.j3 Q (F.spateref6_find.l1 Q q1) x0 x1 x6 h) ?_ ?_
      · rintro L' h ⟨x0, x1, x6, rfl, H⟩
        unfold F.spateref6_find.j3 at H
        refine tr_region ?_
        refine tr_p (y_move rfl) rfl rfl ?_
        refine tr_p (y_add rfl rfl) rfl rfl ?_
        refine tr_p (y_move rfl) rfl rfl ?_
        refine tr_p (y_len (ts := #[]) Try.runUnderlying102 (o := x0.ptr) (n := x0.len) (cap := x0.cap) rfl) rfl rfl ?_
        obtain ⟨e3, H⟩ := H
        refine tr_p (y_rem rfl rfl e3) rfl rfl ?_
        refine tr_p (y_assign rfl) rfl rfl ?_
        refine tr_nil ?_
        refine tr_blockN ?_
        refine tr_thenN ?_
        exact tr_join [(0, x0.enc), (1, (.string x1)), (6, (.int .i64 (Int.tmod (IntKind.wrap .i64 (x6 + 1)) (x0.len : Int))))] ⟨rfl, rfl, rfl, trivial⟩ ⟨_, _, _, rfl, H⟩
      · refine tr_seq_j (fun L' h => ∃ (x0 : Sl) (x1 : ByteArray) (x6 : Int) (x35 : Bool), L' = [(0, x0.enc), (1, (.string x1)), (6, (.int .i64 x6)), (35, (.bool x35))] ∧ F.spateref6_find.j4 Q (F.spateref6_find.l1 Q q1) x0 x1 x6 x35 h) ?_ ?_
        · rintro L' h ⟨x0, x1, x6, x35, rfl, H⟩
          unfold F.spateref6_find.j4 at H
          refine tr_cond rfl (fun g4 => ?_) (fun g4 => ?_)
          · replace H := H.1 g4
            refine tr_seq ?_
            refine tr_region ?_
            refine tr_p (y_move rfl) rfl rfl ?_
            refine tr_p (y_assign rfl) rfl rfl ?_
            refine tr_p (y_assign rfl) rfl rfl ?_
            refine tr_nil ?_
            refine tr_thenN ?_
            refine tr_ret ?_
            refine tr_thenR ?_
            refine tr_blockR ?_
            refine tr_thenR ?_
            refine tr_blockR ?_
            refine tr_thenR ?_
            exact tr_ret2 rfl rfl rfl ⟨_, _, rfl, H⟩
          · replace H := H.2 g4
            refine tr_skip ?_
            refine tr_thenN ?_
            exact tr_join [(0, x0.enc), (1, (.string x1)), (6, (.int .i64 x6))] ⟨rfl, rfl, rfl, trivial⟩ ⟨_, _, _, rfl, H⟩
        · refine tr_region ?_
          refine tr_p (y_move rfl) rfl rfl ?_
          refine tr_p (y_move rfl) rfl rfl ?_
          obtain ⟨a5, e6, H⟩ := H
          refine tr_p (f_idx (s := x0) Try.runUnderlying102 Try.sizeOf114 rfl rfl e6) rfl rfl ?_
          refine tr_p (y_fa (off := 0) Try.runUnderlying114 fo_114_0 rfl) rfl rfl ?_
          obtain ⟨y7, k8, H⟩ := H
          refine tr_h (y_ld Try.isAgg4 rfl) k8 rfl rfl ?_
          refine tr_p (y_move rfl) rfl rfl ?_
          refine tr_split (t := 27) rfl (fun g9 => ?_) (fun g9 => ?_)
          · replace H := H.1 g9
            refine tr_p (y_move rfl) rfl rfl ?_
            refine tr_p (y_move rfl) rfl rfl ?_
            obtain ⟨a10, e11, H⟩ := H
            refine tr_p (f_idx (s := x0) Try.runUnderlying102 Try.sizeOf114 rfl rfl e11) rfl rfl ?_
            refine tr_p (y_fa (off := 2) Try.runUnderlying114 fo_114_2 rfl) rfl rfl ?_
            obtain ⟨y12, k13, H⟩ := H
            refine tr_h (y_ld Try.isAgg9 rfl) k13 rfl rfl ?_
            refine tr_p (y_move rfl) rfl rfl ?_
            refine tr_p (y_seql rfl rfl) rfl rfl ?_
            refine tr_p (y_pick_t rfl rfl) rfl rfl ?_
            refine tr_nil ?_
            refine tr_thenN ?_
            exact tr_join [(0, x0.enc), (1, (.string x1)), (6, (.int .i64 x6)), (35, (.bool (y12.toList == x1.toList)))] ⟨rfl, rfl, rfl, rfl, trivial⟩ ⟨_, _, _, _, rfl, H⟩
          · replace H := H.2 g9
            refine tr_s rfl rfl ?_
            refine tr_s rfl rfl ?_
            refine tr_s rfl rfl ?_
            refine tr_s rfl rfl ?_
            refine tr_s rfl rfl ?_
            refine tr_s rfl rfl ?_
            refine tr_s rfl rfl ?_
            refine tr_p (y_pick_f rfl rfl) rfl rfl ?_
            refine tr_nil ?_
            refine tr_thenN ?_
            exact tr_join [(0, x0.enc), (1, (.string x1)), (6, (.int .i64 x6)), (35, (.bool false))] ⟨rfl, rfl, rfl, rfl, trivial⟩ ⟨_, _, _, _, rfl, H⟩
    · refine tr_seq_j (fun L' h => ∃ (x0 : Sl) (x1 : ByteArray) (x6 : Int) (x21 : Bool), L' = [(0, x0.enc), (1, (.string x1)), (6, (.int .i64 x6)), (21, (.bool x21))] ∧ F.spateref6_find.j5 Q (F.spateref6_find.l1 Q q1) x0 x1 x6 x21 h) ?_ ?_
      · rintro L' h ⟨x0, x1, x6, x21, rfl, H⟩
        unfold F.spateref6_find.j5 at H
        refine tr_cond rfl (fun g14 => ?_) (fun g14 => ?_)
        · replace H := H.1 g14
          refine tr_skip ?_
          refine tr_thenN ?_
          exact tr_join [(0, x0.enc), (1, (.string x1)), (6, (.int .i64 x6))] ⟨rfl, rfl, rfl, trivial⟩ ⟨_, _, _, rfl, H⟩
        · replace H := H.2 g14
          refine tr_exit ?_
          refine tr_thenE ?_
          refine tr_thenE ?_
          refine tr_hit ?_
          refine tr_thenN ?_
          refine tr_seq ?_
          refine tr_region ?_
          refine tr_p (y_move rfl) rfl rfl ?_
          refine tr_p (y_assign rfl) rfl rfl ?_
          refine tr_p (y_assign rfl) rfl rfl ?_
          refine tr_nil ?_
          refine tr_thenN ?_
          refine tr_ret ?_
          exact tr_ret2 rfl rfl rfl ⟨_, _, rfl, H⟩
      · refine tr_region ?_
        refine tr_p (y_move rfl) rfl rfl ?_
        refine tr_p (y_move rfl) rfl rfl ?_
        obtain ⟨a15, e16, H⟩ := H
        refine tr_p (f_idx (s := x0) Try.runUnderlying102 Try.sizeOf114 rfl rfl e16) rfl rfl ?_
        refine tr_p (y_fa (off := 0) Try.runUnderlying114 fo_114_0 rfl) rfl rfl ?_
        obtain ⟨y17, k18, H⟩ := H
        refine tr_h (y_ld Try.isAgg4 rfl) k18 rfl rfl ?_
        refine tr_p (y_move rfl) rfl rfl ?_
        refine tr_split (t := 15) rfl (fun g19 => ?_) (fun g19 => ?_)
        · replace H := H.1 g19
          refine tr_s rfl rfl ?_
          refine tr_s rfl rfl ?_
          refine tr_s rfl rfl ?_
          refine tr_s rfl rfl ?_
          refine tr_s rfl rfl ?_
          refine tr_p (y_pick_t rfl rfl) rfl rfl ?_
          refine tr_nil ?_
          refine tr_thenN ?_
          exact tr_join [(0, x0.enc), (1, (.string x1)), (6, (.int .i64 x6)), (21, (.bool true))] ⟨rfl, rfl, rfl, rfl, trivial⟩ ⟨_, _, _, _, rfl, H⟩
        · replace H := H.2 g19
          refine tr_p (y_move rfl) rfl rfl ?_
          refine tr_p (y_move rfl) rfl rfl ?_
          obtain ⟨a20, e21, H⟩ := H
          refine tr_p (f_idx (s := x0) Try.runUnderlying102 Try.sizeOf114 rfl rfl e21) rfl rfl ?_
          refine tr_p (y_fa (off := 1) Try.runUnderlying114 fo_114_1 rfl) rfl rfl ?_
          obtain ⟨y22, k23, H⟩ := H
          refine tr_h (y_ld Try.isAgg4 rfl) k23 rfl rfl ?_
          refine tr_p (y_pick_f rfl rfl) rfl rfl ?_
          refine tr_nil ?_
          refine tr_thenN ?_
          exact tr_join [(0, x0.enc), (1, (.string x1)), (6, (.int .i64 x6)), (21, (.bool y22))] ⟨rfl, rfl, rfl, rfl, trivial⟩ ⟨_, _, _, _, rfl, H⟩

def F.spateref6_Table_Place.j1 (Q : Int → Bool → Bool → H → Prop)  (h : H) : Prop :=
  Q 0 false false h
/-- (*spate/spateref6.Table).Place -/
def F.spateref6_Table_Place (p0 : Option Addr) (p1 : ByteArray) (h : H) (Q : Int → Bool → Bool → H → Prop) : Prop :=
  nn p0 fun a1 =>
  ldL h (a1.add 0) fun y3 =>
  F.spateref6_find y3 p1 h fun r6 r7 h5 =>
  (r7 = true →
  Q r6 false true h5) ∧
  (r7 = false →
  nn p0 fun a9 =>
  ldL h5 (a9.add 1) fun y11 =>
  ((decide ((y11.len : Int) > 0)) = true →
  nn p0 fun a14 =>
  ldL h5 (a14.add 1) fun y16 =>
  F.spateref6_find y16 p1 h5 fun r19 r20 h18 =>
  (r20 = true →
  Q r19 true true h18) ∧
  (r20 = false →
  F.spateref6_Table_Place.j1 Q  h18)) ∧
  ((decide ((y11.len : Int) > 0)) = false →
  F.spateref6_Table_Place.j1 Q  h5))
theorem F.spateref6_Table_Place_ok {p0 : Option Addr} {p1 : ByteArray} {h : H} {Q : Int → Bool → Bool → H → Prop} (H : F.spateref6_Table_Place p0 p1 h Q) : Fn PP 64 ([(.pointer p0), (.string p1)] : List Value).toArray h fun r h' => ∃ r0 r1 r2, r = .tuple #[(.int .i64 r0), (.bool r1), (.bool r2)] ∧ Q r0 r1 r2 h' := by
  unfold F.spateref6_Table_Place at H
  refine fn_of Try.func64 Try.ntmps64 rfl rfl fun w0 => ?_
  refine tr_sub [(0, (.pointer p0)), (1, (.string p1))] ⟨rfl, rfl, trivial⟩ ?_
  refine tr_seq ?_
  refine tr_region ?_
  refine tr_p (y_assign rfl) rfl rfl ?_
  refine tr_p (y_assign rfl) rfl rfl ?_
  refine tr_p (y_assign rfl) rfl rfl ?_
  refine tr_nil ?_
  refine tr_thenN ?_
  refine tr_seq ?_
  refine tr_region ?_
  refine tr_p (y_move rfl) rfl rfl ?_
  obtain ⟨a1, e2, H⟩ := H
  refine tr_p (f_nn rfl e2) rfl rfl ?_
  refine tr_p (y_fa (off := 0) Try.runUnderlying104 fo_104_0 rfl) rfl rfl ?_
  obtain ⟨y3, k4, H⟩ := H
  refine tr_h (y_ld Try.isAgg102 rfl) k4 rfl rfl ?_
  refine tr_p (y_move rfl) rfl rfl ?_
  refine tr_e (e_call Try.call73 rfl (F.spateref6_find_ok H)) rfl rfl ?_
  rintro _ h5 ⟨r6, r7, rfl, H⟩
  refine tr_p (y_move rfl) rfl rfl ?_
  refine tr_p (y_ext rfl rfl) rfl rfl ?_
  refine tr_p (y_ext rfl rfl) rfl rfl ?_
  refine tr_p (y_assign rfl) rfl rfl ?_
  refine tr_p (y_assign rfl) rfl rfl ?_
  refine tr_nil ?_
  refine tr_thenN ?_
  refine tr_seq ?_
  refine tr_seq ?_
  refine tr_region ?_
  refine tr_p (y_move rfl) rfl rfl ?_
  refine tr_nil ?_
  refine tr_thenN ?_
  refine tr_cond rfl (fun g8 => ?_) (fun g8 => ?_)
  · replace H := H.1 g8
    refine tr_seq ?_
    refine tr_region ?_
    refine tr_p (y_move rfl) rfl rfl ?_
    refine tr_p (y_assign rfl) rfl rfl ?_
    refine tr_p (y_assign rfl) rfl rfl ?_
    refine tr_p (y_assign rfl) rfl rfl ?_
    refine tr_nil ?_
    refine tr_thenN ?_
    refine tr_ret ?_
    refine tr_thenR ?_
    exact tr_ret3 rfl rfl rfl rfl ⟨_, _, _, rfl, H⟩
  · replace H := H.2 g8
    refine tr_skip ?_
    refine tr_thenN ?_
    refine tr_seq_j (fun L' h => L' = [] ∧ F.spateref6_Table_Place.j1 Q  h) ?_ ?_
    · rintro L' h ⟨rfl, H⟩
      unfold F.spateref6_Table_Place.j1 at H
      refine tr_seq ?_
      refine tr_region ?_
      refine tr_p (y_assign rfl) rfl rfl ?_
      refine tr_p (y_assign rfl) rfl rfl ?_
      refine tr_p (y_assign rfl) rfl rfl ?_
      refine tr_nil ?_
      refine tr_thenN ?_
      refine tr_ret ?_
      exact tr_ret3 rfl rfl rfl rfl ⟨_, _, _, rfl, H⟩
    · refine tr_seq ?_
      refine tr_region ?_
      refine tr_p (y_move rfl) rfl rfl ?_
      obtain ⟨a9, e10, H⟩ := H
      refine tr_p (f_nn rfl e10) rfl rfl ?_
      refine tr_p (y_fa (off := 1) Try.runUnderlying104 fo_104_1 rfl) rfl rfl ?_
      obtain ⟨y11, k12, H⟩ := H
      refine tr_h (y_ld Try.isAgg102 rfl) k12 rfl rfl ?_
      refine tr_p (y_len (ts := #[]) Try.runUnderlying102 (o := y11.ptr) (n := y11.len) (cap := y11.cap) rfl) rfl rfl ?_
      refine tr_p (y_gtr rfl rfl) rfl rfl ?_
      refine tr_nil ?_
      refine tr_thenN ?_
      refine tr_cond rfl (fun g13 => ?_) (fun g13 => ?_)
      · replace H := H.1 g13
        refine tr_seq ?_
        refine tr_region ?_
        refine tr_p (y_move rfl) rfl rfl ?_
        obtain ⟨a14, e15, H⟩ := H
        refine tr_p (f_nn rfl e15) rfl rfl ?_
        refine tr_p (y_fa (off := 1) Try.runUnderlying104 fo_104_1 rfl) rfl rfl ?_
        obtain ⟨y16, k17, H⟩ := H
        refine tr_h (y_ld Try.isAgg102 rfl) k17 rfl rfl ?_
        refine tr_p (y_move rfl) rfl rfl ?_
        refine tr_e (e_call Try.call73 rfl (F.spateref6_find_ok H)) rfl rfl ?_
        rintro _ h18 ⟨r19, r20, rfl, H⟩
        refine tr_p (y_move rfl) rfl rfl ?_
        refine tr_p (y_ext rfl rfl) rfl rfl ?_
        refine tr_p (y_ext rfl rfl) rfl rfl ?_
        refine tr_p (y_assign rfl) rfl rfl ?_
        refine tr_p (y_assign rfl) rfl rfl ?_
        refine tr_nil ?_
        refine tr_thenN ?_
        refine tr_seq ?_
        refine tr_region ?_
        refine tr_p (y_move rfl) rfl rfl ?_
        refine tr_nil ?_
        refine tr_thenN ?_
        refine tr_cond rfl (fun g21 => ?_) (fun g21 => ?_)
        · replace H := H.1 g21
          refine tr_seq ?_
          refine tr_region ?_
          refine tr_p (y_move rfl) rfl rfl ?_
          refine tr_p (y_assign rfl) rfl rfl ?_
          refine tr_p (y_assign rfl) rfl rfl ?_
          refine tr_p (y_assign rfl) rfl rfl ?_
          refine tr_nil ?_
          refine tr_thenN ?_
          refine tr_ret ?_
          refine tr_thenR ?_
          exact tr_ret3 rfl rfl rfl rfl ⟨_, _, _, rfl, H⟩
        · replace H := H.2 g21
          refine tr_skip ?_
          refine tr_thenN ?_
          exact tr_join [] trivial ⟨rfl, H⟩
      · replace H := H.2 g13
        refine tr_skip ?_
        refine tr_thenN ?_
        exact tr_join [] trivial ⟨rfl, H⟩

/-- (*spate/spateref6.Table).Get -/
def F.spateref6_Table_Get (p0 : Option Addr) (p1 : ByteArray) (h : H) (Q : Int → Bool → H → Prop) : Prop :=
  F.spateref6_Table_Place p0 p1 h fun r2 r3 r4 h1 =>
  ((!r4) = true →
  Q 0 false h1) ∧
  ((!r4) = false →
  (r3 = true →
  nn p0 fun a7 =>
  ldL h1 (a7.add 1) fun y9 =>
  idxA y9 r2 4 fun a11 =>
  ldI .i64 h1 (a11.add 3) fun y13 =>
  Q y13 true h1) ∧
  (r3 = false →
  nn p0 fun a15 =>
  ldL h1 (a15.add 0) fun y17 =>
  idxA y17 r2 4 fun a19 =>
  ldI .i64 h1 (a19.add 3) fun y21 =>
  Q y21 true h1))
theorem F.spateref6_Table_Get_ok {p0 : Option Addr} {p1 : ByteArray} {h : H} {Q : Int → Bool → H → Prop} (H : F.spateref6_Table_Get p0 p1 h Q) : Fn PP 62 ([(.pointer p0), (.string p1)] : List Value).toArray h fun r h' => ∃ r0 r1, r = .tuple #[(.int .i64 r0), (.bool r1)] ∧ Q r0 r1 h' := by
  unfold F.spateref6_Table_Get at H
  refine fn_of Try.func62 Try.ntmps62 rfl rfl fun w0 => ?_
  refine tr_sub [(0, (.pointer p0)), (1, (.string p1))] ⟨rfl, rfl, trivial⟩ ?_
  refine tr_seq ?_
  refine tr_region ?_
  refine tr_p (y_assign rfl) rfl rfl ?_
  refine tr_p (y_assign rfl) rfl rfl ?_
  refine tr_nil ?_
  refine tr_thenN ?_
  refine tr_seq ?_
  refine tr_region ?_
  refine tr_p (y_move rfl) rfl rfl ?_
  refine tr_p (y_move rfl) rfl rfl ?_
  refine tr_e (e_call Try.call64 rfl (F.spateref6_Table_Place_ok H)) rfl rfl ?_
  rintro _ h1 ⟨r2, r3, r4, rfl, H⟩
  refine tr_p (y_move rfl) rfl rfl ?_
  refine tr_p (y_ext rfl rfl) rfl rfl ?_
  refine tr_p (y_ext rfl rfl) rfl rfl ?_
  refine tr_p (y_ext rfl rfl) rfl rfl ?_
  refine tr_p (y_assign rfl) rfl rfl ?_
  refine tr_p (y_assign rfl) rfl rfl ?_
  refine tr_p (y_assign rfl) rfl rfl ?_
  refine tr_nil ?_
  refine tr_thenN ?_
  refine tr_seq ?_
  refine tr_block ?_
  refine tr_seq ?_
  refine tr_region ?_
  refine tr_p (y_move rfl) rfl rfl ?_
  refine tr_p (y_not rfl) rfl rfl ?_
  refine tr_p (y_assign rfl) rfl rfl ?_
  refine tr_nil ?_
  refine tr_thenN ?_
  refine tr_cond rfl (fun g5 => ?_) (fun g5 => ?_)
  · replace H := H.1 g5
    refine tr_seq ?_
    refine tr_region ?_
    refine tr_p (y_assign rfl) rfl rfl ?_
    refine tr_p (y_assign rfl) rfl rfl ?_
    refine tr_nil ?_
    refine tr_thenN ?_
    refine tr_ret ?_
    refine tr_blockR ?_
    refine tr_thenR ?_
    exact tr_ret2 rfl rfl rfl ⟨_, _, rfl, H⟩
  · replace H := H.2 g5
    refine tr_seq ?_
    refine tr_region ?_
    refine tr_p (y_move rfl) rfl rfl ?_
    refine tr_p (y_assign rfl) rfl rfl ?_
    refine tr_nil ?_
    refine tr_thenN ?_
    refine tr_cond rfl (fun g6 => ?_) (fun g6 => ?_)
    · replace H := H.1 g6
      refine tr_seq ?_
      refine tr_region ?_
      refine tr_p (y_move rfl) rfl rfl ?_
      obtain ⟨a7, e8, H⟩ := H
      refine tr_p (f_nn rfl e8) rfl rfl ?_
      refine tr_p (y_fa (off := 1) Try.runUnderlying104 fo_104_1 rfl) rfl rfl ?_
      obtain ⟨y9, k10, H⟩ := H
      refine tr_h (y_ld Try.isAgg102 rfl) k10 rfl rfl ?_
      refine tr_p (y_move rfl) rfl rfl ?_
      obtain ⟨a11, e12, H⟩ := H
      refine tr_p (f_idx (s := y9) Try.runUnderlying102 Try.sizeOf114 rfl rfl e12) rfl rfl ?_
      refine tr_p (y_fa (off := 3) Try.runUnderlying114 fo_114_3 rfl) rfl rfl ?_
      obtain ⟨y13, k14, H⟩ := H
      refine tr_h (y_ld Try.isAgg3 rfl) k14 rfl rfl ?_
      refine tr_p (y_assign rfl) rfl rfl ?_
      refine tr_p (y_assign rfl) rfl rfl ?_
      refine tr_nil ?_
      refine tr_thenN ?_
      refine tr_ret ?_
      refine tr_blockR ?_
      refine tr_thenR ?_
      exact tr_ret2 rfl rfl rfl ⟨_, _, rfl, H⟩
    · replace H := H.2 g6
      refine tr_skip ?_
      refine tr_blockN ?_
      refine tr_thenN ?_
      refine tr_seq ?_
      refine tr_region ?_
      refine tr_p (y_move rfl) rfl rfl ?_
      obtain ⟨a15, e16, H⟩ := H
      refine tr_p (f_nn rfl e16) rfl rfl ?_
      refine tr_p (y_fa (off := 0) Try.runUnderlying104 fo_104_0 rfl) rfl rfl ?_
      obtain ⟨y17, k18, H⟩ := H
      refine tr_h (y_ld Try.isAgg102 rfl) k18 rfl rfl ?_
      refine tr_p (y_move rfl) rfl rfl ?_
      obtain ⟨a19, e20, H⟩ := H
      refine tr_p (f_idx (s := y17) Try.runUnderlying102 Try.sizeOf114 rfl rfl e20) rfl rfl ?_
      refine tr_p (y_fa (off := 3) Try.runUnderlying114 fo_114_3 rfl) rfl rfl ?_
      obtain ⟨y21, k22, H⟩ := H
      refine tr_h (y_ld Try.isAgg3 rfl) k22 rfl rfl ?_
      refine tr_p (y_assign rfl) rfl rfl ?_
      refine tr_p (y_assign rfl) rfl rfl ?_
      refine tr_nil ?_
      refine tr_thenN ?_
      refine tr_ret ?_
      exact tr_ret2 rfl rfl rfl ⟨_, _, rfl, H⟩

/-- (*spate/table.Table[int]).Place -/
def F.table_Table_int_Place (p0 : Option Addr) (p1 : ByteArray) (h : H) (Q : Int → Bool → Bool → H → Prop) : Prop :=
  nn p0 fun a1 =>
  ldL h (a1.add 0) fun y3 =>
  F.table_find_int y3 p1 h fun r6 r7 h5 =>
  (r7 = true →
  Q r6 false true h5) ∧
  (r7 = false →
  nn p0 fun a9 =>
  ldL h5 (a9.add 1) fun y11 =>
  F.table_find_int y11 p1 h5 fun r14 r15 h13 =>
  (r15 = true →
  Q r14 true true h13) ∧
  (r15 = false →
  Q 0 false false h13))
theorem F.table_Table_int_Place_ok {p0 : Option Addr} {p1 : ByteArray} {h : H} {Q : Int → Bool → Bool → H → Prop} (H : F.table_Table_int_Place p0 p1 h Q) : Fn PP 63 ([(.pointer p0), (.string p1)] : List Value).toArray h fun r h' => ∃ r0 r1 r2, r = .tuple #[(.int .i64 r0), (.bool r1), (.bool r2)] ∧ Q r0 r1 r2 h' := by
  unfold F.table_Table_int_Place at H
  refine fn_of Try.func63 Try.ntmps63 rfl rfl fun w0 => ?_
  refine tr_sub [(0, (.pointer p0)), (1, (.string p1))] ⟨rfl, rfl, trivial⟩ ?_
  refine tr_seq ?_
  refine tr_region ?_
  refine tr_p (y_assign rfl) rfl rfl ?_
  refine tr_p (y_assign rfl) rfl rfl ?_
  refine tr_p (y_assign rfl) rfl rfl ?_
  refine tr_nil ?_
  refine tr_thenN ?_
  refine tr_seq ?_
  refine tr_seq ?_
  refine tr_region ?_
  refine tr_p (y_move rfl) rfl rfl ?_
  obtain ⟨a1, e2, H⟩ := H
  refine tr_p (f_nn rfl e2) rfl rfl ?_
  refine tr_p (y_fa (off := 0) Try.runUnderlying73 fo_73_0 rfl) rfl rfl ?_
  obtain ⟨y3, k4, H⟩ := H
  refine tr_h (y_ld Try.isAgg71 rfl) k4 rfl rfl ?_
  refine tr_p (y_move rfl) rfl rfl ?_
  refine tr_e (e_call Try.call47 rfl (F.table_find_int_ok H)) rfl rfl ?_
  rintro _ h5 ⟨r6, r7, rfl, H⟩
  refine tr_p (y_move rfl) rfl rfl ?_
  refine tr_p (y_ext rfl rfl) rfl rfl ?_
  refine tr_p (y_ext rfl rfl) rfl rfl ?_
  refine tr_p (y_assign rfl) rfl rfl ?_
  refine tr_p (y_assign rfl) rfl rfl ?_
  refine tr_nil ?_
  refine tr_thenN ?_
  refine tr_seq ?_
  refine tr_region ?_
  refine tr_p (y_move rfl) rfl rfl ?_
  refine tr_nil ?_
  refine tr_thenN ?_
  refine tr_cond rfl (fun g8 => ?_) (fun g8 => ?_)
  · replace H := H.1 g8
    refine tr_seq ?_
    refine tr_region ?_
    refine tr_p (y_move rfl) rfl rfl ?_
    refine tr_p (y_assign rfl) rfl rfl ?_
    refine tr_p (y_assign rfl) rfl rfl ?_
    refine tr_p (y_assign rfl) rfl rfl ?_
    refine tr_nil ?_
    refine tr_thenN ?_
    refine tr_ret ?_
    refine tr_thenR ?_
    exact tr_ret3 rfl rfl rfl rfl ⟨_, _, _, rfl, H⟩
  · replace H := H.2 g8
    refine tr_skip ?_
    refine tr_thenN ?_
    refine tr_seq ?_
    refine tr_seq ?_
    refine tr_region ?_
    refine tr_p (y_move rfl) rfl rfl ?_
    obtain ⟨a9, e10, H⟩ := H
    refine tr_p (f_nn rfl e10) rfl rfl ?_
    refine tr_p (y_fa (off := 1) Try.runUnderlying73 fo_73_1 rfl) rfl rfl ?_
    obtain ⟨y11, k12, H⟩ := H
    refine tr_h (y_ld Try.isAgg71 rfl) k12 rfl rfl ?_
    refine tr_p (y_move rfl) rfl rfl ?_
    refine tr_e (e_call Try.call47 rfl (F.table_find_int_ok H)) rfl rfl ?_
    rintro _ h13 ⟨r14, r15, rfl, H⟩
    refine tr_p (y_move rfl) rfl rfl ?_
    refine tr_p (y_ext rfl rfl) rfl rfl ?_
    refine tr_p (y_ext rfl rfl) rfl rfl ?_
    refine tr_p (y_assign rfl) rfl rfl ?_
    refine tr_p (y_assign rfl) rfl rfl ?_
    refine tr_nil ?_
    refine tr_thenN ?_
    refine tr_seq ?_
    refine tr_region ?_
    refine tr_p (y_move rfl) rfl rfl ?_
    refine tr_nil ?_
    refine tr_thenN ?_
    refine tr_cond rfl (fun g16 => ?_) (fun g16 => ?_)
    · replace H := H.1 g16
      refine tr_seq ?_
      refine tr_region ?_
      refine tr_p (y_move rfl) rfl rfl ?_
      refine tr_p (y_assign rfl) rfl rfl ?_
      refine tr_p (y_assign rfl) rfl rfl ?_
      refine tr_p (y_assign rfl) rfl rfl ?_
      refine tr_nil ?_
      refine tr_thenN ?_
      refine tr_ret ?_
      refine tr_thenR ?_
      exact tr_ret3 rfl rfl rfl rfl ⟨_, _, _, rfl, H⟩
    · replace H := H.2 g16
      refine tr_skip ?_
      refine tr_thenN ?_
      refine tr_seq ?_
      refine tr_region ?_
      refine tr_p (y_assign rfl) rfl rfl ?_
      refine tr_p (y_assign rfl) rfl rfl ?_
      refine tr_p (y_assign rfl) rfl rfl ?_
      refine tr_nil ?_
      refine tr_thenN ?_
      refine tr_ret ?_
      exact tr_ret3 rfl rfl rfl rfl ⟨_, _, _, rfl, H⟩

/-- spate/spatelaw6.like -/
def F.spatelaw6_like (p0 : Option Addr) (p1 : Option Addr) (p2 : ByteArray) (h : H) (Q : Bool → H → Prop) : Prop :=
  F.table_Table_int_Get p0 p2 h fun r2 r3 h1 =>
  F.spateref6_Table_Get p1 p2 h1 fun r5 r6 h4 =>
  F.table_Table_int_Place p0 p2 h4 fun r8 r9 r10 h7 =>
  F.spateref6_Table_Place p1 p2 h7 fun r12 r13 r14 h11 =>
  (((r2 == r5)) = true →
  ((r3 == r6) = true →
  (((r8 == r12)) = true →
  ((r9 == r13) = true →
  Q (r10 == r14) h11) ∧
  ((r9 == r13) = false →
  Q false h11)) ∧
  (((r8 == r12)) = false →
  Q false h11)) ∧
  ((r3 == r6) = false →
  Q false h11)) ∧
  (((r2 == r5)) = false →
  Q false h11)
theorem F.spatelaw6_like_ok {p0 : Option Addr} {p1 : Option Addr} {p2 : ByteArray} {h : H} {Q : Bool → H → Prop} (H : F.spatelaw6_like p0 p1 p2 h Q) : Fn PP 42 ([(.pointer p0), (.pointer p1), (.string p2)] : List Value).toArray h fun r h' => ∃ r0, r = (.bool r0) ∧ Q r0 h' := by
  unfold F.spatelaw6_like at H
  refine fn_of Try.func42 Try.ntmps42 rfl rfl fun w0 => ?_
  refine tr_sub [(0, (.pointer p0)), (1, (.pointer p1)), (2, (.string p2))] ⟨rfl, rfl, rfl, trivial⟩ ?_
  refine tr_seq ?_
  refine tr_region ?_
  refine tr_p (y_assign rfl) rfl rfl ?_
  refine tr_nil ?_
  refine tr_thenN ?_
  refine tr_seq ?_
  refine tr_region ?_
  refine tr_p (y_move rfl) rfl rfl ?_
  refine tr_p (y_move rfl) rfl rfl ?_
  refine tr_e (e_call Try.call25 rfl (F.table_Table_int_Get_ok H)) rfl rfl ?_
  rintro _ h1 ⟨r2, r3, rfl, H⟩
  refine tr_p (y_move rfl) rfl rfl ?_
  refine tr_p (y_ext rfl rfl) rfl rfl ?_
  refine tr_p (y_ext rfl rfl) rfl rfl ?_
  refine tr_p (y_assign rfl) rfl rfl ?_
  refine tr_p (y_assign rfl) rfl rfl ?_
  refine tr_nil ?_
  refine tr_thenN ?_
  refine tr_seq ?_
  refine tr_region ?_
  refine tr_p (y_move rfl) rfl rfl ?_
  refine tr_p (y_move rfl) rfl rfl ?_
  refine tr_e (e_call Try.call62 rfl (F.spateref6_Table_Get_ok H)) rfl rfl ?_
  rintro _ h4 ⟨r5, r6, rfl, H⟩
  refine tr_p (y_move rfl) rfl rfl ?_
  refine tr_p (y_ext rfl rfl) rfl rfl ?_
  refine tr_p (y_ext rfl rfl) rfl rfl ?_
  refine tr_p (y_assign rfl) rfl rfl ?_
  refine tr_p (y_assign rfl) rfl rfl ?_
  refine tr_nil ?_
  refine tr_thenN ?_
  refine tr_seq ?_
  refine tr_region ?_
  refine tr_p (y_move rfl) rfl rfl ?_
  refine tr_p (y_move rfl) rfl rfl ?_
  refine tr_e (e_call Try.call63 rfl (F.table_Table_int_Place_ok H)) rfl rfl ?_
  rintro _ h7 ⟨r8, r9, r10, rfl, H⟩
  refine tr_p (y_move rfl) rfl rfl ?_
  refine tr_p (y_ext rfl rfl) rfl rfl ?_
  refine tr_p (y_ext rfl rfl) rfl rfl ?_
  refine tr_p (y_ext rfl rfl) rfl rfl ?_
  refine tr_p (y_assign rfl) rfl rfl ?_
  refine tr_p (y_assign rfl) rfl rfl ?_
  refine tr_p (y_assign rfl) rfl rfl ?_
  refine tr_nil ?_
  refine tr_thenN ?_
  refine tr_seq ?_
  refine tr_region ?_
  refine tr_p (y_move rfl) rfl rfl ?_
  refine tr_p (y_move rfl) rfl rfl ?_
  refine tr_e (e_call Try.call64 rfl (F.spateref6_Table_Place_ok H)) rfl rfl ?_
  rintro _ h11 ⟨r12, r13, r14, rfl, H⟩
  refine tr_p (y_move rfl) rfl rfl ?_
  refine tr_p (y_ext rfl rfl) rfl rfl ?_
  refine tr_p (y_ext rfl rfl) rfl rfl ?_
  refine tr_p (y_ext rfl rfl) rfl rfl ?_
  refine tr_p (y_assign rfl) rfl rfl ?_
  refine tr_p (y_assign rfl) rfl rfl ?_
  refine tr_p (y_assign rfl) rfl rfl ?_
  refine tr_nil ?_
  refine tr_thenN ?_
  refine tr_seq ?_
  refine tr_region ?_
  refine tr_p (y_move rfl) rfl rfl ?_
  refine tr_p (y_move rfl) rfl rfl ?_
  refine tr_p (y_eql rfl rfl) rfl rfl ?_
  refine tr_p (y_move rfl) rfl rfl ?_
  refine tr_split (t := 46) rfl (fun g15 => ?_) (fun g15 => ?_)
  · replace H := H.1 g15
    refine tr_p (y_move rfl) rfl rfl ?_
    refine tr_p (y_move rfl) rfl rfl ?_
    refine tr_p (y_beql Try.underlying4 rfl rfl) rfl rfl ?_
    refine tr_p (y_pick_t rfl rfl) rfl rfl ?_
    refine tr_p (y_move rfl) rfl rfl ?_
    refine tr_split (t := 51) rfl (fun g16 => ?_) (fun g16 => ?_)
    · replace H := H.1 g16
      refine tr_p (y_move rfl) rfl rfl ?_
      refine tr_p (y_move rfl) rfl rfl ?_
      refine tr_p (y_eql rfl rfl) rfl rfl ?_
      refine tr_p (y_pick_t rfl rfl) rfl rfl ?_
      refine tr_p (y_move rfl) rfl rfl ?_
      refine tr_split (t := 56) rfl (fun g17 => ?_) (fun g17 => ?_)
      · replace H := H.1 g17
        refine tr_p (y_move rfl) rfl rfl ?_
        refine tr_p (y_move rfl) rfl rfl ?_
        refine tr_p (y_beql Try.underlying4 rfl rfl) rfl rfl ?_
        refine tr_p (y_pick_t rfl rfl) rfl rfl ?_
        refine tr_p (y_move rfl) rfl rfl ?_
        refine tr_split (t := 61) rfl (fun g18 => ?_) (fun g18 => ?_)
        · replace H := H.1 g18
          refine tr_p (y_move rfl) rfl rfl ?_
          refine tr_p (y_move rfl) rfl rfl ?_
          refine tr_p (y_beql Try.underlying4 rfl rfl) rfl rfl ?_
          refine tr_p (y_pick_t rfl rfl) rfl rfl ?_
          refine tr_p (y_assign rfl) rfl rfl ?_
          refine tr_nil ?_
          refine tr_thenN ?_
          refine tr_ret ?_
          exact tr_ret1 rfl rfl ⟨_, rfl, H⟩
        · replace H := H.2 g18
          refine tr_s rfl rfl ?_
          refine tr_s rfl rfl ?_
          refine tr_s rfl rfl ?_
          refine tr_p (y_pick_f rfl rfl) rfl rfl ?_
          refine tr_p (y_assign rfl) rfl rfl ?_
          refine tr_nil ?_
          refine tr_thenN ?_
          refine tr_ret ?_
          exact tr_ret1 rfl rfl ⟨_, rfl, H⟩
      · replace H := H.2 g17
        refine tr_s rfl rfl ?_
        refine tr_s rfl rfl ?_
        refine tr_s rfl rfl ?_
        refine tr_p (y_pick_f rfl rfl) rfl rfl ?_
        refine tr_p (y_move rfl) rfl rfl ?_
        refine tr_s rfl rfl ?_
        refine tr_s rfl rfl ?_
        refine tr_s rfl rfl ?_
        refine tr_p (y_pick_f rfl rfl) rfl rfl ?_
        refine tr_p (y_assign rfl) rfl rfl ?_
        refine tr_nil ?_
        refine tr_thenN ?_
        refine tr_ret ?_
        exact tr_ret1 rfl rfl ⟨_, rfl, H⟩
    · replace H := H.2 g16
      refine tr_s rfl rfl ?_
      refine tr_s rfl rfl ?_
      refine tr_s rfl rfl ?_
      refine tr_p (y_pick_f rfl rfl) rfl rfl ?_
      refine tr_p (y_move rfl) rfl rfl ?_
      refine tr_s rfl rfl ?_
      refine tr_s rfl rfl ?_
      refine tr_s rfl rfl ?_
      refine tr_p (y_pick_f rfl rfl) rfl rfl ?_
      refine tr_p (y_move rfl) rfl rfl ?_
      refine tr_s rfl rfl ?_
      refine tr_s rfl rfl ?_
      refine tr_s rfl rfl ?_
      refine tr_p (y_pick_f rfl rfl) rfl rfl ?_
      refine tr_p (y_assign rfl) rfl rfl ?_
      refine tr_nil ?_
      refine tr_thenN ?_
      refine tr_ret ?_
      exact tr_ret1 rfl rfl ⟨_, rfl, H⟩
  · replace H := H.2 g15
    refine tr_s rfl rfl ?_
    refine tr_s rfl rfl ?_
    refine tr_s rfl rfl ?_
    refine tr_p (y_pick_f rfl rfl) rfl rfl ?_
    refine tr_p (y_move rfl) rfl rfl ?_
    refine tr_s rfl rfl ?_
    refine tr_s rfl rfl ?_
    refine tr_s rfl rfl ?_
    refine tr_p (y_pick_f rfl rfl) rfl rfl ?_
    refine tr_p (y_move rfl) rfl rfl ?_
    refine tr_s rfl rfl ?_
    refine tr_s rfl rfl ?_
    refine tr_s rfl rfl ?_
    refine tr_p (y_pick_f rfl rfl) rfl rfl ?_
    refine tr_p (y_move rfl) rfl rfl ?_
    refine tr_s rfl rfl ?_
    refine tr_s rfl rfl ?_
    refine tr_s rfl rfl ?_
    refine tr_p (y_pick_f rfl rfl) rfl rfl ?_
    refine tr_p (y_assign rfl) rfl rfl ?_
    refine tr_nil ?_
    refine tr_thenN ?_
    refine tr_ret ?_
    exact tr_ret1 rfl rfl ⟨_, rfl, H⟩

def F.spateref6_Table_Move.j3 (Q : Int → H → Prop) (C1 : (Option Addr) → Int → Int → H → Prop) (x0 : Option Addr) (x1 : Int) (x5 : Int) (h : H) : Prop :=
  C1 x0 x1 (IntKind.wrap .i64 (x5 + 1)) h
def F.spateref6_Table_Move.j4 (Q : Int → H → Prop) (C1 : (Option Addr) → Int → Int → H → Prop) (x0 : Option Addr) (x1 : Int) (x5 : Int) (h : H) : Prop :=
  nn x0 fun a19 =>
  ldI .i64 h (a19.add 2) fun y21 =>
  nn x0 fun a23 =>
  stH h (a23.add 2) [(.int .i64 (IntKind.wrap .i64 (y21 + 1)))] fun h25 =>
  F.spateref6_Table_Move.j3 Q C1 x0 x1 x5 h25
def F.spateref6_Table_Move.j2 (Q : Int → H → Prop) (C1 : (Option Addr) → Int → Int → H → Prop) (x0 : Option Addr) (x1 : Int) (x5 : Int) (h : H) : Prop :=
  nn x0 fun a1 =>
  ldL h (a1.add 1) fun y3 =>
  nn x0 fun a5 =>
  ldI .i64 h (a5.add 2) fun y7 =>
  idxA y3 y7 4 fun a9 =>
  ld_S_spateref6_Place h a9 fun y11 =>
  new h (((⟨false, false, (⟨#[]⟩ : ByteArray), 0⟩ : S_spateref6_Place) : S_spateref6_Place).cells.toArray) ty_114 fun a14 h13 =>
  Cells h13 a9 y11.cells ∧
  cellH h13 (a5.add 2) = some (.int .i64 y7) ∧
  cellH h13 (a1.add 1) = some y3.enc ∧
  stH h13 a14 y11.cells fun h18 =>
  ldB h18 (a14.add 0) fun y26 =>
  (y26 = true →
  nn x0 fun a29 =>
  ldL h18 (a29.add 0) fun y31 =>
  ldS h18 (a14.add 2) fun y33 =>
  F.spateref6_find y31 y33 h18 fun r36 r37 h35 =>
  nn x0 fun a38 =>
  ldL h35 (a38.add 0) fun y40 =>
  ld_S_spateref6_Place h35 a14 fun y42 =>
  idxA y40 r36 4 fun a44 =>
  stH h35 a44 y42.cells fun h46 =>
  nn x0 fun a47 =>
  ldL h46 (a47.add 1) fun y49 =>
  nn x0 fun a51 =>
  ldI .i64 h46 (a51.add 2) fun y53 =>
  idxA y49 y53 4 fun a55 =>
  stH h46 a55 ((⟨false, true, (⟨#[]⟩ : ByteArray), 0⟩ : S_spateref6_Place).cells) fun h57 =>
  F.spateref6_Table_Move.j4 Q C1 x0 x1 x5 h57) ∧
  (y26 = false →
  F.spateref6_Table_Move.j4 Q C1 x0 x1 x5 h18)
def F.spateref6_Table_Move.j6 (Q : Int → H → Prop) (x0 : Option Addr) (h : H) : Prop :=
  F.spateref6_Table_Left x0 h fun r60 h59 =>
  Q r60 h59
def F.spateref6_Table_Move.j5 (Q : Int → H → Prop) (C1 : (Option Addr) → Int → Int → H → Prop) (x0 : Option Addr) (x1 : Int) (x5 : Int) (x23 : Bool) (h : H) : Prop :=
  (x23 = true →
  F.spateref6_Table_Move.j2 Q C1 x0 x1 x5 h) ∧
  (x23 = false →
  nn x0 fun a61 =>
  ldI .i64 h (a61.add 2) fun y63 =>
  nn x0 fun a65 =>
  ldL h (a65.add 1) fun y67 =>
  (((y63 == (y67.len : Int))) = true →
  nn x0 fun a70 =>
  stH h (a70.add 1) [(⟨none, 0, 0⟩ : Sl).enc] fun h72 =>
  nn x0 fun a73 =>
  stH h72 (a73.add 2) [(.int .i64 0)] fun h75 =>
  F.spateref6_Table_Move.j6 Q x0 h75) ∧
  (((y63 == (y67.len : Int))) = false →
  F.spateref6_Table_Move.j6 Q x0 h))
def F.spateref6_Table_Move.l1 (Q : Int → H → Prop) : Nat → (Option Addr) → Int → Int → H → Prop
  | 0, _, _, _, _ => False
  | q1 + 1, x0, x1, x5, h =>
    ((decide (x5 < x1)) = true →
    nn x0 fun a77 =>
    ldI .i64 h (a77.add 2) fun y79 =>
    nn x0 fun a81 =>
    ldL h (a81.add 1) fun y83 =>
    F.spateref6_Table_Move.j5 Q (F.spateref6_Table_Move.l1 Q q1) x0 x1 x5 (decide (y79 < (y83.len : Int))) h) ∧
    ((decide (x5 < x1)) = false →
    F.spateref6_Table_Move.j5 Q (F.spateref6_Table_Move.l1 Q q1) x0 x1 x5 false h)
/-- (*spate/spateref6.Table).Move -/
def F.spateref6_Table_Move (p0 : Option Addr) (p1 : Int) (h : H) (Q : Int → H → Prop) : Prop :=
  ∃ m, F.spateref6_Table_Move.l1 Q m p0 p1 0 h
theorem F.spateref6_Table_Move_ok {p0 : Option Addr} {p1 : Int} {h : H} {Q : Int → H → Prop} (H : F.spateref6_Table_Move p0 p1 h Q) : Fn PP 60 ([(.pointer p0), (.int .i64 p1)] : List Value).toArray h fun r h' => ∃ r0, r = (.int .i64 r0) ∧ Q r0 h' := by
  unfold F.spateref6_Table_Move at H
  refine fn_of Try.func60 Try.ntmps60 rfl rfl fun w0 => ?_
  refine tr_sub [(0, (.pointer p0)), (1, (.int .i64 p1))] ⟨rfl, rfl, trivial⟩ ?_
  refine tr_seq ?_
  refine tr_region ?_
  refine tr_p (y_assign rfl) rfl rfl ?_
  refine tr_nil ?_
  refine tr_thenN ?_
  refine tr_seq ?_
  refine tr_seq ?_
  refine tr_region ?_
  refine tr_p (y_assign rfl) rfl rfl ?_
  refine tr_nil ?_
  refine tr_thenN ?_
  refine tr_block ?_
  obtain ⟨m85, H⟩ := H
  refine tr_sub [(0, (.pointer p0)), (1, (.int .i64 p1)), (5, (.int .i64 0))] ⟨rfl, rfl, rfl, trivial⟩ ?_
  refine tr_loop_j (fun m L' h => ∃ (x0 : Option Addr) (x1 : Int) (x5 : Int), L' = [(0, (.pointer x0)), (1, (.int .i64 x1)), (5, (.int .i64 x5))] ∧ F.spateref6_Table_Move.l1 Q m x0 x1 x5 h) ?_ ?_ m85 ⟨_, _, _, rfl, H⟩
  · rintro L' h ⟨_, _, _, _, H⟩; exact H
  · rintro q1 L' h ⟨x0, x1, x5, rfl, H⟩
    unfold F.spateref6_Table_Move.l1 at H
    refine tr_seq_j (fun L' h => ∃ (x0 : Option Addr) (x1 : Int) (x5 : Int), L' = [(0, (.pointer x0)), (1, (.int .i64 x1)), (5, (.int .i64 x5))] ∧ F.spateref6_Table_Move.j2 Q (F.spateref6_Table_Move.l1 Q q1) x0 x1 x5 h) ?_ ?_
    · rintro L' h ⟨x0, x1, x5, rfl, H⟩
      unfold F.spateref6_Table_Move.j2 at H
      refine tr_seq_j (fun L' h => ∃ (x0 : Option Addr) (x1 : Int) (x5 : Int), L' = [(0, (.pointer x0)), (1, (.int .i64 x1)), (5, (.int .i64 x5))] ∧ F.spateref6_Table_Move.j3 Q (F.spateref6_Table_Move.l1 Q q1) x0 x1 x5 h) ?_ ?_
      · rintro L' h ⟨x0, x1, x5, rfl, H⟩
        unfold F.spateref6_Table_Move.j3 at H
        refine tr_region ?_
        refine tr_p (y_move rfl) rfl rfl ?_
        refine tr_p (y_add rfl rfl) rfl rfl ?_
        refine tr_p (y_assign rfl) rfl rfl ?_
        refine tr_nil ?_
        refine tr_thenN ?_
        exact tr_join [(0, (.pointer x0)), (1, (.int .i64 x1)), (5, (.int .i64 (IntKind.wrap .i64 (x5 + 1))))] ⟨rfl, rfl, rfl, trivial⟩ ⟨_, _, _, rfl, H⟩
      · refine tr_block ?_
        refine tr_seq ?_
        refine tr_draw mixed [0, 1, 3, 7, 0, 16, 48, 112, 255, 511, 0, 2047] (by kernel_rfl) ?_
        refine g_p 0 1 rfl (by kernel_rfl) (y_move rfl) rfl rfl ?_
        obtain ⟨a1, e2, H⟩ := H
        refine g_p 1 3 rfl (by kernel_rfl) (f_nn rfl e2) rfl rfl ?_
        refine g_p 2 7 rfl (by kernel_rfl) (y_fa (off := 1) Try.runUnderlying104 fo_104_1 rfl) rfl rfl ?_
        obtain ⟨y3, k4, H⟩ := H
        refine g_h 3 15 rfl (by kernel_rfl) (y_ld Try.isAgg102 rfl) k4 rfl rfl ?_
        refine g_p 4 31 rfl (by kernel_rfl) (y_move rfl) rfl rfl ?_
        obtain ⟨a5, e6, H⟩ := H
        refine g_p 5 63 rfl (by kernel_rfl) (f_nn rfl e6) rfl rfl ?_
        refine g_p 6 127 rfl (by kernel_rfl) (y_fa (off := 2) Try.runUnderlying104 fo_104_2 rfl) rfl rfl ?_
        obtain ⟨y7, k8, H⟩ := H
        refine g_h 7 255 rfl (by kernel_rfl) (y_ld Try.isAgg3 rfl) k8 rfl rfl ?_
        obtain ⟨a9, e10, H⟩ := H
        refine g_p 8 511 rfl (by kernel_rfl) (f_idx (s := y3) Try.runUnderlying102 Try.sizeOf114 rfl rfl e10) rfl rfl ?_
        obtain ⟨y11, k12, H⟩ := H
        refine g_h 9 1023 rfl (by kernel_rfl) (y_ldS Try.isAgg114 Try.sizeOf114 rfl rfl) k12 rfl rfl ?_
        refine g_e 10 2047 [(9, fun h => Cells h a9 y11.cells), (7, fun h => cellH h (a5.add 2) = some (.int .i64 y7)), (3, fun h => cellH h (a1.add 1) = some y3.enc)] (by kernel_rfl) rfl (by kernel_rfl) (f_alloc (cs := ((⟨false, false, (⟨#[]⟩ : ByteArray), 0⟩ : S_spateref6_Place) : S_spateref6_Place).cells.toArray) Try.zeroValue114 rfl H) rfl rfl ?_
        rintro _ h13 ⟨a14, rfl, H⟩
        obtain ⟨k15, k16, k17, H⟩ := H
        refine ⟨And.intro k15 (And.intro k16 (And.intro k17 trivial)), ?_⟩
        refine g_e 11 4095 [] (by kernel_rfl) rfl (by kernel_rfl) (f_store (vs := y11.cells) Try.sizeOf114 rfl rfl cellsOfStruct rfl (by intro v hv; exact ones_S_spateref6_Place _ v hv) H) rfl rfl ?_
        rintro _ h18 ⟨rfl, H⟩
        refine ⟨trivial, ?_⟩
        refine g_d (by kernel_rfl) ?_
        refine tr_thenN ?_
        refine tr_seq_j (fun L' h => ∃ (x0 : Option Addr) (x1 : Int) (x5 : Int), L' = [(0, (.pointer x0)), (1, (.int .i64 x1)), (5, (.int .i64 x5))] ∧ F.spateref6_Table_Move.j4 Q (F.spateref6_Table_Move.l1 Q q1) x0 x1 x5 h) ?_ ?_
        · rintro L' h ⟨x0, x1, x5, rfl, H⟩
          unfold F.spateref6_Table_Move.j4 at H
          refine tr_region ?_
          refine tr_p (y_move rfl) rfl rfl ?_
          obtain ⟨a19, e20, H⟩ := H
          refine tr_p (f_nn rfl e20) rfl rfl ?_
          refine tr_p (y_fa (off := 2) Try.runUnderlying104 fo_104_2 rfl) rfl rfl ?_
          obtain ⟨y21, k22, H⟩ := H
          refine tr_h (y_ld Try.isAgg3 rfl) k22 rfl rfl ?_
          refine tr_p (y_add rfl rfl) rfl rfl ?_
          obtain ⟨a23, e24, H⟩ := H
          refine tr_p (f_nn rfl e24) rfl rfl ?_
          refine tr_p (y_fa (off := 2) Try.runUnderlying104 fo_104_2 rfl) rfl rfl ?_
          refine tr_e (f_store (vs := [(.int .i64 (IntKind.wrap .i64 (y21 + 1)))]) Try.sizeOf3 rfl rfl rfl rfl (one1 rfl) H) rfl rfl ?_
          rintro _ h25 ⟨rfl, H⟩
          refine tr_nil ?_
          refine tr_blockN ?_
          refine tr_thenN ?_
          exact tr_join [(0, (.pointer x0)), (1, (.int .i64 x1)), (5, (.int .i64 x5))] ⟨rfl, rfl, rfl, trivial⟩ ⟨_, _, _, rfl, H⟩
        · refine tr_seq ?_
          refine tr_region ?_
          refine tr_p (y_fa (off := 0) Try.runUnderlying114 fo_114_0 rfl) rfl rfl ?_
          obtain ⟨y26, k27, H⟩ := H
          refine tr_h (y_ld Try.isAgg4 rfl) k27 rfl rfl ?_
          refine tr_nil ?_
          refine tr_thenN ?_
          refine tr_cond rfl (fun g28 => ?_) (fun g28 => ?_)
          · replace H := H.1 g28
            refine tr_seq ?_
            refine tr_draw mixed [0, 1, 3, 7, 0, 16, 63, 127, 255, 255, 511, 2047] (by kernel_rfl) ?_
            refine g_p 0 1 rfl (by kernel_rfl) (y_move rfl) rfl rfl ?_
            obtain ⟨a29, e30, H⟩ := H
            refine g_p 1 3 rfl (by kernel_rfl) (f_nn rfl e30) rfl rfl ?_
            refine g_p 2 7 rfl (by kernel_rfl) (y_fa (off := 0) Try.runUnderlying104 fo_104_0 rfl) rfl rfl ?_
            obtain ⟨y31, k32, H⟩ := H
            refine g_h 3 15 rfl (by kernel_rfl) (y_ld Try.isAgg102 rfl) k32 rfl rfl ?_
            refine g_p 4 31 rfl (by kernel_rfl) (y_fa (off := 2) Try.runUnderlying114 fo_114_2 rfl) rfl rfl ?_
            obtain ⟨y33, k34, H⟩ := H
            refine g_h 5 63 rfl (by kernel_rfl) (y_ld Try.isAgg9 rfl) k34 rfl rfl ?_
            refine g_e 6 127 [] (by kernel_rfl) rfl (by kernel_rfl) (e_call Try.call73 rfl (F.spateref6_find_ok H)) rfl rfl ?_
            rintro _ h35 ⟨r36, r37, rfl, H⟩
            refine ⟨trivial, ?_⟩
            refine g_p 7 255 rfl (by kernel_rfl) (y_move rfl) rfl rfl ?_
            refine g_p 8 511 rfl (by kernel_rfl) (y_ext rfl rfl) rfl rfl ?_
            refine g_p 9 1023 rfl (by kernel_rfl) (y_ext rfl rfl) rfl rfl ?_
            refine g_p 10 2047 rfl (by kernel_rfl) (y_assign rfl) rfl rfl ?_
            refine g_p 11 4095 rfl (by kernel_rfl) (y_assign rfl) rfl rfl ?_
            refine g_d (by kernel_rfl) ?_
            refine tr_thenN ?_
            refine tr_seq ?_
            refine tr_draw mixed [0, 1, 3, 7, 0, 0, 63, 127] (by kernel_rfl) ?_
            refine g_p 0 1 rfl (by kernel_rfl) (y_move rfl) rfl rfl ?_
            obtain ⟨a38, e39, H⟩ := H
            refine g_p 1 3 rfl (by kernel_rfl) (f_nn rfl e39) rfl rfl ?_
            refine g_p 2 7 rfl (by kernel_rfl) (y_fa (off := 0) Try.runUnderlying104 fo_104_0 rfl) rfl rfl ?_
            obtain ⟨y40, k41, H⟩ := H
            refine g_h 3 15 rfl (by kernel_rfl) (y_ld Try.isAgg102 rfl) k41 rfl rfl ?_
            refine g_p 4 31 rfl (by kernel_rfl) (y_move rfl) rfl rfl ?_
            obtain ⟨y42, k43, H⟩ := H
            refine g_h 5 63 rfl (by kernel_rfl) (y_ldS Try.isAgg114 Try.sizeOf114 rfl rfl) k43 rfl rfl ?_
            obtain ⟨a44, e45, H⟩ := H
            refine g_p 6 127 rfl (by kernel_rfl) (f_idx (s := y40) Try.runUnderlying102 Try.sizeOf114 rfl rfl e45) rfl rfl ?_
            refine g_e 7 255 [] (by kernel_rfl) rfl (by kernel_rfl) (f_store (vs := y42.cells) Try.sizeOf114 rfl rfl cellsOfStruct rfl (by intro v hv; exact ones_S_spateref6_Place _ v hv) H) rfl rfl ?_
            rintro _ h46 ⟨rfl, H⟩
            refine ⟨trivial, ?_⟩
            refine g_d (by kernel_rfl) ?_
            refine tr_thenN ?_
            refine tr_draw mixed [0, 1, 3, 7, 0, 16, 48, 112, 0, 511, 1023] (by kernel_rfl) ?_
            refine g_p 0 1 rfl (by kernel_rfl) (y_move rfl) rfl rfl ?_
            obtain ⟨a47, e48, H⟩ := H
            refine g_p 1 3 rfl (by kernel_rfl) (f_nn rfl e48) rfl rfl ?_
            refine g_p 2 7 rfl (by kernel_rfl) (y_fa (off := 1) Try.runUnderlying104 fo_104_1 rfl) rfl rfl ?_
            obtain ⟨y49, k50, H⟩ := H
            refine g_h 3 15 rfl (by kernel_rfl) (y_ld Try.isAgg102 rfl) k50 rfl rfl ?_
            refine g_p 4 31 rfl (by kernel_rfl) (y_move rfl) rfl rfl ?_
            obtain ⟨a51, e52, H⟩ := H
            refine g_p 5 63 rfl (by kernel_rfl) (f_nn rfl e52) rfl rfl ?_
            refine g_p 6 127 rfl (by kernel_rfl) (y_fa (off := 2) Try.runUnderlying104 fo_104_2 rfl) rfl rfl ?_
            obtain ⟨y53, k54, H⟩ := H
            refine g_h 7 255 rfl (by kernel_rfl) (y_ld Try.isAgg3 rfl) k54 rfl rfl ?_
            refine g_p 8 511 rfl (by kernel_rfl) (f_build rfl (bd_114_1 true)) rfl rfl ?_
            obtain ⟨a55, e56, H⟩ := H
            refine g_p 9 1023 rfl (by kernel_rfl) (f_idx (s := y49) Try.runUnderlying102 Try.sizeOf114 rfl rfl e56) rfl rfl ?_
            refine g_e 10 2047 [] (by kernel_rfl) rfl (by kernel_rfl) (f_store (vs := (⟨false, true, (⟨#[]⟩ : ByteArray), 0⟩ : S_spateref6_Place).cells) Try.sizeOf114 rfl rfl cellsOfStruct rfl (by intro v hv; exact ones_S_spateref6_Place _ v hv) H) rfl rfl ?_
            rintro _ h57 ⟨rfl, H⟩
            refine ⟨trivial, ?_⟩
            refine g_d (by kernel_rfl) ?_
            refine tr_thenN ?_
            exact tr_join [(0, (.pointer x0)), (1, (.int .i64 x1)), (5, (.int .i64 x5))] ⟨rfl, rfl, rfl, trivial⟩ ⟨_, _, _, rfl, H⟩
          · replace H := H.2 g28
            refine tr_skip ?_
            refine tr_thenN ?_
            exact tr_join [(0, (.pointer x0)), (1, (.int .i64 x1)), (5, (.int .i64 x5))] ⟨rfl, rfl, rfl, trivial⟩ ⟨_, _, _, rfl, H⟩
    · refine tr_seq_j (fun L' h => ∃ (x0 : Option Addr) (x1 : Int) (x5 : Int) (x23 : Bool), L' = [(0, (.pointer x0)), (1, (.int .i64 x1)), (5, (.int .i64 x5)), (23, (.bool x23))] ∧ F.spateref6_Table_Move.j5 Q (F.spateref6_Table_Move.l1 Q q1) x0 x1 x5 x23 h) ?_ ?_
      · rintro L' h ⟨x0, x1, x5, x23, rfl, H⟩
        unfold F.spateref6_Table_Move.j5 at H
        refine tr_cond rfl (fun g58 => ?_) (fun g58 => ?_)
        · replace H := H.1 g58
          refine tr_skip ?_
          refine tr_thenN ?_
          exact tr_join [(0, (.pointer x0)), (1, (.int .i64 x1)), (5, (.int .i64 x5))] ⟨rfl, rfl, rfl, trivial⟩ ⟨_, _, _, rfl, H⟩
        · replace H := H.2 g58
          refine tr_exit ?_
          refine tr_thenE ?_
          refine tr_thenE ?_
          refine tr_hit ?_
          refine tr_thenN ?_
          refine tr_seq_j (fun L' h => ∃ (x0 : Option Addr), L' = [(0, (.pointer x0))] ∧ F.spateref6_Table_Move.j6 Q x0 h) ?_ ?_
          · rintro L' h ⟨x0, rfl, H⟩
            unfold F.spateref6_Table_Move.j6 at H
            refine tr_seq ?_
            refine tr_region ?_
            refine tr_p (y_move rfl) rfl rfl ?_
            refine tr_e (e_call Try.call72 rfl (F.spateref6_Table_Left_ok H)) rfl rfl ?_
            rintro _ h59 ⟨r60, rfl, H⟩
            refine tr_p (y_assign rfl) rfl rfl ?_
            refine tr_nil ?_
            refine tr_thenN ?_
            refine tr_ret ?_
            exact tr_ret1 rfl rfl ⟨_, rfl, H⟩
          · refine tr_seq ?_
            refine tr_draw mixed [0, 1, 3, 7, 0, 16, 48, 112, 240, 511] (by kernel_rfl) ?_
            refine g_p 0 1 rfl (by kernel_rfl) (y_move rfl) rfl rfl ?_
            obtain ⟨a61, e62, H⟩ := H
            refine g_p 1 3 rfl (by kernel_rfl) (f_nn rfl e62) rfl rfl ?_
            refine g_p 2 7 rfl (by kernel_rfl) (y_fa (off := 2) Try.runUnderlying104 fo_104_2 rfl) rfl rfl ?_
            obtain ⟨y63, k64, H⟩ := H
            refine g_h 3 15 rfl (by kernel_rfl) (y_ld Try.isAgg3 rfl) k64 rfl rfl ?_
            refine g_p 4 31 rfl (by kernel_rfl) (y_move rfl) rfl rfl ?_
            obtain ⟨a65, e66, H⟩ := H
            refine g_p 5 63 rfl (by kernel_rfl) (f_nn rfl e66) rfl rfl ?_
            refine g_p 6 127 rfl (by kernel_rfl) (y_fa (off := 1) Try.runUnderlying104 fo_104_1 rfl) rfl rfl ?_
            obtain ⟨y67, k68, H⟩ := H
            refine g_h 7 255 rfl (by kernel_rfl) (y_ld Try.isAgg102 rfl) k68 rfl rfl ?_
            refine g_p 8 511 rfl (by kernel_rfl) (y_len (ts := #[]) Try.runUnderlying102 (o := y67.ptr) (n := y67.len) (cap := y67.cap) rfl) rfl rfl ?_
            refine g_p 9 1023 rfl (by kernel_rfl) (y_eql rfl rfl) rfl rfl ?_
            refine g_d (by kernel_rfl) ?_
            refine tr_thenN ?_
            refine tr_cond rfl (fun g69 => ?_) (fun g69 => ?_)
            · replace H := H.1 g69
              refine tr_seq ?_
              refine tr_region ?_
              refine tr_p (y_move rfl) rfl rfl ?_
              obtain ⟨a70, e71, H⟩ := H
              refine tr_p (f_nn rfl e71) rfl rfl ?_
              refine tr_p (y_fa (off := 1) Try.runUnderlying104 fo_104_1 rfl) rfl rfl ?_
              refine tr_e (f_store (vs := [(⟨none, 0, 0⟩ : Sl).enc]) Try.sizeOf102 rfl rfl rfl rfl (one1 rfl) H) rfl rfl ?_
              rintro _ h72 ⟨rfl, H⟩
              refine tr_nil ?_
              refine tr_thenN ?_
              refine tr_region ?_
              refine tr_p (y_move rfl) rfl rfl ?_
              obtain ⟨a73, e74, H⟩ := H
              refine tr_p (f_nn rfl e74) rfl rfl ?_
              refine tr_p (y_fa (off := 2) Try.runUnderlying104 fo_104_2 rfl) rfl rfl ?_
              refine tr_e (f_store (vs := [(.int .i64 0)]) Try.sizeOf3 rfl rfl rfl rfl (one1 rfl) H) rfl rfl ?_
              rintro _ h75 ⟨rfl, H⟩
              refine tr_nil ?_
              refine tr_thenN ?_
              exact tr_join [(0, (.pointer x0))] ⟨rfl, trivial⟩ ⟨_, rfl, H⟩
            · replace H := H.2 g69
              refine tr_skip ?_
              refine tr_thenN ?_
              exact tr_join [(0, (.pointer x0))] ⟨rfl, trivial⟩ ⟨_, rfl, H⟩
      · refine tr_draw mixed [0, 0, 3, 7, 15, 31, 63, 127, 15, 271, 783, 1807, 3855, 8191, 16383] (by kernel_rfl) ?_
        refine g_p 0 1 rfl (by kernel_rfl) (y_move rfl) rfl rfl ?_
        refine g_p 1 3 rfl (by kernel_rfl) (y_move rfl) rfl rfl ?_
        refine g_p 2 7 rfl (by kernel_rfl) (y_lss rfl rfl) rfl rfl ?_
        refine g_p 3 15 rfl (by kernel_rfl) (y_move rfl) rfl rfl ?_
        refine g_split (t := 12) rfl (fun g76 => ?_) (fun g76 => ?_)
        · replace H := H.1 g76
          refine g_p 4 31 rfl (by kernel_rfl) (y_move rfl) rfl rfl ?_
          obtain ⟨a77, e78, H⟩ := H
          refine g_p 5 63 rfl (by kernel_rfl) (f_nn rfl e78) rfl rfl ?_
          refine g_p 6 127 rfl (by kernel_rfl) (y_fa (off := 2) Try.runUnderlying104 fo_104_2 rfl) rfl rfl ?_
          obtain ⟨y79, k80, H⟩ := H
          refine g_h 7 255 rfl (by kernel_rfl) (y_ld Try.isAgg3 rfl) k80 rfl rfl ?_
          refine g_p 8 511 rfl (by kernel_rfl) (y_move rfl) rfl rfl ?_
          obtain ⟨a81, e82, H⟩ := H
          refine g_p 9 1023 rfl (by kernel_rfl) (f_nn rfl e82) rfl rfl ?_
          refine g_p 10 2047 rfl (by kernel_rfl) (y_fa (off := 1) Try.runUnderlying104 fo_104_1 rfl) rfl rfl ?_
          obtain ⟨y83, k84, H⟩ := H
          refine g_h 11 4095 rfl (by kernel_rfl) (y_ld Try.isAgg102 rfl) k84 rfl rfl ?_
          refine g_p 12 8191 rfl (by kernel_rfl) (y_len (ts := #[]) Try.runUnderlying102 (o := y83.ptr) (n := y83.len) (cap := y83.cap) rfl) rfl rfl ?_
          refine g_p 13 16383 rfl (by kernel_rfl) (y_lss rfl rfl) rfl rfl ?_
          refine g_p 14 32767 rfl (by kernel_rfl) (y_pick_t rfl rfl) rfl rfl ?_
          refine g_d (by kernel_rfl) ?_
          refine tr_thenN ?_
          exact tr_join [(0, (.pointer x0)), (1, (.int .i64 x1)), (5, (.int .i64 x5)), (23, (.bool (decide (y79 < (y83.len : Int)))))] ⟨rfl, rfl, rfl, rfl, trivial⟩ ⟨_, _, _, _, rfl, H⟩
        · replace H := H.2 g76
          refine g_s 4 31 rfl (by kernel_rfl) rfl rfl ?_
          refine g_s 5 63 rfl (by kernel_rfl) rfl rfl ?_
          refine g_s 6 127 rfl (by kernel_rfl) rfl rfl ?_
          refine g_s 7 255 rfl (by kernel_rfl) rfl rfl ?_
          refine g_s 8 511 rfl (by kernel_rfl) rfl rfl ?_
          refine g_s 9 1023 rfl (by kernel_rfl) rfl rfl ?_
          refine g_s 10 2047 rfl (by kernel_rfl) rfl rfl ?_
          refine g_s 11 4095 rfl (by kernel_rfl) rfl rfl ?_
          refine g_s 12 8191 rfl (by kernel_rfl) rfl rfl ?_
          refine g_s 13 16383 rfl (by kernel_rfl) rfl rfl ?_
          refine g_p 14 32767 rfl (by kernel_rfl) (y_pick_f rfl rfl) rfl rfl ?_
          refine g_d (by kernel_rfl) ?_
          refine tr_thenN ?_
          exact tr_join [(0, (.pointer x0)), (1, (.int .i64 x1)), (5, (.int .i64 x5)), (23, (.bool false))] ⟨rfl, rfl, rfl, rfl, trivial⟩ ⟨_, _, _, _, rfl, H⟩

def F.spateref6_Table_Put.j2 (Q : H → Prop) (x0 : Option Addr) (x1 : ByteArray) (x2 : Int) (h : H) : Prop :=
  nn x0 fun a7 =>
  ldL h (a7.add 0) fun y9 =>
  F.spateref6_find y9 x1 h fun r12 r13 h11 =>
  nn x0 fun a14 =>
  ldL h11 (a14.add 0) fun y16 =>
  idxA y16 r12 4 fun a18 =>
  stH h11 a18 ((⟨true, false, x1, x2⟩ : S_spateref6_Place).cells) fun h20 =>
  nn x0 fun a21 =>
  ldI .i64 h20 (a21.add 3) fun y23 =>
  nn x0 fun a25 =>
  stH h20 (a25.add 3) [(.int .i64 (IntKind.wrap .i64 (y23 + 1)))] fun h27 =>
  Q h27
def F.spateref6_Table_Put.j1 (Q : H → Prop) (x0 : Option Addr) (x1 : ByteArray) (x2 : Int) (h : H) : Prop :=
  nn x0 fun a28 =>
  ldI .i64 h (a28.add 3) fun y30 =>
  nn x0 fun a32 =>
  ldL h (a32.add 0) fun y34 =>
  ((decide ((IntKind.wrap .i64 (4 * (IntKind.wrap .i64 (y30 + 1)))) > (IntKind.wrap .i64 (3 * (y34.len : Int))))) = true →
  F.spateref6_Table_Left x0 h fun r38 h37 =>
  F.spateref6_Table_Move x0 r38 h37 fun r40 h39 =>
  nn x0 fun a41 =>
  ldL h39 (a41.add 0) fun y43 =>
  nn x0 fun a45 =>
  stH h39 (a45.add 1) [y43.enc] fun h47 =>
  nn x0 fun a48 =>
  stH h47 (a48.add 2) [(.int .i64 0)] fun h50 =>
  nn x0 fun a51 =>
  ldL h50 (a51.add 1) fun y53 =>
  runL PP (Instr.makeSlice 102 (.int .i64 (IntKind.wrap .i64 (2 * (y53.len : Int)))) (.int .i64 (IntKind.wrap .i64 (2 * (y53.len : Int))))) h50 fun s56 h55 =>
  nn x0 fun a57 =>
  stH h55 (a57.add 0) [s56.enc] fun h59 =>
  F.spateref6_Table_Put.j2 Q x0 x1 x2 h59) ∧
  ((decide ((IntKind.wrap .i64 (4 * (IntKind.wrap .i64 (y30 + 1)))) > (IntKind.wrap .i64 (3 * (y34.len : Int))))) = false →
  F.spateref6_Table_Put.j2 Q x0 x1 x2 h)
def F.spateref6_Table_Put.j3 (Q : H → Prop) (x0 : Option Addr) (x1 : ByteArray) (x2 : Int) (x6 : Int) (x8 : Bool) (x18 : Bool) (h : H) : Prop :=
  (x18 = true →
  nn x0 fun a61 =>
  ldL h (a61.add 1) fun y63 =>
  idxA y63 x6 4 fun a65 =>
  stH h (a65.add 3) [(.int .i64 x2)] fun h67 =>
  Q h67) ∧
  (x18 = false →
  (x8 = true →
  nn x0 fun a69 =>
  ldL h (a69.add 0) fun y71 =>
  idxA y71 x6 4 fun a73 =>
  stH h (a73.add 3) [(.int .i64 x2)] fun h75 =>
  Q h75) ∧
  (x8 = false →
  F.spateref6_Table_Put.j1 Q x0 x1 x2 h))
/-- (*spate/spateref6.Table).Put -/
def F.spateref6_Table_Put (p0 : Option Addr) (p1 : ByteArray) (p2 : Int) (h : H) (Q : H → Prop) : Prop :=
  F.spateref6_Table_Move p0 4 h fun r2 h1 =>
  F.spateref6_Table_Place p0 p1 h1 fun r4 r5 r6 h3 =>
  (r6 = true →
  F.spateref6_Table_Put.j3 Q p0 p1 p2 r4 r6 r5 h3) ∧
  (r6 = false →
  F.spateref6_Table_Put.j3 Q p0 p1 p2 r4 r6 false h3)
theorem F.spateref6_Table_Put_ok {p0 : Option Addr} {p1 : ByteArray} {p2 : Int} {h : H} {Q : H → Prop} (H : F.spateref6_Table_Put p0 p1 p2 h Q) : Fn PP 58 ([(.pointer p0), (.string p1), (.int .i64 p2)] : List Value).toArray h fun r h' => r = .tuple #[] ∧ Q  h' := by
  unfold F.spateref6_Table_Put at H
  refine fn_of Try.func58 Try.ntmps58 rfl rfl fun w0 => ?_
  refine tr_sub [(0, (.pointer p0)), (1, (.string p1)), (2, (.int .i64 p2))] ⟨rfl, rfl, rfl, trivial⟩ ?_
  refine tr_seq ?_
  refine tr_region ?_
  refine tr_p (y_move rfl) rfl rfl ?_
  refine tr_e (e_call Try.call60 rfl (F.spateref6_Table_Move_ok H)) rfl rfl ?_
  rintro _ h1 ⟨r2, rfl, H⟩
  refine tr_nil ?_
  refine tr_thenN ?_
  refine tr_seq ?_
  refine tr_region ?_
  refine tr_p (y_move rfl) rfl rfl ?_
  refine tr_p (y_move rfl) rfl rfl ?_
  refine tr_e (e_call Try.call64 rfl (F.spateref6_Table_Place_ok H)) rfl rfl ?_
  rintro _ h3 ⟨r4, r5, r6, rfl, H⟩
  refine tr_p (y_move rfl) rfl rfl ?_
  refine tr_p (y_ext rfl rfl) rfl rfl ?_
  refine tr_p (y_ext rfl rfl) rfl rfl ?_
  refine tr_p (y_ext rfl rfl) rfl rfl ?_
  refine tr_p (y_assign rfl) rfl rfl ?_
  refine tr_p (y_assign rfl) rfl rfl ?_
  refine tr_p (y_assign rfl) rfl rfl ?_
  refine tr_nil ?_
  refine tr_thenN ?_
  refine tr_seq_j (fun L' h => ∃ (x0 : Option Addr) (x1 : ByteArray) (x2 : Int), L' = [(0, (.pointer x0)), (1, (.string x1)), (2, (.int .i64 x2))] ∧ F.spateref6_Table_Put.j1 Q x0 x1 x2 h) ?_ ?_
  · rintro L' h ⟨x0, x1, x2, rfl, H⟩
    unfold F.spateref6_Table_Put.j1 at H
    refine tr_seq_j (fun L' h => ∃ (x0 : Option Addr) (x1 : ByteArray) (x2 : Int), L' = [(0, (.pointer x0)), (1, (.string x1)), (2, (.int .i64 x2))] ∧ F.spateref6_Table_Put.j2 Q x0 x1 x2 h) ?_ ?_
    · rintro L' h ⟨x0, x1, x2, rfl, H⟩
      unfold F.spateref6_Table_Put.j2 at H
      refine tr_seq ?_
      refine tr_region ?_
      refine tr_p (y_move rfl) rfl rfl ?_
      obtain ⟨a7, e8, H⟩ := H
      refine tr_p (f_nn rfl e8) rfl rfl ?_
      refine tr_p (y_fa (off := 0) Try.runUnderlying104 fo_104_0 rfl) rfl rfl ?_
      obtain ⟨y9, k10, H⟩ := H
      refine tr_h (y_ld Try.isAgg102 rfl) k10 rfl rfl ?_
      refine tr_p (y_move rfl) rfl rfl ?_
      refine tr_e (e_call Try.call73 rfl (F.spateref6_find_ok H)) rfl rfl ?_
      rintro _ h11 ⟨r12, r13, rfl, H⟩
      refine tr_p (y_move rfl) rfl rfl ?_
      refine tr_p (y_ext rfl rfl) rfl rfl ?_
      refine tr_p (y_ext rfl rfl) rfl rfl ?_
      refine tr_p (y_assign rfl) rfl rfl ?_
      refine tr_nil ?_
      refine tr_thenN ?_
      refine tr_seq ?_
      refine tr_region ?_
      refine tr_p (y_move rfl) rfl rfl ?_
      obtain ⟨a14, e15, H⟩ := H
      refine tr_p (f_nn rfl e15) rfl rfl ?_
      refine tr_p (y_fa (off := 0) Try.runUnderlying104 fo_104_0 rfl) rfl rfl ?_
      obtain ⟨y16, k17, H⟩ := H
      refine tr_h (y_ld Try.isAgg102 rfl) k17 rfl rfl ?_
      refine tr_p (y_move rfl) rfl rfl ?_
      refine tr_p (y_move rfl) rfl rfl ?_
      refine tr_p (y_move rfl) rfl rfl ?_
      refine tr_p (f_build rfl (bd_114_0_2_3 true x1 x2)) rfl rfl ?_
      obtain ⟨a18, e19, H⟩ := H
      refine tr_p (f_idx (s := y16) Try.runUnderlying102 Try.sizeOf114 rfl rfl e19) rfl rfl ?_
      refine tr_e (f_store (vs := (⟨true, false, x1, x2⟩ : S_spateref6_Place).cells) Try.sizeOf114 rfl rfl cellsOfStruct rfl (by intro v hv; exact ones_S_spateref6_Place _ v hv) H) rfl rfl ?_
      rintro _ h20 ⟨rfl, H⟩
      refine tr_nil ?_
      refine tr_thenN ?_
      refine tr_region ?_
      refine tr_p (y_move rfl) rfl rfl ?_
      obtain ⟨a21, e22, H⟩ := H
      refine tr_p (f_nn rfl e22) rfl rfl ?_
      refine tr_p (y_fa (off := 3) Try.runUnderlying104 fo_104_3 rfl) rfl rfl ?_
      obtain ⟨y23, k24, H⟩ := H
      refine tr_h (y_ld Try.isAgg3 rfl) k24 rfl rfl ?_
      refine tr_p (y_add rfl rfl) rfl rfl ?_
      obtain ⟨a25, e26, H⟩ := H
      refine tr_p (f_nn rfl e26) rfl rfl ?_
      refine tr_p (y_fa (off := 3) Try.runUnderlying104 fo_104_3 rfl) rfl rfl ?_
      refine tr_e (f_store (vs := [(.int .i64 (IntKind.wrap .i64 (y23 + 1)))]) Try.sizeOf3 rfl rfl rfl rfl (one1 rfl) H) rfl rfl ?_
      rintro _ h27 ⟨rfl, H⟩
      refine tr_nil ?_
      exact tr_end0 rfl ⟨rfl, H⟩
    · refine tr_seq ?_
      refine tr_draw mixed [0, 1, 3, 7, 15, 31, 0, 64, 192, 448, 960, 1984, 4095] (by kernel_rfl) ?_
      refine g_p 0 1 rfl (by kernel_rfl) (y_move rfl) rfl rfl ?_
      obtain ⟨a28, e29, H⟩ := H
      refine g_p 1 3 rfl (by kernel_rfl) (f_nn rfl e29) rfl rfl ?_
      refine g_p 2 7 rfl (by kernel_rfl) (y_fa (off := 3) Try.runUnderlying104 fo_104_3 rfl) rfl rfl ?_
      obtain ⟨y30, k31, H⟩ := H
      refine g_h 3 15 rfl (by kernel_rfl) (y_ld Try.isAgg3 rfl) k31 rfl rfl ?_
      refine g_p 4 31 rfl (by kernel_rfl) (y_add rfl rfl) rfl rfl ?_
      refine g_p 5 63 rfl (by kernel_rfl) (y_mul rfl rfl) rfl rfl ?_
      refine g_p 6 127 rfl (by kernel_rfl) (y_move rfl) rfl rfl ?_
      obtain ⟨a32, e33, H⟩ := H
      refine g_p 7 255 rfl (by kernel_rfl) (f_nn rfl e33) rfl rfl ?_
      refine g_p 8 511 rfl (by kernel_rfl) (y_fa (off := 0) Try.runUnderlying104 fo_104_0 rfl) rfl rfl ?_
      obtain ⟨y34, k35, H⟩ := H
      refine g_h 9 1023 rfl (by kernel_rfl) (y_ld Try.isAgg102 rfl) k35 rfl rfl ?_
      refine g_p 10 2047 rfl (by kernel_rfl) (y_len (ts := #[]) Try.runUnderlying102 (o := y34.ptr) (n := y34.len) (cap := y34.cap) rfl) rfl rfl ?_
      refine g_p 11 4095 rfl (by kernel_rfl) (y_mul rfl rfl) rfl rfl ?_
      refine g_p 12 8191 rfl (by kernel_rfl) (y_gtr rfl rfl) rfl rfl ?_
      refine g_d (by kernel_rfl) ?_
      refine tr_thenN ?_
      refine tr_cond rfl (fun g36 => ?_) (fun g36 => ?_)
      · replace H := H.1 g36
        refine tr_seq ?_
        refine tr_region ?_
        refine tr_p (y_move rfl) rfl rfl ?_
        refine tr_p (y_move rfl) rfl rfl ?_
        refine tr_e (e_call Try.call72 rfl (F.spateref6_Table_Left_ok H)) rfl rfl ?_
        rintro _ h37 ⟨r38, rfl, H⟩
        refine tr_e (e_call Try.call60 rfl (F.spateref6_Table_Move_ok H)) rfl rfl ?_
        rintro _ h39 ⟨r40, rfl, H⟩
        refine tr_nil ?_
        refine tr_thenN ?_
        refine tr_seq ?_
        refine tr_region ?_
        refine tr_p (y_move rfl) rfl rfl ?_
        refine tr_p (y_move rfl) rfl rfl ?_
        obtain ⟨a41, e42, H⟩ := H
        refine tr_p (f_nn rfl e42) rfl rfl ?_
        refine tr_p (y_fa (off := 0) Try.runUnderlying104 fo_104_0 rfl) rfl rfl ?_
        obtain ⟨y43, k44, H⟩ := H
        refine tr_h (y_ld Try.isAgg102 rfl) k44 rfl rfl ?_
        obtain ⟨a45, e46, H⟩ := H
        refine tr_p (f_nn rfl e46) rfl rfl ?_
        refine tr_p (y_fa (off := 1) Try.runUnderlying104 fo_104_1 rfl) rfl rfl ?_
        refine tr_e (f_store (vs := [y43.enc]) Try.sizeOf102 rfl rfl rfl rfl (one1 rfl) H) rfl rfl ?_
        rintro _ h47 ⟨rfl, H⟩
        refine tr_nil ?_
        refine tr_thenN ?_
        refine tr_seq ?_
        refine tr_region ?_
        refine tr_p (y_move rfl) rfl rfl ?_
        obtain ⟨a48, e49, H⟩ := H
        refine tr_p (f_nn rfl e49) rfl rfl ?_
        refine tr_p (y_fa (off := 2) Try.runUnderlying104 fo_104_2 rfl) rfl rfl ?_
        refine tr_e (f_store (vs := [(.int .i64 0)]) Try.sizeOf3 rfl rfl rfl rfl (one1 rfl) H) rfl rfl ?_
        rintro _ h50 ⟨rfl, H⟩
        refine tr_nil ?_
        refine tr_thenN ?_
        refine tr_region ?_
        refine tr_p (y_move rfl) rfl rfl ?_
        refine tr_p (y_move rfl) rfl rfl ?_
        obtain ⟨a51, e52, H⟩ := H
        refine tr_p (f_nn rfl e52) rfl rfl ?_
        refine tr_p (y_fa (off := 1) Try.runUnderlying104 fo_104_1 rfl) rfl rfl ?_
        obtain ⟨y53, k54, H⟩ := H
        refine tr_h (y_ld Try.isAgg102 rfl) k54 rfl rfl ?_
        refine tr_p (y_len (ts := #[]) Try.runUnderlying102 (o := y53.ptr) (n := y53.len) (cap := y53.cap) rfl) rfl rfl ?_
        refine tr_p (y_mul rfl rfl) rfl rfl ?_
        refine tr_e (f_make rfl rfl H) rfl rfl ?_
        rintro _ h55 ⟨s56, rfl, H⟩
        obtain ⟨a57, e58, H⟩ := H
        refine tr_p (f_nn rfl e58) rfl rfl ?_
        refine tr_p (y_fa (off := 0) Try.runUnderlying104 fo_104_0 rfl) rfl rfl ?_
        refine tr_e (f_store (vs := [s56.enc]) Try.sizeOf102 rfl rfl rfl rfl (one1 rfl) H) rfl rfl ?_
        rintro _ h59 ⟨rfl, H⟩
        refine tr_nil ?_
        refine tr_thenN ?_
        exact tr_join [(0, (.pointer x0)), (1, (.string x1)), (2, (.int .i64 x2))] ⟨rfl, rfl, rfl, trivial⟩ ⟨_, _, _, rfl, H⟩
      · replace H := H.2 g36
        refine tr_skip ?_
        refine tr_thenN ?_
        exact tr_join [(0, (.pointer x0)), (1, (.string x1)), (2, (.int .i64 x2))] ⟨rfl, rfl, rfl, trivial⟩ ⟨_, _, _, rfl, H⟩
  · refine tr_block ?_
    refine tr_seq_j (fun L' h => ∃ (x0 : Option Addr) (x1 : ByteArray) (x2 : Int) (x6 : Int) (x8 : Bool) (x18 : Bool), L' = [(0, (.pointer x0)), (1, (.string x1)), (2, (.int .i64 x2)), (6, (.int .i64 x6)), (8, (.bool x8)), (18, (.bool x18))] ∧ F.spateref6_Table_Put.j3 Q x0 x1 x2 x6 x8 x18 h) ?_ ?_
    · rintro L' h ⟨x0, x1, x2, x6, x8, x18, rfl, H⟩
      unfold F.spateref6_Table_Put.j3 at H
      refine tr_cond rfl (fun g60 => ?_) (fun g60 => ?_)
      · replace H := H.1 g60
        refine tr_seq ?_
        refine tr_region ?_
        refine tr_p (y_move rfl) rfl rfl ?_
        obtain ⟨a61, e62, H⟩ := H
        refine tr_p (f_nn rfl e62) rfl rfl ?_
        refine tr_p (y_fa (off := 1) Try.runUnderlying104 fo_104_1 rfl) rfl rfl ?_
        obtain ⟨y63, k64, H⟩ := H
        refine tr_h (y_ld Try.isAgg102 rfl) k64 rfl rfl ?_
        refine tr_p (y_move rfl) rfl rfl ?_
        refine tr_p (y_move rfl) rfl rfl ?_
        obtain ⟨a65, e66, H⟩ := H
        refine tr_p (f_idx (s := y63) Try.runUnderlying102 Try.sizeOf114 rfl rfl e66) rfl rfl ?_
        refine tr_p (y_fa (off := 3) Try.runUnderlying114 fo_114_3 rfl) rfl rfl ?_
        refine tr_e (f_store (vs := [(.int .i64 x2)]) Try.sizeOf3 rfl rfl rfl rfl (one1 rfl) H) rfl rfl ?_
        rintro _ h67 ⟨rfl, H⟩
        refine tr_nil ?_
        refine tr_thenN ?_
        refine tr_ret ?_
        refine tr_blockR ?_
        refine tr_thenR ?_
        exact tr_ret0 rfl ⟨rfl, H⟩
      · replace H := H.2 g60
        refine tr_seq ?_
        refine tr_region ?_
        refine tr_p (y_move rfl) rfl rfl ?_
        refine tr_p (y_assign rfl) rfl rfl ?_
        refine tr_nil ?_
        refine tr_thenN ?_
        refine tr_cond rfl (fun g68 => ?_) (fun g68 => ?_)
        · replace H := H.1 g68
          refine tr_seq ?_
          refine tr_region ?_
          refine tr_p (y_move rfl) rfl rfl ?_
          obtain ⟨a69, e70, H⟩ := H
          refine tr_p (f_nn rfl e70) rfl rfl ?_
          refine tr_p (y_fa (off := 0) Try.runUnderlying104 fo_104_0 rfl) rfl rfl ?_
          obtain ⟨y71, k72, H⟩ := H
          refine tr_h (y_ld Try.isAgg102 rfl) k72 rfl rfl ?_
          refine tr_p (y_move rfl) rfl rfl ?_
          refine tr_p (y_move rfl) rfl rfl ?_
          obtain ⟨a73, e74, H⟩ := H
          refine tr_p (f_idx (s := y71) Try.runUnderlying102 Try.sizeOf114 rfl rfl e74) rfl rfl ?_
          refine tr_p (y_fa (off := 3) Try.runUnderlying114 fo_114_3 rfl) rfl rfl ?_
          refine tr_e (f_store (vs := [(.int .i64 x2)]) Try.sizeOf3 rfl rfl rfl rfl (one1 rfl) H) rfl rfl ?_
          rintro _ h75 ⟨rfl, H⟩
          refine tr_nil ?_
          refine tr_thenN ?_
          refine tr_ret ?_
          refine tr_blockR ?_
          refine tr_thenR ?_
          exact tr_ret0 rfl ⟨rfl, H⟩
        · replace H := H.2 g68
          refine tr_skip ?_
          refine tr_blockN ?_
          refine tr_thenN ?_
          exact tr_join [(0, (.pointer x0)), (1, (.string x1)), (2, (.int .i64 x2))] ⟨rfl, rfl, rfl, trivial⟩ ⟨_, _, _, rfl, H⟩
    · refine tr_region ?_
      refine tr_p (y_move rfl) rfl rfl ?_
      refine tr_p (y_move rfl) rfl rfl ?_
      refine tr_split (t := 20) rfl (fun g76 => ?_) (fun g76 => ?_)
      · replace H := H.1 g76
        refine tr_p (y_move rfl) rfl rfl ?_
        refine tr_p (y_pick_t rfl rfl) rfl rfl ?_
        refine tr_p (y_assign rfl) rfl rfl ?_
        refine tr_nil ?_
        refine tr_thenN ?_
        exact tr_join [(0, (.pointer p0)), (1, (.string p1)), (2, (.int .i64 p2)), (6, (.int .i64 r4)), (8, (.bool r6)), (18, (.bool r5))] ⟨rfl, rfl, rfl, rfl, rfl, rfl, trivial⟩ ⟨_, _, _, _, _, _, rfl, H⟩
      · replace H := H.2 g76
        refine tr_s rfl rfl ?_
        refine tr_p (y_pick_f rfl rfl) rfl rfl ?_
        refine tr_p (y_assign rfl) rfl rfl ?_
        refine tr_nil ?_
        refine tr_thenN ?_
        exact tr_join [(0, (.pointer p0)), (1, (.string p1)), (2, (.int .i64 p2)), (6, (.int .i64 r4)), (8, (.bool r6)), (18, (.bool false))] ⟨rfl, rfl, rfl, rfl, rfl, rfl, trivial⟩ ⟨_, _, _, _, _, _, rfl, H⟩

/-- spate/spateref6.behind -/
def F.spateref6_behind (p0 : Int) (p1 : Int) (p2 : Int) (h : H) (Q : Bool → H → Prop) : Prop :=
  ((decide (p0 < p2)) = true →
  ((decide (p1 > p0)) = true →
  Q (decide (p1 ≤ p2)) h) ∧
  ((decide (p1 > p0)) = false →
  Q false h)) ∧
  ((decide (p0 < p2)) = false →
  ((decide (p1 > p0)) = true →
  Q true h) ∧
  ((decide (p1 > p0)) = false →
  Q (decide (p1 ≤ p2)) h))
theorem F.spateref6_behind_ok {p0 : Int} {p1 : Int} {p2 : Int} {h : H} {Q : Bool → H → Prop} (H : F.spateref6_behind p0 p1 p2 h Q) : Fn PP 74 ([(.int .i64 p0), (.int .i64 p1), (.int .i64 p2)] : List Value).toArray h fun r h' => ∃ r0, r = (.bool r0) ∧ Q r0 h' := by
  unfold F.spateref6_behind at H
  refine fn_of Try.func74 Try.ntmps74 rfl rfl fun w0 => ?_
  refine tr_sub [(0, (.int .i64 p0)), (1, (.int .i64 p1)), (2, (.int .i64 p2))] ⟨rfl, rfl, rfl, trivial⟩ ?_
  refine tr_seq ?_
  refine tr_region ?_
  refine tr_p (y_assign rfl) rfl rfl ?_
  refine tr_nil ?_
  refine tr_thenN ?_
  refine tr_seq ?_
  refine tr_seq ?_
  refine tr_region ?_
  refine tr_p (y_move rfl) rfl rfl ?_
  refine tr_p (y_move rfl) rfl rfl ?_
  refine tr_p (y_lss rfl rfl) rfl rfl ?_
  refine tr_nil ?_
  refine tr_thenN ?_
  refine tr_cond rfl (fun g1 => ?_) (fun g1 => ?_)
  · replace H := H.1 g1
    refine tr_seq ?_
    refine tr_region ?_
    refine tr_p (y_move rfl) rfl rfl ?_
    refine tr_p (y_move rfl) rfl rfl ?_
    refine tr_p (y_gtr rfl rfl) rfl rfl ?_
    refine tr_p (y_move rfl) rfl rfl ?_
    refine tr_split (t := 13) rfl (fun g2 => ?_) (fun g2 => ?_)
    · replace H := H.1 g2
      refine tr_p (y_move rfl) rfl rfl ?_
      refine tr_p (y_move rfl) rfl rfl ?_
      refine tr_p (y_leq rfl rfl) rfl rfl ?_
      refine tr_p (y_pick_t rfl rfl) rfl rfl ?_
      refine tr_p (y_assign rfl) rfl rfl ?_
      refine tr_nil ?_
      refine tr_thenN ?_
      refine tr_ret ?_
      refine tr_thenR ?_
      exact tr_ret1 rfl rfl ⟨_, rfl, H⟩
    · replace H := H.2 g2
      refine tr_s rfl rfl ?_
      refine tr_s rfl rfl ?_
      refine tr_s rfl rfl ?_
      refine tr_p (y_pick_f rfl rfl) rfl rfl ?_
      refine tr_p (y_assign rfl) rfl rfl ?_
      refine tr_nil ?_
      refine tr_thenN ?_
      refine tr_ret ?_
      refine tr_thenR ?_
      exact tr_ret1 rfl rfl ⟨_, rfl, H⟩
  · replace H := H.2 g1
    refine tr_skip ?_
    refine tr_thenN ?_
    refine tr_seq ?_
    refine tr_region ?_
    refine tr_p (y_move rfl) rfl rfl ?_
    refine tr_p (y_move rfl) rfl rfl ?_
    refine tr_p (y_gtr rfl rfl) rfl rfl ?_
    refine tr_p (y_move rfl) rfl rfl ?_
    refine tr_split (t := 21) rfl (fun g3 => ?_) (fun g3 => ?_)
    · replace H := H.1 g3
      refine tr_s rfl rfl ?_
      refine tr_s rfl rfl ?_
      refine tr_s rfl rfl ?_
      refine tr_p (y_pick_t rfl rfl) rfl rfl ?_
      refine tr_p (y_assign rfl) rfl rfl ?_
      refine tr_nil ?_
      refine tr_thenN ?_
      refine tr_ret ?_
      exact tr_ret1 rfl rfl ⟨_, rfl, H⟩
    · replace H := H.2 g3
      refine tr_p (y_move rfl) rfl rfl ?_
      refine tr_p (y_move rfl) rfl rfl ?_
      refine tr_p (y_leq rfl rfl) rfl rfl ?_
      refine tr_p (y_pick_f rfl rfl) rfl rfl ?_
      refine tr_p (y_assign rfl) rfl rfl ?_
      refine tr_nil ?_
      refine tr_thenN ?_
      refine tr_ret ?_
      exact tr_ret1 rfl rfl ⟨_, rfl, H⟩

end Go.Proofs.Ytkedkajdiclmjaa.V
