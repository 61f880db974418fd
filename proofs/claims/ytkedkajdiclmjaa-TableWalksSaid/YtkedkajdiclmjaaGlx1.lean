/- Printed by a program of this session (gen.py): Go functions as Lean functions over the heap, and that the Go code does what they say; no condition. -/
import Derived.Test.YtkedkajdiclmjaaGlx0
namespace Go.Proofs.Ytkedkajdiclmjaa.V
open Go
set_option linter.unusedVariables false
set_option maxRecDepth 100000
def F.table_Table_int_All.l2 (Q : Value → H → Prop) (C1 : Addr → Sl → Int → Int → H → Prop) : Nat → Addr → Sl → Int → Int → Sl → Int → Int → H → Prop
  | 0, _, _, _, _, _, _, _, _ => False
  | q2 + 1, x3, x22, x23, x24, x28, x29, x30, h =>
    ((decide (x30 < x29)) = true →
    idxA x28 x30 3 fun a26 =>
    ld_S_table_place_int h a26 fun y28 =>
    new h (((⟨0, (⟨#[]⟩ : ByteArray), 0⟩ : S_table_place_int) : S_table_place_int).cells.toArray) ty_77 fun a31 h30 =>
    stH h30 a31 y28.cells fun h32 =>
    ldI .u8 h32 (a31.add 0) fun y33 =>
    (((y33 == 1)) = true →
    ldV h32 x3 fun y36 =>
    ldS h32 (a31.add 1) fun y38 =>
    ldI .i64 h32 (a31.add 2) fun y40 =>
    RunS PP (Instr.mapUpdate 50 y36 (.string y38) (.int .i64 y40)) h32 fun _ h42 =>
    (F.table_Table_int_All.l2 Q C1 q2) x3 x22 x23 x24 x28 x29 (IntKind.wrap .i64 (x30 + 1)) h42) ∧
    (((y33 == 1)) = false →
    (F.table_Table_int_All.l2 Q C1 q2) x3 x22 x23 x24 x28 x29 (IntKind.wrap .i64 (x30 + 1)) h32)) ∧
    ((decide (x30 < x29)) = false →
    C1 x3 x22 x23 (IntKind.wrap .i64 (x24 + 1)) h)
def F.table_Table_int_All.l1 (Q : Value → H → Prop) : Nat → Addr → Sl → Int → Int → H → Prop
  | 0, _, _, _, _, _ => False
  | q1 + 1, x3, x22, x23, x24, h =>
    ((decide (x24 < x23)) = true →
    idxA x22 x24 1 fun a21 =>
    ldL h a21 fun y23 =>
    ∃ m, F.table_Table_int_All.l2 Q (F.table_Table_int_All.l1 Q q1) m x3 x22 x23 x24 y23 (y23.len : Int) 0 h) ∧
    ((decide (x24 < x23)) = false →
    ldV h x3 fun y44 =>
    F.maps_Keys_map_string_int_string_int y44 h fun r47 h46 =>
    F.slices_Sorted_string r47 h46 fun r49 h48 =>
    new h48 #[(⟨none, 0, 0⟩ : Sl).enc] ty_37 fun a51 h50 =>
    stH h50 a51 [r49.enc] fun h52 =>
    Q (.func (.func 52) #[] #[(.pointer (some a51)), (.pointer (some x3))]) h52)
/-- (*spate/table.Table[int]).All -/
def F.table_Table_int_All (p0 : Option Addr) (h : H) (Q : Value → H → Prop) : Prop :=
  nn p0 fun a1 =>
  ldI .i64 h (a1.add 3) fun y3 =>
  RunS PP (Instr.makeMap 50 (some (.int .i64 y3))) h fun m6 h5 =>
  new h5 #[(.map none)] ty_50 fun a8 h7 =>
  m6.cells = #[m6] ∧
  m6.oneCell' = true ∧
  stH h7 a8 [m6] fun h9 =>
  nn p0 fun a10 =>
  ldL h9 (a10.add 0) fun y12 =>
  nn p0 fun a14 =>
  ldL h9 (a14.add 1) fun y16 =>
  newL h9 #[y12.enc, y16.enc] ty_71 2 fun s19 h18 =>
  ∃ m, F.table_Table_int_All.l1 Q m a8 s19 (s19.len : Int) 0 h18
theorem F.table_Table_int_All_ok {p0 : Option Addr} {h : H} {Q : Value → H → Prop} (H : F.table_Table_int_All p0 h Q) : Fn PP 29 ([(.pointer p0)] : List Value).toArray h fun r h' => ∃ r0, r = r0 ∧ Q r0 h' := by
  unfold F.table_Table_int_All at H
  refine fn_of Try.func29 Try.ntmps29 rfl rfl fun w0 => ?_
  refine tr_sub [(0, (.pointer p0))] ⟨rfl, trivial⟩ ?_
  refine tr_seq ?_
  refine tr_region ?_
  refine tr_p (y_assign rfl) rfl rfl ?_
  refine tr_nil ?_
  refine tr_thenN ?_
  refine tr_seq ?_
  refine tr_region ?_
  refine tr_p (y_move rfl) rfl rfl ?_
  obtain ⟨a1, e2, H⟩ := H
  refine tr_p (f_nn rfl e2) rfl rfl ?_
  refine tr_p (y_fa (off := 3) Try.runUnderlying73 fo_73_3 rfl) rfl rfl ?_
  obtain ⟨y3, k4, H⟩ := H
  refine tr_h (y_ld Try.isAgg3 rfl) k4 rfl rfl ?_
  refine tr_e (f_mkS rfl H) rfl rfl ?_
  rintro m6 h5 H
  refine tr_e (f_alloc (cs := #[(.map none)]) Try.zeroValue50 rfl H) rfl rfl ?_
  rintro _ h7 ⟨a8, rfl, H⟩
  refine tr_e (f_store (vs := [m6]) Try.sizeOf50 rfl rfl (congrArg Array.toList H.1) rfl (one1 H.2.1) H.2.2) rfl rfl ?_
  rintro _ h9 ⟨rfl, H⟩
  refine tr_nil ?_
  refine tr_thenN ?_
  refine tr_seq ?_
  refine tr_seq ?_
  refine tr_draw mixed [0, 1, 3, 7, 0, 16, 48, 112, 255, 511, 0] (by kernel_rfl) ?_
  refine g_p 0 1 rfl (by kernel_rfl) (y_move rfl) rfl rfl ?_
  obtain ⟨a10, e11, H⟩ := H
  refine g_p 1 3 rfl (by kernel_rfl) (f_nn rfl e11) rfl rfl ?_
  refine g_p 2 7 rfl (by kernel_rfl) (y_fa (off := 0) Try.runUnderlying73 fo_73_0 rfl) rfl rfl ?_
  obtain ⟨y12, k13, H⟩ := H
  refine g_h 3 15 rfl (by kernel_rfl) (y_ld Try.isAgg71 rfl) k13 rfl rfl ?_
  refine g_p 4 31 rfl (by kernel_rfl) (y_move rfl) rfl rfl ?_
  obtain ⟨a14, e15, H⟩ := H
  refine g_p 5 63 rfl (by kernel_rfl) (f_nn rfl e15) rfl rfl ?_
  refine g_p 6 127 rfl (by kernel_rfl) (y_fa (off := 1) Try.runUnderlying73 fo_73_1 rfl) rfl rfl ?_
  obtain ⟨y16, k17, H⟩ := H
  refine g_h 7 255 rfl (by kernel_rfl) (y_ld Try.isAgg71 rfl) k17 rfl rfl ?_
  refine g_p 10 1279 rfl (by kernel_rfl) (y_move rfl) rfl rfl ?_
  refine g_e 8 1535 [] (by kernel_rfl) rfl (by kernel_rfl) (f_buildL (cs := #[y12.enc, y16.enc]) rfl rfl (bl_81_2_0_1 y12 y16) H) rfl rfl ?_
  rintro _ h18 ⟨s19, rfl, H⟩
  refine ⟨trivial, ?_⟩
  refine g_p 9 2047 rfl (by kernel_rfl) (y_len (ts := #[]) Try.runUnderlying81 (o := s19.ptr) (n := s19.len) (cap := s19.cap) rfl) rfl rfl ?_
  refine g_d (by kernel_rfl) ?_
  refine tr_thenN ?_
  refine tr_block ?_
  obtain ⟨m53, H⟩ := H
  refine tr_sub [(3, (.pointer (some a8))), (22, s19.enc), (23, (.int .i64 (s19.len : Int))), (24, (.int .i64 0))] ⟨rfl, rfl, rfl, rfl, trivial⟩ ?_
  refine tr_loop_j (fun m L' h => ∃ (x3 : Addr) (x22 : Sl) (x23 : Int) (x24 : Int), L' = [(3, (.pointer (some x3))), (22, x22.enc), (23, (.int .i64 x23)), (24, (.int .i64 x24))] ∧ F.table_Table_int_All.l1 Q m x3 x22 x23 x24 h) ?_ ?_ m53 ⟨_, _, _, _, rfl, H⟩
  · rintro L' h ⟨_, _, _, _, _, H⟩; exact H
  · rintro q1 L' h ⟨x3, x22, x23, x24, rfl, H⟩
    unfold F.table_Table_int_All.l1 at H
    refine tr_seq ?_
    refine tr_region ?_
    refine tr_p (y_lss rfl rfl) rfl rfl ?_
    refine tr_nil ?_
    refine tr_thenN ?_
    refine tr_seq ?_
    refine tr_cond rfl (fun g20 => ?_) (fun g20 => ?_)
    · replace H := H.1 g20
      refine tr_skip ?_
      refine tr_thenN ?_
      refine tr_seq ?_
      refine tr_block ?_
      refine tr_seq ?_
      refine tr_region ?_
      obtain ⟨a21, e22, H⟩ := H
      refine tr_p (f_idx (s := x22) Try.runUnderlying81 Try.sizeOf71 rfl rfl e22) rfl rfl ?_
      obtain ⟨y23, k24, H⟩ := H
      refine tr_h (y_ld Try.isAgg71 rfl) k24 rfl rfl ?_
      refine tr_p (y_assign rfl) rfl rfl ?_
      refine tr_nil ?_
      refine tr_thenN ?_
      refine tr_seq ?_
      refine tr_region ?_
      refine tr_p (y_move rfl) rfl rfl ?_
      refine tr_p (y_len (ts := #[]) Try.runUnderlying71 (o := y23.ptr) (n := y23.len) (cap := y23.cap) rfl) rfl rfl ?_
      refine tr_p (y_move rfl) rfl rfl ?_
      refine tr_nil ?_
      refine tr_thenN ?_
      refine tr_block ?_
      obtain ⟨m43, H⟩ := H
      refine tr_sub [(3, (.pointer (some x3))), (22, x22.enc), (23, (.int .i64 x23)), (24, (.int .i64 x24)), (28, y23.enc), (29, (.int .i64 (y23.len : Int))), (30, (.int .i64 0))] ⟨rfl, rfl, rfl, rfl, rfl, rfl, rfl, trivial⟩ ?_
      refine tr_loop_j (fun m L' h => ∃ (x3 : Addr) (x22 : Sl) (x23 : Int) (x24 : Int) (x28 : Sl) (x29 : Int) (x30 : Int), L' = [(3, (.pointer (some x3))), (22, x22.enc), (23, (.int .i64 x23)), (24, (.int .i64 x24)), (28, x28.enc), (29, (.int .i64 x29)), (30, (.int .i64 x30))] ∧ F.table_Table_int_All.l2 Q (F.table_Table_int_All.l1 Q q1) m x3 x22 x23 x24 x28 x29 x30 h) ?_ ?_ m43 ⟨_, _, _, _, _, _, _, rfl, H⟩
      · rintro L' h ⟨_, _, _, _, _, _, _, _, H⟩; exact H
      · rintro q2 L' h ⟨x3, x22, x23, x24, x28, x29, x30, rfl, H⟩
        unfold F.table_Table_int_All.l2 at H
        refine tr_seq ?_
        refine tr_region ?_
        refine tr_p (y_lss rfl rfl) rfl rfl ?_
        refine tr_nil ?_
        refine tr_thenN ?_
        refine tr_seq ?_
        refine tr_cond rfl (fun g25 => ?_) (fun g25 => ?_)
        · replace H := H.1 g25
          refine tr_skip ?_
          refine tr_thenN ?_
          refine tr_seq ?_
          refine tr_block ?_
          refine tr_seq ?_
          refine tr_region ?_
          obtain ⟨a26, e27, H⟩ := H
          refine tr_p (f_idx (s := x28) Try.runUnderlying71 Try.sizeOf77 rfl rfl e27) rfl rfl ?_
          obtain ⟨y28, k29, H⟩ := H
          refine tr_h (y_ldS Try.isAgg77 Try.sizeOf77 rfl rfl) k29 rfl rfl ?_
          refine tr_e (f_alloc (cs := ((⟨0, (⟨#[]⟩ : ByteArray), 0⟩ : S_table_place_int) : S_table_place_int).cells.toArray) Try.zeroValue77 rfl H) rfl rfl ?_
          rintro _ h30 ⟨a31, rfl, H⟩
          refine tr_e (f_store (vs := y28.cells) Try.sizeOf77 rfl rfl cellsOfStruct rfl (by intro v hv; exact ones_S_table_place_int _ v hv) H) rfl rfl ?_
          rintro _ h32 ⟨rfl, H⟩
          refine tr_nil ?_
          refine tr_thenN ?_
          refine tr_seq ?_
          refine tr_region ?_
          refine tr_p (y_fa (off := 0) Try.runUnderlying77 fo_77_0 rfl) rfl rfl ?_
          obtain ⟨y33, k34, H⟩ := H
          refine tr_h (y_ld Try.isAgg5 rfl) k34 rfl rfl ?_
          refine tr_p (y_eql rfl rfl) rfl rfl ?_
          refine tr_nil ?_
          refine tr_thenN ?_
          refine tr_cond rfl (fun g35 => ?_) (fun g35 => ?_)
          · replace H := H.1 g35
            refine tr_region ?_
            obtain ⟨y36, k37, H⟩ := H
            refine tr_h (y_ld Try.isAgg50 rfl) k37 rfl rfl ?_
            refine tr_p (y_fa (off := 1) Try.runUnderlying77 fo_77_1 rfl) rfl rfl ?_
            obtain ⟨y38, k39, H⟩ := H
            refine tr_h (y_ld Try.isAgg9 rfl) k39 rfl rfl ?_
            refine tr_p (y_fa (off := 2) Try.runUnderlying77 fo_77_2 rfl) rfl rfl ?_
            obtain ⟨y40, k41, H⟩ := H
            refine tr_h (y_ld Try.isAgg3 rfl) k41 rfl rfl ?_
            refine tr_e (f_mu rfl rfl rfl H) rfl rfl ?_
            rintro _ h42 ⟨rfl, H⟩
            refine tr_nil ?_
            refine tr_blockN ?_
            refine tr_thenN ?_
            refine tr_region ?_
            refine tr_p (y_add rfl rfl) rfl rfl ?_
            refine tr_p (y_move rfl) rfl rfl ?_
            refine tr_nil ?_
            refine tr_thenN ?_
            exact tr_join [(3, (.pointer (some x3))), (22, x22.enc), (23, (.int .i64 x23)), (24, (.int .i64 x24)), (28, x28.enc), (29, (.int .i64 x29)), (30, (.int .i64 (IntKind.wrap .i64 (x30 + 1))))] ⟨rfl, rfl, rfl, rfl, rfl, rfl, rfl, trivial⟩ ⟨_, _, _, _, _, _, _, rfl, H⟩
          · replace H := H.2 g35
            refine tr_skip ?_
            refine tr_blockN ?_
            refine tr_thenN ?_
            refine tr_region ?_
            refine tr_p (y_add rfl rfl) rfl rfl ?_
            refine tr_p (y_move rfl) rfl rfl ?_
            refine tr_nil ?_
            refine tr_thenN ?_
            exact tr_join [(3, (.pointer (some x3))), (22, x22.enc), (23, (.int .i64 x23)), (24, (.int .i64 x24)), (28, x28.enc), (29, (.int .i64 x29)), (30, (.int .i64 (IntKind.wrap .i64 (x30 + 1))))] ⟨rfl, rfl, rfl, rfl, rfl, rfl, rfl, trivial⟩ ⟨_, _, _, _, _, _, _, rfl, H⟩
        · replace H := H.2 g25
          refine tr_exit ?_
          refine tr_thenE ?_
          refine tr_thenE ?_
          refine tr_hit ?_
          refine tr_blockN ?_
          refine tr_thenN ?_
          refine tr_region ?_
          refine tr_p (y_add rfl rfl) rfl rfl ?_
          refine tr_p (y_move rfl) rfl rfl ?_
          refine tr_nil ?_
          refine tr_thenN ?_
          exact tr_join [(3, (.pointer (some x3))), (22, x22.enc), (23, (.int .i64 x23)), (24, (.int .i64 (IntKind.wrap .i64 (x24 + 1))))] ⟨rfl, rfl, rfl, rfl, trivial⟩ ⟨_, _, _, _, rfl, H⟩
    · replace H := H.2 g20
      refine tr_exit ?_
      refine tr_thenE ?_
      refine tr_thenE ?_
      refine tr_hit ?_
      refine tr_thenN ?_
      refine tr_seq ?_
      refine tr_region ?_
      obtain ⟨y44, k45, H⟩ := H
      refine tr_h (y_ld Try.isAgg50 rfl) k45 rfl rfl ?_
      refine tr_e (e_call Try.call51 rfl (F.maps_Keys_map_string_int_string_int_ok H)) rfl rfl ?_
      rintro r47 h46 ⟨_, rfl, H⟩
      refine tr_e (e_call Try.call50 rfl (F.slices_Sorted_string_ok H)) rfl rfl ?_
      rintro _ h48 ⟨r49, rfl, H⟩
      refine tr_e (f_alloc (cs := #[(⟨none, 0, 0⟩ : Sl).enc]) Try.zeroValue37 rfl H) rfl rfl ?_
      rintro _ h50 ⟨a51, rfl, H⟩
      refine tr_e (f_store (vs := [r49.enc]) Try.sizeOf37 rfl rfl rfl rfl (one1 rfl) H) rfl rfl ?_
      rintro _ h52 ⟨rfl, H⟩
      refine tr_nil ?_
      refine tr_thenN ?_
      refine tr_seq ?_
      refine tr_region ?_
      refine tr_p (y_fn rfl rfl) rfl rfl ?_
      refine tr_p (y_assign rfl) rfl rfl ?_
      refine tr_nil ?_
      refine tr_thenN ?_
      refine tr_ret ?_
      exact tr_ret1 rfl rfl ⟨_, rfl, H⟩

def F.spatelaw6_TableSteps.j3 (Q : Bool → H → Prop) (C1 : List Nat → Sl → Sl → Addr → Addr → Bool → Int → H → Prop) (ds : List Nat) (x0 : Sl) (x1 : Sl) (x4 : Addr) (x5 : Addr) (x7 : Int) (h : H) : Prop :=
  ldP h x5 fun y15 =>
  F.table_Table_int_Slots y15 h fun r18 h17 =>
  ldP h17 x5 fun y19 =>
  idxA x0 x7 1 fun a21 =>
  ldS h17 a21 fun y23 =>
  F.table_Table_int_Put y19 y23 x7 h17 fun h25 =>
  ldP h25 x5 fun y26 =>
  F.table_Table_int_Slots y26 h25 fun r29 h28 =>
  C1 ds x0 x1 x4 x5 ((r29 != r18)) (IntKind.wrap .i64 (x7 + 1)) h28
def F.spatelaw6_TableSteps.j6 (Q : Bool → H → Prop) (C1 : List Nat → Sl → Addr → Addr → (Option Addr) → Int → Int → H → Prop) (ds : List Nat) (x1 : Sl) (x4 : Addr) (x5 : Addr) (x9 : Option Addr) (x10 : Int) (x11 : Int) (h : H) : Prop :=
  C1 ds x1 x4 x5 x9 x10 (IntKind.wrap .i64 (x11 + 1)) h
def F.spatelaw6_TableSteps.j10 (Q : Bool → H → Prop) (K1 : H → Prop) (J1 : Nat → H → Prop) (l1 : Nat) (x4 : Addr) (x110 : Bool) (h : H) : Prop :=
  (x110 = true →
  stH h x4 [(.bool false)] fun h62 =>
  J1 0 h62) ∧
  (x110 = false →
  K1 h)
def F.spatelaw6_TableSteps.j9 (Q : Bool → H → Prop) (C1 : List Nat → Sl → Addr → Addr → (Option Addr) → Int → Int → H → Prop) (ds : List Nat) (x1 : Sl) (x4 : Addr) (x5 : Addr) (x9 : Option Addr) (x10 : Int) (x11 : Int) (h : H) : Prop :=
  F.table_Table_int_All x9 h fun r54 h53 =>
  rng PP r54 h53 [Code.ret] (fun bg1 l1 args h K1 J1 => ∃ (y1_96 : ByteArray), ∃ (y1_97 : Int), args = [(.string y1_96), (.int .i64 y1_97)] ∧
    bg1 h fun h55 =>
    ldP h55 x5 fun y56 =>
    F.table_Table_int_Get y56 y1_96 h55 fun r59 r60 h58 =>
    ((!r60) = true →
    F.spatelaw6_TableSteps.j10 Q K1 J1 l1 x4 true h58) ∧
    ((!r60) = false →
    F.spatelaw6_TableSteps.j10 Q K1 J1 l1 x4 ((y1_97 != r59)) h58)) (fun h64 =>
    F.spatelaw6_TableSteps.j6 Q C1 (h53.size :: ds) x1 x4 x5 x9 x10 x11 h64) (fun jj h65 =>
    (jj = 0 →
      shuts (h53.size :: ds) h65 fun h66 =>
      ldB h66 x4 fun y67 =>
      Q y67 h66))
def F.spatelaw6_TableSteps.j11 (Q : Bool → H → Prop) (C1 : List Nat → Sl → Addr → Addr → (Option Addr) → Int → Int → H → Prop) (ds : List Nat) (x1 : Sl) (x4 : Addr) (x5 : Addr) (x9 : Option Addr) (x10 : Int) (x11 : Int) (x93 : Bool) (h : H) : Prop :=
  (x93 = true →
  stH h x4 [(.bool false)] fun h70 =>
  shuts ds h70 fun h71 =>
  ldB h71 x4 fun y72 =>
  Q y72 h71) ∧
  (x93 = false →
  F.spatelaw6_TableSteps.j9 Q C1 ds x1 x4 x5 x9 x10 x11 h)
def F.spatelaw6_TableSteps.j8 (Q : Bool → H → Prop) (C1 : List Nat → Sl → Addr → Addr → (Option Addr) → Int → Int → H → Prop) (ds : List Nat) (x1 : Sl) (x4 : Addr) (x5 : Addr) (x9 : Option Addr) (x10 : Int) (x11 : Int) (x12 : Int) (h : H) : Prop :=
  ldP h x5 fun y74 =>
  idxA x1 x11 1 fun a76 =>
  ldI .i64 h a76 fun y78 =>
  F.table_Table_int_Move y74 y78 h fun r81 h80 =>
  (((r81 != (IntKind.wrap .i64 (x10 - x12)))) = true →
  F.spatelaw6_TableSteps.j11 Q C1 ds x1 x4 x5 x9 (IntKind.wrap .i64 (x10 - x12)) x11 true h80) ∧
  (((r81 != (IntKind.wrap .i64 (x10 - x12)))) = false →
  ldP h80 x5 fun y83 =>
  F.table_Table_int_Len y83 h80 fun r86 h85 =>
  F.table_Table_int_Len x9 h85 fun r88 h87 =>
  F.spatelaw6_TableSteps.j11 Q C1 ds x1 x4 x5 x9 (IntKind.wrap .i64 (x10 - x12)) x11 ((r86 != r88)) h87)
def F.spatelaw6_TableSteps.j7 (Q : Bool → H → Prop) (C1 : List Nat → Sl → Addr → Addr → (Option Addr) → Int → Int → H → Prop) (ds : List Nat) (x1 : Sl) (x4 : Addr) (x5 : Addr) (x9 : Option Addr) (x10 : Int) (x11 : Int) (x12 : Int) (h : H) : Prop :=
  ((decide (x12 > x10)) = true →
  F.spatelaw6_TableSteps.j8 Q C1 ds x1 x4 x5 x9 x10 x11 x10 h) ∧
  ((decide (x12 > x10)) = false →
  F.spatelaw6_TableSteps.j8 Q C1 ds x1 x4 x5 x9 x10 x11 x12 h)
def F.spatelaw6_TableSteps.l5 (Q : Bool → H → Prop) : Nat → List Nat → Sl → Addr → Addr → (Option Addr) → Int → Int → H → Prop
  | 0, _, _, _, _, _, _, _, _ => False
  | q5 + 1, ds, x1, x4, x5, x9, x10, x11, h =>
    ((decide (x11 < (x1.len : Int))) = true →
    idxA x1 x11 1 fun a49 =>
    ldI .i64 h a49 fun y51 =>
    ((decide (y51 < 0)) = true →
    F.spatelaw6_TableSteps.j7 Q (F.spatelaw6_TableSteps.l5 Q q5) ds x1 x4 x5 x9 x10 x11 0 h) ∧
    ((decide (y51 < 0)) = false →
    F.spatelaw6_TableSteps.j7 Q (F.spatelaw6_TableSteps.l5 Q q5) ds x1 x4 x5 x9 x10 x11 y51 h)) ∧
    ((decide (x11 < (x1.len : Int))) = false →
    ldP h x5 fun y91 =>
    F.table_Table_int_Move y91 x10 h fun r94 h93 =>
    (((r94 == 0)) = true →
    ldP h93 x5 fun y96 =>
    F.table_Table_int_Left y96 h93 fun r99 h98 =>
    stH h98 x4 [(.bool ((r99 == 0)))] fun h100 =>
    shuts ds h100 fun h101 =>
    ldB h101 x4 fun y102 =>
    Q y102 h101) ∧
    (((r94 == 0)) = false →
    stH h93 x4 [(.bool false)] fun h104 =>
    shuts ds h104 fun h105 =>
    ldB h105 x4 fun y106 =>
    Q y106 h105))
def F.spatelaw6_TableSteps.j4 (Q : Bool → H → Prop) (C1 : List Nat → Sl → Sl → Addr → Addr → Bool → Int → H → Prop) (ds : List Nat) (x0 : Sl) (x1 : Sl) (x4 : Addr) (x5 : Addr) (x6 : Bool) (x7 : Int) (x35 : Bool) (h : H) : Prop :=
  (x35 = true →
  F.spatelaw6_TableSteps.j3 Q C1 ds x0 x1 x4 x5 x7 h) ∧
  (x35 = false →
  ((!x6) = true →
  ldP h x5 fun y32 =>
  F.table_Table_int_Left y32 h fun r35 h34 =>
  stH h34 x4 [(.bool ((r35 == 0)))] fun h36 =>
  shuts ds h36 fun h37 =>
  ldB h37 x4 fun y38 =>
  Q y38 h37) ∧
  ((!x6) = false →
  ldP h x5 fun y40 =>
  F.table_Table_int_Twin y40 h fun r43 h42 =>
  ldP h42 x5 fun y44 =>
  F.table_Table_int_Left y44 h42 fun r47 h46 =>
  ∃ m, F.spatelaw6_TableSteps.l5 Q m ds x1 x4 x5 r43 r47 0 h46))
def F.spatelaw6_TableSteps.l2 (Q : Bool → H → Prop) : Nat → List Nat → Sl → Sl → Addr → Addr → Bool → Int → H → Prop
  | 0, _, _, _, _, _, _, _, _ => False
  | q2 + 1, ds, x0, x1, x4, x5, x6, x7, h =>
    ((decide (x7 < (x0.len : Int))) = true →
    F.spatelaw6_TableSteps.j4 Q (F.spatelaw6_TableSteps.l2 Q q2) ds x0 x1 x4 x5 x6 x7 (!x6) h) ∧
    ((decide (x7 < (x0.len : Int))) = false →
    F.spatelaw6_TableSteps.j4 Q (F.spatelaw6_TableSteps.l2 Q q2) ds x0 x1 x4 x5 x6 x7 false h)
def F.spatelaw6_TableSteps.j1 (Q : Bool → H → Prop) (ds : List Nat) (x0 : Sl) (x1 : Sl) (x4 : Addr) (h : H) : Prop :=
  F.table_New_int  h fun r11 h10 =>
  new h10 #[(.pointer none)] ty_30 fun a13 h12 =>
  stH h12 a13 [(.pointer r11)] fun h14 =>
  ∃ m, F.spatelaw6_TableSteps.l2 Q m ds x0 x1 x4 a13 false 0 h14
def F.spatelaw6_TableSteps.j12 (Q : Bool → H → Prop) (ds : List Nat) (x0 : Sl) (x1 : Sl) (x4 : Addr) (x26 : Bool) (h : H) : Prop :=
  (x26 = true →
  stH h x4 [(.bool true)] fun h112 =>
  shuts ds h112 fun h113 =>
  ldB h113 x4 fun y114 =>
  Q y114 h113) ∧
  (x26 = false →
  F.spatelaw6_TableSteps.j1 Q ds x0 x1 x4 h)
/-- spate/spatelaw6.TableSteps -/
def F.spatelaw6_TableSteps (p0 : Sl) (p1 : Sl) (h : H) (Q : Bool → H → Prop) : Prop :=
  new h #[(.bool false)] ty_4 fun a2 h1 =>
  F.spatelaw6_known  h1 fun r4 h3 =>
  ((!r4) = true →
  stH h3 a2 [(.bool false)] fun h6 =>
  shuts ([] : List Nat) h6 fun h7 =>
  ldB h7 a2 fun y8 =>
  Q y8 h7) ∧
  ((!r4) = false →
  ((decide ((p0.len : Int) > 500)) = true →
  F.spatelaw6_TableSteps.j12 Q ([] : List Nat) p0 p1 a2 true h3) ∧
  ((decide ((p0.len : Int) > 500)) = false →
  F.spatelaw6_TableSteps.j12 Q ([] : List Nat) p0 p1 a2 (decide ((p1.len : Int) > 500)) h3))
theorem F.spatelaw6_TableSteps_ok {p0 : Sl} {p1 : Sl} {h : H} {Q : Bool → H → Prop} (H : F.spatelaw6_TableSteps p0 p1 h Q) : Fn PP 6 ([p0.enc, p1.enc] : List Value).toArray h fun r h' => ∃ r0, r = (.bool r0) ∧ Q r0 h' := by
  unfold F.spatelaw6_TableSteps at H
  refine fn_ofM Try.func6 Try.ntmps6 rfl rfl fun w0 => ?_
  refine tr_sub [(0, p0.enc), (1, p1.enc)] ⟨rfl, rfl, trivial⟩ ?_
  refine tr_seq ?_
  refine tr_region ?_
  refine tr_e (f_alloc (cs := #[(.bool false)]) Try.zeroValue4 rfl H) rfl rfl ?_
  rintro _ h1 ⟨a2, rfl, H⟩
  refine tr_nil ?_
  refine tr_thenN ?_
  refine tr_seq ?_
  refine tr_seq ?_
  refine tr_region ?_
  refine tr_e (e_call Try.call17 rfl (F.spatelaw6_known_ok H)) rfl rfl ?_
  rintro _ h3 ⟨r4, rfl, H⟩
  refine tr_p (y_not rfl) rfl rfl ?_
  refine tr_nil ?_
  refine tr_thenN ?_
  refine tr_cond rfl (fun g5 => ?_) (fun g5 => ?_)
  · replace H := H.1 g5
    refine tr_seq ?_
    refine tr_region ?_
    refine tr_e (f_store (vs := [(.bool false)]) Try.sizeOf4 rfl rfl rfl rfl (one1 rfl) H) rfl rfl ?_
    rintro _ h6 ⟨rfl, H⟩
    refine tr_nil ?_
    refine tr_thenN ?_
    refine tr_ret ?_
    refine tr_thenR ?_
    refine tr_shut ([] : List Nat) rfl H fun h7 H => ?_
    obtain ⟨y8, k9, H⟩ := H
    exact tr_rv1 rfl (rv_cell Try.isAgg4 rfl k9) ⟨_, rfl, H⟩
  · replace H := H.2 g5
    refine tr_skip ?_
    refine tr_thenN ?_
    refine tr_seq_jD (fun ds L' h => ∃ (x0 : Sl) (x1 : Sl) (x4 : Addr), L' = [(0, x0.enc), (1, x1.enc), (4, (.pointer (some x4)))] ∧ F.spatelaw6_TableSteps.j1 Q ds x0 x1 x4 h) ?_ ?_
    · rintro ds L' h ⟨x0, x1, x4, rfl, H⟩
      unfold F.spatelaw6_TableSteps.j1 at H
      refine tr_seq ?_
      refine tr_region ?_
      refine tr_e (e_call Try.call19 rfl (F.table_New_int_ok H)) rfl rfl ?_
      rintro _ h10 ⟨r11, rfl, H⟩
      refine tr_e (f_alloc (cs := #[(.pointer none)]) Try.zeroValue30 rfl H) rfl rfl ?_
      rintro _ h12 ⟨a13, rfl, H⟩
      refine tr_e (f_store (vs := [(.pointer r11)]) Try.sizeOf30 rfl rfl rfl rfl (one1 rfl) H) rfl rfl ?_
      rintro _ h14 ⟨rfl, H⟩
      refine tr_nil ?_
      refine tr_thenN ?_
      refine tr_seq ?_
      refine tr_region ?_
      refine tr_p (y_assign rfl) rfl rfl ?_
      refine tr_nil ?_
      refine tr_thenN ?_
      refine tr_seq ?_
      refine tr_seq ?_
      refine tr_region ?_
      refine tr_p (y_assign rfl) rfl rfl ?_
      refine tr_nil ?_
      refine tr_thenN ?_
      refine tr_block ?_
      obtain ⟨m110, H⟩ := H
      refine tr_sub [(0, x0.enc), (1, x1.enc), (4, (.pointer (some x4))), (5, (.pointer (some a13))), (6, (.bool false)), (7, (.int .i64 0))] ⟨rfl, rfl, rfl, rfl, rfl, rfl, trivial⟩ ?_
      refine tr_loop_jD (fun m ds L' h => ∃ (x0 : Sl) (x1 : Sl) (x4 : Addr) (x5 : Addr) (x6 : Bool) (x7 : Int), L' = [(0, x0.enc), (1, x1.enc), (4, (.pointer (some x4))), (5, (.pointer (some x5))), (6, (.bool x6)), (7, (.int .i64 x7))] ∧ F.spatelaw6_TableSteps.l2 Q m ds x0 x1 x4 x5 x6 x7 h) ?_ ?_ m110 ds rfl ⟨_, _, _, _, _, _, rfl, H⟩
      · rintro ds L' h ⟨_, _, _, _, _, _, _, H⟩; exact H
      · rintro q2 ds L' h ⟨x0, x1, x4, x5, x6, x7, rfl, H⟩
        unfold F.spatelaw6_TableSteps.l2 at H
        refine tr_seq_jD (fun ds L' h => ∃ (x0 : Sl) (x1 : Sl) (x4 : Addr) (x5 : Addr) (x7 : Int), L' = [(0, x0.enc), (1, x1.enc), (4, (.pointer (some x4))), (5, (.pointer (some x5))), (7, (.int .i64 x7))] ∧ F.spatelaw6_TableSteps.j3 Q (F.spatelaw6_TableSteps.l2 Q q2) ds x0 x1 x4 x5 x7 h) ?_ ?_
        · rintro ds L' h ⟨x0, x1, x4, x5, x7, rfl, H⟩
          unfold F.spatelaw6_TableSteps.j3 at H
          refine tr_seq ?_
          refine tr_block ?_
          refine tr_seq ?_
          refine tr_region ?_
          obtain ⟨y15, k16, H⟩ := H
          refine tr_h (y_ld Try.isAgg30 rfl) k16 rfl rfl ?_
          refine tr_e (e_call Try.call24 rfl (F.table_Table_int_Slots_ok H)) rfl rfl ?_
          rintro _ h17 ⟨r18, rfl, H⟩
          refine tr_p (y_assign rfl) rfl rfl ?_
          refine tr_nil ?_
          refine tr_thenN ?_
          refine tr_seq ?_
          refine tr_draw mixed [0, 0, 0, 6, 14, 0, 63] (by kernel_rfl) ?_
          obtain ⟨y19, k20, H⟩ := H
          refine g_h 0 1 rfl (by kernel_rfl) (y_ld Try.isAgg30 rfl) k20 rfl rfl ?_
          refine g_p 1 3 rfl (by kernel_rfl) (y_move rfl) rfl rfl ?_
          refine g_p 2 7 rfl (by kernel_rfl) (y_move rfl) rfl rfl ?_
          obtain ⟨a21, e22, H⟩ := H
          refine g_p 3 15 rfl (by kernel_rfl) (f_idx (s := x0) Try.runUnderlying37 Try.sizeOf9 rfl rfl e22) rfl rfl ?_
          obtain ⟨y23, k24, H⟩ := H
          refine g_h 4 31 rfl (by kernel_rfl) (y_ld Try.isAgg9 rfl) k24 rfl rfl ?_
          refine g_p 5 63 rfl (by kernel_rfl) (y_move rfl) rfl rfl ?_
          refine g_e 6 127 [] (by kernel_rfl) rfl (by kernel_rfl) (e_call Try.call20 rfl (F.table_Table_int_Put_ok H)) rfl rfl ?_
          rintro _ h25 ⟨rfl, H⟩
          refine ⟨trivial, ?_⟩
          refine g_d (by kernel_rfl) ?_
          refine tr_thenN ?_
          refine tr_region ?_
          obtain ⟨y26, k27, H⟩ := H
          refine tr_h (y_ld Try.isAgg30 rfl) k27 rfl rfl ?_
          refine tr_e (e_call Try.call24 rfl (F.table_Table_int_Slots_ok H)) rfl rfl ?_
          rintro _ h28 ⟨r29, rfl, H⟩
          refine tr_p (y_move rfl) rfl rfl ?_
          refine tr_p (y_neq rfl rfl) rfl rfl ?_
          refine tr_p (y_assign rfl) rfl rfl ?_
          refine tr_nil ?_
          refine tr_blockN ?_
          refine tr_thenN ?_
          refine tr_region ?_
          refine tr_p (y_move rfl) rfl rfl ?_
          refine tr_p (y_add rfl rfl) rfl rfl ?_
          refine tr_p (y_assign rfl) rfl rfl ?_
          refine tr_nil ?_
          refine tr_thenN ?_
          exact tr_joinD ds [(0, x0.enc), (1, x1.enc), (4, (.pointer (some x4))), (5, (.pointer (some x5))), (6, (.bool ((r29 != r18)))), (7, (.int .i64 (IntKind.wrap .i64 (x7 + 1))))] rfl ⟨rfl, rfl, rfl, rfl, rfl, rfl, trivial⟩ ⟨_, _, _, _, _, _, rfl, H⟩
        · refine tr_seq_jD (fun ds L' h => ∃ (x0 : Sl) (x1 : Sl) (x4 : Addr) (x5 : Addr) (x6 : Bool) (x7 : Int) (x35 : Bool), L' = [(0, x0.enc), (1, x1.enc), (4, (.pointer (some x4))), (5, (.pointer (some x5))), (6, (.bool x6)), (7, (.int .i64 x7)), (35, (.bool x35))] ∧ F.spatelaw6_TableSteps.j4 Q (F.spatelaw6_TableSteps.l2 Q q2) ds x0 x1 x4 x5 x6 x7 x35 h) ?_ ?_
          · rintro ds L' h ⟨x0, x1, x4, x5, x6, x7, x35, rfl, H⟩
            unfold F.spatelaw6_TableSteps.j4 at H
            refine tr_cond rfl (fun g30 => ?_) (fun g30 => ?_)
            · replace H := H.1 g30
              refine tr_skip ?_
              refine tr_thenN ?_
              exact tr_joinD ds [(0, x0.enc), (1, x1.enc), (4, (.pointer (some x4))), (5, (.pointer (some x5))), (7, (.int .i64 x7))] rfl ⟨rfl, rfl, rfl, rfl, rfl, trivial⟩ ⟨_, _, _, _, _, rfl, H⟩
            · replace H := H.2 g30
              refine tr_exit ?_
              refine tr_thenE ?_
              refine tr_thenE ?_
              refine tr_hit ?_
              refine tr_thenN ?_
              refine tr_seq ?_
              refine tr_seq ?_
              refine tr_region ?_
              refine tr_p (y_move rfl) rfl rfl ?_
              refine tr_p (y_not rfl) rfl rfl ?_
              refine tr_nil ?_
              refine tr_thenN ?_
              refine tr_cond rfl (fun g31 => ?_) (fun g31 => ?_)
              · replace H := H.1 g31
                refine tr_seq ?_
                refine tr_region ?_
                obtain ⟨y32, k33, H⟩ := H
                refine tr_h (y_ld Try.isAgg30 rfl) k33 rfl rfl ?_
                refine tr_e (e_call Try.call27 rfl (F.table_Table_int_Left_ok H)) rfl rfl ?_
                rintro _ h34 ⟨r35, rfl, H⟩
                refine tr_p (y_eql rfl rfl) rfl rfl ?_
                refine tr_e (f_store (vs := [(.bool ((r35 == 0)))]) Try.sizeOf4 rfl rfl rfl rfl (one1 rfl) H) rfl rfl ?_
                rintro _ h36 ⟨rfl, H⟩
                refine tr_nil ?_
                refine tr_thenN ?_
                refine tr_ret ?_
                refine tr_thenR ?_
                refine tr_shut ds rfl H fun h37 H => ?_
                obtain ⟨y38, k39, H⟩ := H
                exact tr_rv1 rfl (rv_cell Try.isAgg4 rfl k39) ⟨_, rfl, H⟩
              · replace H := H.2 g31
                refine tr_skip ?_
                refine tr_thenN ?_
                refine tr_seq ?_
                refine tr_region ?_
                obtain ⟨y40, k41, H⟩ := H
                refine tr_h (y_ld Try.isAgg30 rfl) k41 rfl rfl ?_
                refine tr_e (e_call Try.call28 rfl (F.table_Table_int_Twin_ok H)) rfl rfl ?_
                rintro _ h42 ⟨r43, rfl, H⟩
                refine tr_p (y_assign rfl) rfl rfl ?_
                refine tr_nil ?_
                refine tr_thenN ?_
                refine tr_seq ?_
                refine tr_region ?_
                obtain ⟨y44, k45, H⟩ := H
                refine tr_h (y_ld Try.isAgg30 rfl) k45 rfl rfl ?_
                refine tr_e (e_call Try.call27 rfl (F.table_Table_int_Left_ok H)) rfl rfl ?_
                rintro _ h46 ⟨r47, rfl, H⟩
                refine tr_p (y_assign rfl) rfl rfl ?_
                refine tr_nil ?_
                refine tr_thenN ?_
                refine tr_seq ?_
                refine tr_seq ?_
                refine tr_region ?_
                refine tr_p (y_assign rfl) rfl rfl ?_
                refine tr_nil ?_
                refine tr_thenN ?_
                refine tr_block ?_
                obtain ⟨m108, H⟩ := H
                refine tr_sub [(1, x1.enc), (4, (.pointer (some x4))), (5, (.pointer (some x5))), (9, (.pointer r43)), (10, (.int .i64 r47)), (11, (.int .i64 0))] ⟨rfl, rfl, rfl, rfl, rfl, rfl, trivial⟩ ?_
                refine tr_loop_jD (fun m ds L' h => ∃ (x1 : Sl) (x4 : Addr) (x5 : Addr) (x9 : Option Addr) (x10 : Int) (x11 : Int), L' = [(1, x1.enc), (4, (.pointer (some x4))), (5, (.pointer (some x5))), (9, (.pointer x9)), (10, (.int .i64 x10)), (11, (.int .i64 x11))] ∧ F.spatelaw6_TableSteps.l5 Q m ds x1 x4 x5 x9 x10 x11 h) ?_ ?_ m108 ds rfl ⟨_, _, _, _, _, _, rfl, H⟩
                · rintro ds L' h ⟨_, _, _, _, _, _, _, H⟩; exact H
                · rintro q5 ds L' h ⟨x1, x4, x5, x9, x10, x11, rfl, H⟩
                  unfold F.spatelaw6_TableSteps.l5 at H
                  refine tr_seq ?_
                  refine tr_seq ?_
                  refine tr_region ?_
                  refine tr_p (y_move rfl) rfl rfl ?_
                  refine tr_p (y_move rfl) rfl rfl ?_
                  refine tr_p (y_len (ts := #[]) Try.runUnderlying38 (o := x1.ptr) (n := x1.len) (cap := x1.cap) rfl) rfl rfl ?_
                  refine tr_p (y_lss rfl rfl) rfl rfl ?_
                  refine tr_nil ?_
                  refine tr_thenN ?_
                  refine tr_cond rfl (fun g48 => ?_) (fun g48 => ?_)
                  · replace H := H.1 g48
                    refine tr_skip ?_
                    refine tr_thenN ?_
                    refine tr_seq_jD (fun ds L' h => ∃ (x1 : Sl) (x4 : Addr) (x5 : Addr) (x9 : Option Addr) (x10 : Int) (x11 : Int), L' = [(1, x1.enc), (4, (.pointer (some x4))), (5, (.pointer (some x5))), (9, (.pointer x9)), (10, (.int .i64 x10)), (11, (.int .i64 x11))] ∧ F.spatelaw6_TableSteps.j6 Q (F.spatelaw6_TableSteps.l5 Q q5) ds x1 x4 x5 x9 x10 x11 h) ?_ ?_
                    · rintro ds L' h ⟨x1, x4, x5, x9, x10, x11, rfl, H⟩
                      unfold F.spatelaw6_TableSteps.j6 at H
                      refine tr_region ?_
                      refine tr_p (y_move rfl) rfl rfl ?_
                      refine tr_p (y_add rfl rfl) rfl rfl ?_
                      refine tr_p (y_assign rfl) rfl rfl ?_
                      refine tr_nil ?_
                      refine tr_thenN ?_
                      exact tr_joinD ds [(1, x1.enc), (4, (.pointer (some x4))), (5, (.pointer (some x5))), (9, (.pointer x9)), (10, (.int .i64 x10)), (11, (.int .i64 (IntKind.wrap .i64 (x11 + 1))))] rfl ⟨rfl, rfl, rfl, rfl, rfl, rfl, trivial⟩ ⟨_, _, _, _, _, _, rfl, H⟩
                    · refine tr_block ?_
                      refine tr_seq ?_
                      refine tr_region ?_
                      refine tr_p (y_move rfl) rfl rfl ?_
                      refine tr_p (y_move rfl) rfl rfl ?_
                      obtain ⟨a49, e50, H⟩ := H
                      refine tr_p (f_idx (s := x1) Try.runUnderlying38 Try.sizeOf3 rfl rfl e50) rfl rfl ?_
                      obtain ⟨y51, k52, H⟩ := H
                      refine tr_h (y_ld Try.isAgg3 rfl) k52 rfl rfl ?_
                      refine tr_p (y_assign rfl) rfl rfl ?_
                      refine tr_nil ?_
                      refine tr_thenN ?_
                      refine tr_seq_jD (fun ds L' h => ∃ (x1 : Sl) (x4 : Addr) (x5 : Addr) (x9 : Option Addr) (x10 : Int) (x11 : Int) (x12 : Int), L' = [(1, x1.enc), (4, (.pointer (some x4))), (5, (.pointer (some x5))), (9, (.pointer x9)), (10, (.int .i64 x10)), (11, (.int .i64 x11)), (12, (.int .i64 x12))] ∧ F.spatelaw6_TableSteps.j7 Q (F.spatelaw6_TableSteps.l5 Q q5) ds x1 x4 x5 x9 x10 x11 x12 h) ?_ ?_
                      · rintro ds L' h ⟨x1, x4, x5, x9, x10, x11, x12, rfl, H⟩
                        unfold F.spatelaw6_TableSteps.j7 at H
                        refine tr_seq_jD (fun ds L' h => ∃ (x1 : Sl) (x4 : Addr) (x5 : Addr) (x9 : Option Addr) (x10 : Int) (x11 : Int) (x12 : Int), L' = [(1, x1.enc), (4, (.pointer (some x4))), (5, (.pointer (some x5))), (9, (.pointer x9)), (10, (.int .i64 x10)), (11, (.int .i64 x11)), (12, (.int .i64 x12))] ∧ F.spatelaw6_TableSteps.j8 Q (F.spatelaw6_TableSteps.l5 Q q5) ds x1 x4 x5 x9 x10 x11 x12 h) ?_ ?_
                        · rintro ds L' h ⟨x1, x4, x5, x9, x10, x11, x12, rfl, H⟩
                          unfold F.spatelaw6_TableSteps.j8 at H
                          refine tr_seq ?_
                          refine tr_region ?_
                          refine tr_p (y_move rfl) rfl rfl ?_
                          refine tr_p (y_move rfl) rfl rfl ?_
                          refine tr_p (y_sub rfl rfl) rfl rfl ?_
                          refine tr_p (y_assign rfl) rfl rfl ?_
                          refine tr_nil ?_
                          refine tr_thenN ?_
                          refine tr_seq_jD (fun ds L' h => ∃ (x1 : Sl) (x4 : Addr) (x5 : Addr) (x9 : Option Addr) (x10 : Int) (x11 : Int), L' = [(1, x1.enc), (4, (.pointer (some x4))), (5, (.pointer (some x5))), (9, (.pointer x9)), (10, (.int .i64 x10)), (11, (.int .i64 x11))] ∧ F.spatelaw6_TableSteps.j9 Q (F.spatelaw6_TableSteps.l5 Q q5) ds x1 x4 x5 x9 x10 x11 h) ?_ ?_
                          · rintro ds L' h ⟨x1, x4, x5, x9, x10, x11, rfl, H⟩
                            unfold F.spatelaw6_TableSteps.j9 at H
                            refine tr_seq ?_
                            refine tr_region ?_
                            refine tr_p (y_move rfl) rfl rfl ?_
                            refine tr_e (e_call Try.call29 rfl (F.table_Table_int_All_ok H)) rfl rfl ?_
                            rintro r54 h53 ⟨_, rfl, H⟩
                            refine tr_nil ?_
                            refine tr_thenN ?_
                            refine tr_block ?_
                            refine tr_range rfl (by kernel_rfl) H ?_ ?_ ?_
                            · intro bg1 l1 args h K1 J1 w1 hbg1 H
                              obtain ⟨y1_96, y1_97, rfl, H⟩ := H
                              refine ⟨rfl, ?_⟩
                              refine tr_sub [(1, x1.enc), (4, (.pointer (some x4))), (5, (.pointer (some x5))), (9, (.pointer x9)), (10, (.int .i64 x10)), (11, (.int .i64 x11)), (94, (.pointer x9)), (95, r54), (96, (.string y1_96)), (97, (.int .i64 y1_97))] ⟨rfl, rfl, rfl, rfl, rfl, rfl, rfl, rfl, rfl, rfl, trivial⟩ ?_
                              refine tr_seq ?_
                              refine tr_region ?_
                              refine tr_p (y_assign rfl) rfl rfl ?_
                              refine tr_nil ?_
                              refine tr_thenN ?_
                              refine tr_region ?_
                              refine tr_p (y_assign rfl) rfl rfl ?_
                              refine tr_nil ?_
                              refine tr_thenN ?_
                              refine tr_bgn hbg1 H fun h55 H => ?_
                              refine tr_block ?_
                              refine tr_seq ?_
                              refine tr_region ?_
                              obtain ⟨y56, k57, H⟩ := H
                              refine tr_h (y_ld Try.isAgg30 rfl) k57 rfl rfl ?_
                              refine tr_p (y_move rfl) rfl rfl ?_
                              refine tr_e (e_call Try.call25 rfl (F.table_Table_int_Get_ok H)) rfl rfl ?_
                              rintro _ h58 ⟨r59, r60, rfl, H⟩
                              refine tr_p (y_move rfl) rfl rfl ?_
                              refine tr_p (y_ext rfl rfl) rfl rfl ?_
                              refine tr_p (y_ext rfl rfl) rfl rfl ?_
                              refine tr_p (y_assign rfl) rfl rfl ?_
                              refine tr_p (y_assign rfl) rfl rfl ?_
                              refine tr_nil ?_
                              refine tr_thenN ?_
                              refine tr_seq_j (fun L' h => ∃ (x4 : Addr) (x110 : Bool), L' = [(4, (.pointer (some x4))), (110, (.bool x110))] ∧ F.spatelaw6_TableSteps.j10 Q K1 J1 l1 x4 x110 h) ?_ ?_
                              · rintro L' h ⟨x4, x110, rfl, H⟩
                                unfold F.spatelaw6_TableSteps.j10 at H
                                refine tr_cond rfl (fun g61 => ?_) (fun g61 => ?_)
                                · replace H := H.1 g61
                                  refine tr_seq ?_
                                  refine tr_region ?_
                                  refine tr_e (f_store (vs := [(.bool false)]) Try.sizeOf4 rfl rfl rfl rfl (one1 rfl) H) rfl rfl ?_
                                  rintro _ h62 ⟨rfl, H⟩
                                  refine tr_nil ?_
                                  refine tr_thenN ?_
                                  refine tr_ret ?_
                                  refine tr_blockR ?_
                                  exact tr_rR 0 rfl H
                                · replace H := H.2 g61
                                  refine tr_skip ?_
                                  refine tr_blockN ?_
                                  exact tr_rN H
                              · refine tr_region ?_
                                refine tr_p (y_move rfl) rfl rfl ?_
                                refine tr_p (y_not rfl) rfl rfl ?_
                                refine tr_p (y_move rfl) rfl rfl ?_
                                refine tr_split (t := 106) rfl (fun g63 => ?_) (fun g63 => ?_)
                                · replace H := H.1 g63
                                  refine tr_s rfl rfl ?_
                                  refine tr_s rfl rfl ?_
                                  refine tr_s rfl rfl ?_
                                  refine tr_p (y_pick_t rfl rfl) rfl rfl ?_
                                  refine tr_nil ?_
                                  refine tr_thenN ?_
                                  exact tr_join [(4, (.pointer (some x4))), (110, (.bool true))] ⟨rfl, rfl, trivial⟩ ⟨_, _, rfl, H⟩
                                · replace H := H.2 g63
                                  refine tr_p (y_move rfl) rfl rfl ?_
                                  refine tr_p (y_move rfl) rfl rfl ?_
                                  refine tr_p (y_neq rfl rfl) rfl rfl ?_
                                  refine tr_p (y_pick_f rfl rfl) rfl rfl ?_
                                  refine tr_nil ?_
                                  refine tr_thenN ?_
                                  exact tr_join [(4, (.pointer (some x4))), (110, (.bool ((y1_97 != r59))))] ⟨rfl, rfl, trivial⟩ ⟨_, _, rfl, H⟩
                            · intro h64 H
                              refine tr_blockN ?_
                              refine tr_blockN ?_
                              refine tr_thenN ?_
                              exact tr_joinD (h53.size :: ds) [(1, x1.enc), (4, (.pointer (some x4))), (5, (.pointer (some x5))), (9, (.pointer x9)), (10, (.int .i64 x10)), (11, (.int .i64 x11))] rfl ⟨rfl, rfl, rfl, rfl, rfl, rfl, trivial⟩ ⟨_, _, _, _, _, _, rfl, H⟩
                            · intro jj c h65 hjc H
                              rcases jj with _ | jj
                              · obtain rfl : Code.ret = c := by simpa using hjc
                                replace H := H rfl
                                refine tr_ret ?_
                                refine tr_blockR ?_
                                refine tr_blockR ?_
                                refine tr_thenR ?_
                                refine tr_thenR ?_
                                refine tr_blockR ?_
                                refine tr_thenR ?_
                                refine tr_shut (h53.size :: ds) rfl H fun h66 H => ?_
                                obtain ⟨y67, k68, H⟩ := H
                                exact tr_rv1 rfl (rv_cell Try.isAgg4 rfl k68) ⟨_, rfl, H⟩
                              · simp at hjc
                          · refine tr_seq_jD (fun ds L' h => ∃ (x1 : Sl) (x4 : Addr) (x5 : Addr) (x9 : Option Addr) (x10 : Int) (x11 : Int) (x93 : Bool), L' = [(1, x1.enc), (4, (.pointer (some x4))), (5, (.pointer (some x5))), (9, (.pointer x9)), (10, (.int .i64 x10)), (11, (.int .i64 x11)), (93, (.bool x93))] ∧ F.spatelaw6_TableSteps.j11 Q (F.spatelaw6_TableSteps.l5 Q q5) ds x1 x4 x5 x9 x10 x11 x93 h) ?_ ?_
                            · rintro ds L' h ⟨x1, x4, x5, x9, x10, x11, x93, rfl, H⟩
                              unfold F.spatelaw6_TableSteps.j11 at H
                              refine tr_cond rfl (fun g69 => ?_) (fun g69 => ?_)
                              · replace H := H.1 g69
                                refine tr_seq ?_
                                refine tr_region ?_
                                refine tr_e (f_store (vs := [(.bool false)]) Try.sizeOf4 rfl rfl rfl rfl (one1 rfl) H) rfl rfl ?_
                                rintro _ h70 ⟨rfl, H⟩
                                refine tr_nil ?_
                                refine tr_thenN ?_
                                refine tr_ret ?_
                                refine tr_thenR ?_
                                refine tr_blockR ?_
                                refine tr_thenR ?_
                                refine tr_thenR ?_
                                refine tr_blockR ?_
                                refine tr_thenR ?_
                                refine tr_shut ds rfl H fun h71 H => ?_
                                obtain ⟨y72, k73, H⟩ := H
                                exact tr_rv1 rfl (rv_cell Try.isAgg4 rfl k73) ⟨_, rfl, H⟩
                              · replace H := H.2 g69
                                refine tr_skip ?_
                                refine tr_thenN ?_
                                exact tr_joinD ds [(1, x1.enc), (4, (.pointer (some x4))), (5, (.pointer (some x5))), (9, (.pointer x9)), (10, (.int .i64 x10)), (11, (.int .i64 x11))] rfl ⟨rfl, rfl, rfl, rfl, rfl, rfl, trivial⟩ ⟨_, _, _, _, _, _, rfl, H⟩
                            · refine tr_draw mixed [0, 0, 0, 6, 14, 31, 0, 127, 255, 511, 1023, 511, 4095, 8191, 16383] (by kernel_rfl) ?_
                              obtain ⟨y74, k75, H⟩ := H
                              refine g_h 0 1 rfl (by kernel_rfl) (y_ld Try.isAgg30 rfl) k75 rfl rfl ?_
                              refine g_p 1 3 rfl (by kernel_rfl) (y_move rfl) rfl rfl ?_
                              refine g_p 2 7 rfl (by kernel_rfl) (y_move rfl) rfl rfl ?_
                              obtain ⟨a76, e77, H⟩ := H
                              refine g_p 3 15 rfl (by kernel_rfl) (f_idx (s := x1) Try.runUnderlying38 Try.sizeOf3 rfl rfl e77) rfl rfl ?_
                              obtain ⟨y78, k79, H⟩ := H
                              refine g_h 4 31 rfl (by kernel_rfl) (y_ld Try.isAgg3 rfl) k79 rfl rfl ?_
                              refine g_p 6 95 rfl (by kernel_rfl) (y_move rfl) rfl rfl ?_
                              refine g_e 5 127 [] (by kernel_rfl) rfl (by kernel_rfl) (e_call Try.call26 rfl (F.table_Table_int_Move_ok H)) rfl rfl ?_
                              rintro _ h80 ⟨r81, rfl, H⟩
                              refine ⟨trivial, ?_⟩
                              refine g_p 7 255 rfl (by kernel_rfl) (y_neq rfl rfl) rfl rfl ?_
                              refine g_p 8 511 rfl (by kernel_rfl) (y_move rfl) rfl rfl ?_
                              refine g_split (t := 87) rfl (fun g82 => ?_) (fun g82 => ?_)
                              · replace H := H.1 g82
                                refine g_s 9 1023 rfl (by kernel_rfl) rfl rfl ?_
                                refine g_s 10 2047 rfl (by kernel_rfl) rfl rfl ?_
                                refine g_s 11 4095 rfl (by kernel_rfl) rfl rfl ?_
                                refine g_s 12 8191 rfl (by kernel_rfl) rfl rfl ?_
                                refine g_s 13 16383 rfl (by kernel_rfl) rfl rfl ?_
                                refine g_p 14 32767 rfl (by kernel_rfl) (y_pick_t rfl rfl) rfl rfl ?_
                                refine g_d (by kernel_rfl) ?_
                                refine tr_thenN ?_
                                exact tr_joinD ds [(1, x1.enc), (4, (.pointer (some x4))), (5, (.pointer (some x5))), (9, (.pointer x9)), (10, (.int .i64 (IntKind.wrap .i64 (x10 - x12)))), (11, (.int .i64 x11)), (93, (.bool true))] rfl ⟨rfl, rfl, rfl, rfl, rfl, rfl, rfl, trivial⟩ ⟨_, _, _, _, _, _, _, rfl, H⟩
                              · replace H := H.2 g82
                                obtain ⟨y83, k84, H⟩ := H
                                refine g_h 9 1023 rfl (by kernel_rfl) (y_ld Try.isAgg30 rfl) k84 rfl rfl ?_
                                refine g_p 11 3071 rfl (by kernel_rfl) (y_move rfl) rfl rfl ?_
                                refine g_e 10 4095 [] (by kernel_rfl) rfl (by kernel_rfl) (e_call Try.call23 rfl (F.table_Table_int_Len_ok H)) rfl rfl ?_
                                rintro _ h85 ⟨r86, rfl, H⟩
                                refine ⟨trivial, ?_⟩
                                refine g_e 12 8191 [] (by kernel_rfl) rfl (by kernel_rfl) (e_call Try.call23 rfl (F.table_Table_int_Len_ok H)) rfl rfl ?_
                                rintro _ h87 ⟨r88, rfl, H⟩
                                refine ⟨trivial, ?_⟩
                                refine g_p 13 16383 rfl (by kernel_rfl) (y_neq rfl rfl) rfl rfl ?_
                                refine g_p 14 32767 rfl (by kernel_rfl) (y_pick_f rfl rfl) rfl rfl ?_
                                refine g_d (by kernel_rfl) ?_
                                refine tr_thenN ?_
                                exact tr_joinD ds [(1, x1.enc), (4, (.pointer (some x4))), (5, (.pointer (some x5))), (9, (.pointer x9)), (10, (.int .i64 (IntKind.wrap .i64 (x10 - x12)))), (11, (.int .i64 x11)), (93, (.bool ((r86 != r88))))] rfl ⟨rfl, rfl, rfl, rfl, rfl, rfl, rfl, trivial⟩ ⟨_, _, _, _, _, _, _, rfl, H⟩
                        · refine tr_seq ?_
                          refine tr_region ?_
                          refine tr_p (y_move rfl) rfl rfl ?_
                          refine tr_p (y_move rfl) rfl rfl ?_
                          refine tr_p (y_gtr rfl rfl) rfl rfl ?_
                          refine tr_nil ?_
                          refine tr_thenN ?_
                          refine tr_cond rfl (fun g89 => ?_) (fun g89 => ?_)
                          · replace H := H.1 g89
                            refine tr_region ?_
                            refine tr_p (y_move rfl) rfl rfl ?_
                            refine tr_p (y_assign rfl) rfl rfl ?_
                            refine tr_nil ?_
                            refine tr_thenN ?_
                            exact tr_joinD ds [(1, x1.enc), (4, (.pointer (some x4))), (5, (.pointer (some x5))), (9, (.pointer x9)), (10, (.int .i64 x10)), (11, (.int .i64 x11)), (12, (.int .i64 x10))] rfl ⟨rfl, rfl, rfl, rfl, rfl, rfl, rfl, trivial⟩ ⟨_, _, _, _, _, _, _, rfl, H⟩
                          · replace H := H.2 g89
                            refine tr_skip ?_
                            refine tr_thenN ?_
                            exact tr_joinD ds [(1, x1.enc), (4, (.pointer (some x4))), (5, (.pointer (some x5))), (9, (.pointer x9)), (10, (.int .i64 x10)), (11, (.int .i64 x11)), (12, (.int .i64 x12))] rfl ⟨rfl, rfl, rfl, rfl, rfl, rfl, rfl, trivial⟩ ⟨_, _, _, _, _, _, _, rfl, H⟩
                      · refine tr_seq ?_
                        refine tr_region ?_
                        refine tr_p (y_move rfl) rfl rfl ?_
                        refine tr_p (y_lss rfl rfl) rfl rfl ?_
                        refine tr_nil ?_
                        refine tr_thenN ?_
                        refine tr_cond rfl (fun g90 => ?_) (fun g90 => ?_)
                        · replace H := H.1 g90
                          refine tr_region ?_
                          refine tr_p (y_assign rfl) rfl rfl ?_
                          refine tr_nil ?_
                          refine tr_thenN ?_
                          exact tr_joinD ds [(1, x1.enc), (4, (.pointer (some x4))), (5, (.pointer (some x5))), (9, (.pointer x9)), (10, (.int .i64 x10)), (11, (.int .i64 x11)), (12, (.int .i64 0))] rfl ⟨rfl, rfl, rfl, rfl, rfl, rfl, rfl, trivial⟩ ⟨_, _, _, _, _, _, _, rfl, H⟩
                        · replace H := H.2 g90
                          refine tr_skip ?_
                          refine tr_thenN ?_
                          exact tr_joinD ds [(1, x1.enc), (4, (.pointer (some x4))), (5, (.pointer (some x5))), (9, (.pointer x9)), (10, (.int .i64 x10)), (11, (.int .i64 x11)), (12, (.int .i64 y51))] rfl ⟨rfl, rfl, rfl, rfl, rfl, rfl, rfl, trivial⟩ ⟨_, _, _, _, _, _, _, rfl, H⟩
                  · replace H := H.2 g48
                    refine tr_exit ?_
                    refine tr_thenE ?_
                    refine tr_thenE ?_
                    refine tr_hit ?_
                    refine tr_thenN ?_
                    refine tr_seq ?_
                    refine tr_region ?_
                    obtain ⟨y91, k92, H⟩ := H
                    refine tr_h (y_ld Try.isAgg30 rfl) k92 rfl rfl ?_
                    refine tr_p (y_move rfl) rfl rfl ?_
                    refine tr_e (e_call Try.call26 rfl (F.table_Table_int_Move_ok H)) rfl rfl ?_
                    rintro _ h93 ⟨r94, rfl, H⟩
                    refine tr_p (y_eql rfl rfl) rfl rfl ?_
                    refine tr_p (y_move rfl) rfl rfl ?_
                    refine tr_split (t := 115) rfl (fun g95 => ?_) (fun g95 => ?_)
                    · replace H := H.1 g95
                      obtain ⟨y96, k97, H⟩ := H
                      refine tr_h (y_ld Try.isAgg30 rfl) k97 rfl rfl ?_
                      refine tr_e (e_call Try.call27 rfl (F.table_Table_int_Left_ok H)) rfl rfl ?_
                      rintro _ h98 ⟨r99, rfl, H⟩
                      refine tr_p (y_eql rfl rfl) rfl rfl ?_
                      refine tr_p (y_pick_t rfl rfl) rfl rfl ?_
                      refine tr_e (f_store (vs := [(.bool ((r99 == 0)))]) Try.sizeOf4 rfl rfl rfl rfl (one1 rfl) H) rfl rfl ?_
                      rintro _ h100 ⟨rfl, H⟩
                      refine tr_nil ?_
                      refine tr_thenN ?_
                      refine tr_ret ?_
                      refine tr_shut ds rfl H fun h101 H => ?_
                      obtain ⟨y102, k103, H⟩ := H
                      exact tr_rv1 rfl (rv_cell Try.isAgg4 rfl k103) ⟨_, rfl, H⟩
                    · replace H := H.2 g95
                      refine tr_s rfl rfl ?_
                      refine tr_s rfl rfl ?_
                      refine tr_s rfl rfl ?_
                      refine tr_p (y_pick_f rfl rfl) rfl rfl ?_
                      refine tr_e (f_store (vs := [(.bool false)]) Try.sizeOf4 rfl rfl rfl rfl (one1 rfl) H) rfl rfl ?_
                      rintro _ h104 ⟨rfl, H⟩
                      refine tr_nil ?_
                      refine tr_thenN ?_
                      refine tr_ret ?_
                      refine tr_shut ds rfl H fun h105 H => ?_
                      obtain ⟨y106, k107, H⟩ := H
                      exact tr_rv1 rfl (rv_cell Try.isAgg4 rfl k107) ⟨_, rfl, H⟩
          · refine tr_region ?_
            refine tr_p (y_move rfl) rfl rfl ?_
            refine tr_p (y_move rfl) rfl rfl ?_
            refine tr_p (y_len (ts := #[]) Try.runUnderlying37 (o := x0.ptr) (n := x0.len) (cap := x0.cap) rfl) rfl rfl ?_
            refine tr_p (y_lss rfl rfl) rfl rfl ?_
            refine tr_p (y_move rfl) rfl rfl ?_
            refine tr_split (t := 32) rfl (fun g109 => ?_) (fun g109 => ?_)
            · replace H := H.1 g109
              refine tr_p (y_move rfl) rfl rfl ?_
              refine tr_p (y_not rfl) rfl rfl ?_
              refine tr_p (y_pick_t rfl rfl) rfl rfl ?_
              refine tr_nil ?_
              refine tr_thenN ?_
              exact tr_joinD ds [(0, x0.enc), (1, x1.enc), (4, (.pointer (some x4))), (5, (.pointer (some x5))), (6, (.bool x6)), (7, (.int .i64 x7)), (35, (.bool (!x6)))] rfl ⟨rfl, rfl, rfl, rfl, rfl, rfl, rfl, trivial⟩ ⟨_, _, _, _, _, _, _, rfl, H⟩
            · replace H := H.2 g109
              refine tr_s rfl rfl ?_
              refine tr_s rfl rfl ?_
              refine tr_p (y_pick_f rfl rfl) rfl rfl ?_
              refine tr_nil ?_
              refine tr_thenN ?_
              exact tr_joinD ds [(0, x0.enc), (1, x1.enc), (4, (.pointer (some x4))), (5, (.pointer (some x5))), (6, (.bool x6)), (7, (.int .i64 x7)), (35, (.bool false))] rfl ⟨rfl, rfl, rfl, rfl, rfl, rfl, rfl, trivial⟩ ⟨_, _, _, _, _, _, _, rfl, H⟩
    · refine tr_seq_jD (fun ds L' h => ∃ (x0 : Sl) (x1 : Sl) (x4 : Addr) (x26 : Bool), L' = [(0, x0.enc), (1, x1.enc), (4, (.pointer (some x4))), (26, (.bool x26))] ∧ F.spatelaw6_TableSteps.j12 Q ds x0 x1 x4 x26 h) ?_ ?_
      · rintro ds L' h ⟨x0, x1, x4, x26, rfl, H⟩
        unfold F.spatelaw6_TableSteps.j12 at H
        refine tr_cond rfl (fun g111 => ?_) (fun g111 => ?_)
        · replace H := H.1 g111
          refine tr_seq ?_
          refine tr_region ?_
          refine tr_e (f_store (vs := [(.bool true)]) Try.sizeOf4 rfl rfl rfl rfl (one1 rfl) H) rfl rfl ?_
          rintro _ h112 ⟨rfl, H⟩
          refine tr_nil ?_
          refine tr_thenN ?_
          refine tr_ret ?_
          refine tr_thenR ?_
          refine tr_shut ds rfl H fun h113 H => ?_
          obtain ⟨y114, k115, H⟩ := H
          exact tr_rv1 rfl (rv_cell Try.isAgg4 rfl k115) ⟨_, rfl, H⟩
        · replace H := H.2 g111
          refine tr_skip ?_
          refine tr_thenN ?_
          exact tr_joinD ds [(0, x0.enc), (1, x1.enc), (4, (.pointer (some x4)))] rfl ⟨rfl, rfl, rfl, trivial⟩ ⟨_, _, _, rfl, H⟩
      · refine tr_region ?_
        refine tr_p (y_move rfl) rfl rfl ?_
        refine tr_p (y_len (ts := #[]) Try.runUnderlying37 (o := p0.ptr) (n := p0.len) (cap := p0.cap) rfl) rfl rfl ?_
        refine tr_p (y_gtr rfl rfl) rfl rfl ?_
        refine tr_p (y_move rfl) rfl rfl ?_
        refine tr_split (t := 22) rfl (fun g116 => ?_) (fun g116 => ?_)
        · replace H := H.1 g116
          refine tr_s rfl rfl ?_
          refine tr_s rfl rfl ?_
          refine tr_s rfl rfl ?_
          refine tr_p (y_pick_t rfl rfl) rfl rfl ?_
          refine tr_nil ?_
          refine tr_thenN ?_
          exact tr_joinD ([] : List Nat) [(0, p0.enc), (1, p1.enc), (4, (.pointer (some a2))), (26, (.bool true))] rfl ⟨rfl, rfl, rfl, rfl, trivial⟩ ⟨_, _, _, _, rfl, H⟩
        · replace H := H.2 g116
          refine tr_p (y_move rfl) rfl rfl ?_
          refine tr_p (y_len (ts := #[]) Try.runUnderlying38 (o := p1.ptr) (n := p1.len) (cap := p1.cap) rfl) rfl rfl ?_
          refine tr_p (y_gtr rfl rfl) rfl rfl ?_
          refine tr_p (y_pick_f rfl rfl) rfl rfl ?_
          refine tr_nil ?_
          refine tr_thenN ?_
          exact tr_joinD ([] : List Nat) [(0, p0.enc), (1, p1.enc), (4, (.pointer (some a2))), (26, (.bool (decide ((p1.len : Int) > 500))))] rfl ⟨rfl, rfl, rfl, rfl, trivial⟩ ⟨_, _, _, _, rfl, H⟩

/-- spate/spatelaw6.do -/
def F.spatelaw6_do (p0 : Option Addr) (p1 : S_spatelaw6_Step) (h : H) (Q : H → Prop) : Prop :=
  new h p1.cells.toArray ty_46 fun a2 h1 =>
  ldI .i64 h1 (a2.add 0) fun y3 =>
  (((y3 == 1)) = true →
  ldS h1 (a2.add 2) fun y6 =>
  ldI .i64 h1 (a2.add 1) fun y8 =>
  F.table_Table_int_Put p0 y6 y8 h1 fun h10 =>
  Q h10) ∧
  (((y3 == 1)) = false →
  (((y3 == 3)) = true →
  ldS h1 (a2.add 2) fun y12 =>
  F.table_Table_int_Drop p0 y12 h1 fun r15 r16 h14 =>
  Q h14) ∧
  (((y3 == 3)) = false →
  (((y3 == 4)) = true →
  ldI .i64 h1 (a2.add 1) fun y18 =>
  F.table_Table_int_Move p0 y18 h1 fun r21 h20 =>
  Q h20) ∧
  (((y3 == 4)) = false →
  Q h1)))
theorem F.spatelaw6_do_ok {p0 : Option Addr} {p1 : S_spatelaw6_Step} {h : H} {Q : H → Prop} (H : F.spatelaw6_do p0 p1 h Q) : Fn PP 30 ([(.pointer p0), (.agg p1.cells.toArray)] : List Value).toArray h fun r h' => r = .tuple #[] ∧ Q  h' := by
  unfold F.spatelaw6_do at H
  refine fn_of Try.func30 Try.ntmps30 rfl rfl fun w0 => ?_
  refine tr_sub [(0, (.pointer p0)), (1, (.agg p1.cells.toArray))] ⟨rfl, rfl, trivial⟩ ?_
  refine tr_seq ?_
  refine tr_region ?_
  refine tr_e (f_box (cs := p1.cells.toArray) rfl rfl H) rfl rfl ?_
  rintro _ h1 ⟨a2, rfl, H⟩
  refine tr_nil ?_
  refine tr_thenN ?_
  refine tr_seq ?_
  refine tr_region ?_
  refine tr_p (y_fa (off := 0) Try.runUnderlying46 fo_46_0 rfl) rfl rfl ?_
  obtain ⟨y3, k4, H⟩ := H
  refine tr_h (y_ld Try.isAgg3 rfl) k4 rfl rfl ?_
  refine tr_nil ?_
  refine tr_thenN ?_
  refine tr_block ?_
  refine tr_seq ?_
  refine tr_region ?_
  refine tr_p (y_eql rfl rfl) rfl rfl ?_
  refine tr_p (y_assign rfl) rfl rfl ?_
  refine tr_nil ?_
  refine tr_thenN ?_
  refine tr_cond rfl (fun g5 => ?_) (fun g5 => ?_)
  · replace H := H.1 g5
    refine tr_region ?_
    refine tr_p (y_move rfl) rfl rfl ?_
    refine tr_p (y_fa (off := 2) Try.runUnderlying46 fo_46_2 rfl) rfl rfl ?_
    obtain ⟨y6, k7, H⟩ := H
    refine tr_h (y_ld Try.isAgg9 rfl) k7 rfl rfl ?_
    refine tr_p (y_fa (off := 1) Try.runUnderlying46 fo_46_1 rfl) rfl rfl ?_
    obtain ⟨y8, k9, H⟩ := H
    refine tr_h (y_ld Try.isAgg3 rfl) k9 rfl rfl ?_
    refine tr_e (e_call Try.call20 rfl (F.table_Table_int_Put_ok H)) rfl rfl ?_
    rintro _ h10 ⟨rfl, H⟩
    refine tr_nil ?_
    refine tr_blockN ?_
    exact tr_end0 rfl ⟨rfl, H⟩
  · replace H := H.2 g5
    refine tr_seq ?_
    refine tr_region ?_
    refine tr_p (y_eql rfl rfl) rfl rfl ?_
    refine tr_p (y_assign rfl) rfl rfl ?_
    refine tr_nil ?_
    refine tr_thenN ?_
    refine tr_cond rfl (fun g11 => ?_) (fun g11 => ?_)
    · replace H := H.1 g11
      refine tr_region ?_
      refine tr_p (y_move rfl) rfl rfl ?_
      refine tr_p (y_fa (off := 2) Try.runUnderlying46 fo_46_2 rfl) rfl rfl ?_
      obtain ⟨y12, k13, H⟩ := H
      refine tr_h (y_ld Try.isAgg9 rfl) k13 rfl rfl ?_
      refine tr_e (e_call Try.call22 rfl (F.table_Table_int_Drop_ok H)) rfl rfl ?_
      rintro _ h14 ⟨r15, r16, rfl, H⟩
      refine tr_nil ?_
      refine tr_blockN ?_
      exact tr_end0 rfl ⟨rfl, H⟩
    · replace H := H.2 g11
      refine tr_seq ?_
      refine tr_region ?_
      refine tr_p (y_eql rfl rfl) rfl rfl ?_
      refine tr_p (y_assign rfl) rfl rfl ?_
      refine tr_nil ?_
      refine tr_thenN ?_
      refine tr_cond rfl (fun g17 => ?_) (fun g17 => ?_)
      · replace H := H.1 g17
        refine tr_region ?_
        refine tr_p (y_move rfl) rfl rfl ?_
        refine tr_p (y_fa (off := 1) Try.runUnderlying46 fo_46_1 rfl) rfl rfl ?_
        obtain ⟨y18, k19, H⟩ := H
        refine tr_h (y_ld Try.isAgg3 rfl) k19 rfl rfl ?_
        refine tr_e (e_call Try.call26 rfl (F.table_Table_int_Move_ok H)) rfl rfl ?_
        rintro _ h20 ⟨r21, rfl, H⟩
        refine tr_nil ?_
        refine tr_blockN ?_
        exact tr_end0 rfl ⟨rfl, H⟩
      · replace H := H.2 g17
        refine tr_skip ?_
        refine tr_blockN ?_
        exact tr_end0 rfl ⟨rfl, H⟩

def F.spatelaw6_TableWalks.j2 (Q : Bool → H → Prop) (C1 : List Nat → Sl → Addr → Addr → Addr → Int → H → Prop) (ds : List Nat) (x0 : Sl) (x3 : Addr) (x4 : Addr) (x5 : Addr) (x6 : Int) (h : H) : Prop :=
  ldP h x5 fun y17 =>
  idxA x0 x6 3 fun a19 =>
  ld_S_spatelaw6_Step h a19 fun y21 =>
  F.spatelaw6_do y17 y21 h fun h23 =>
  C1 ds x0 x3 x4 x5 (IntKind.wrap .i64 (x6 + 1)) h23
def F.spatelaw6_TableWalks.j5 (Q : Bool → H → Prop) (C1 : List Nat → Addr → Addr → Addr → Addr → Addr → Addr → Addr → H → Prop) (ds : List Nat) (x3 : Addr) (x4 : Addr) (x5 : Addr) (x7 : Addr) (x8 : Addr) (x9 : Addr) (x12 : Addr) (h : H) : Prop :=
  ldI .i64 h x12 fun y72 =>
  new h #[(.int .i64 0)] ty_3 fun a75 h74 =>
  stH h74 a75 [(.int .i64 y72)] fun h76 =>
  ldI .i64 h76 a75 fun y77 =>
  stH h76 a75 [(.int .i64 (IntKind.wrap .i64 (y77 + 1)))] fun h79 =>
  C1 ds x3 x4 x5 x7 x8 x9 a75 h79
def F.spatelaw6_TableWalks.j7 (Q : Bool → H → Prop) (C1 : List Nat → Addr → Addr → Addr → Addr → Addr → Addr → Addr → H → Prop) (ds : List Nat) (x3 : Addr) (x4 : Addr) (x5 : Addr) (x7 : Addr) (x8 : Addr) (x9 : Addr) (x12 : Addr) (x134 : Bool) (h : H) : Prop :=
  (x134 = true →
  stH h x4 [(.bool false)] fun h84 =>
  shuts ds h84 fun h85 =>
  ldB h85 x4 fun y86 =>
  Q y86 h85) ∧
  (x134 = false →
  F.spatelaw6_TableWalks.j5 Q C1 ds x3 x4 x5 x7 x8 x9 x12 h)
def F.spatelaw6_TableWalks.j6 (Q : Bool → H → Prop) (C1 : List Nat → Addr → Addr → Addr → Addr → Addr → Addr → Addr → H → Prop) (ds : List Nat) (x3 : Addr) (x4 : Addr) (x5 : Addr) (x7 : Addr) (x8 : Addr) (x9 : Addr) (x12 : Addr) (x13 : Addr) (h : H) : Prop :=
  ldI .i64 h x12 fun y88 =>
  ((decide (y88 > 0)) = true →
  ldI .i64 h x13 fun y91 =>
  ldL h x7 fun y93 =>
  F.spatelaw6_TableWalks.j7 Q C1 ds x3 x4 x5 x7 x8 x9 x12 ((y91 != (y93.len : Int))) h) ∧
  ((decide (y88 > 0)) = false →
  F.spatelaw6_TableWalks.j7 Q C1 ds x3 x4 x5 x7 x8 x9 x12 false h)
def F.spatelaw6_TableWalks.j10 (Q : Bool → H → Prop) (K2 : H → Prop) (J2 : Nat → H → Prop) (l2 : Nat) (x126 : Bool) (h : H) : Prop :=
  (x126 = true →
  J2 1 h) ∧
  (x126 = false →
  K2 h)
def F.spatelaw6_TableWalks.j9 (Q : Bool → H → Prop) (K2 : H → Prop) (J2 : Nat → H → Prop) (l2 : Nat) (x3 : Addr) (x5 : Addr) (x12 : Addr) (x13 : Addr) (x14 : ByteArray) (h : H) : Prop :=
  ldP h x5 fun y104 =>
  F.table_Table_int_Drop y104 x14 h fun r107 r108 h106 =>
  ldP h106 x5 fun y109 =>
  ((x14.size + (⟨#[33]⟩ : ByteArray).size : Nat) : Int) ≤ 9223372036854775807 ∧
  F.table_Table_int_Put y109 (x14 ++ (⟨#[33]⟩ : ByteArray)) (-9) h106 fun h112 =>
  ldI .i64 h112 x12 fun y114 =>
  (((y114 == 0)) = true →
  ldI .i64 h112 x13 fun y117 =>
  ldI .i64 h112 x3 fun y119 =>
  F.spatelaw6_TableWalks.j10 Q K2 J2 l2 (decide (y117 > y119)) h112) ∧
  (((y114 == 0)) = false →
  F.spatelaw6_TableWalks.j10 Q K2 J2 l2 false h112)
def F.spatelaw6_TableWalks.j11 (Q : Bool → H → Prop) (K3 : H → Prop) (J3 : Nat → H → Prop) (l3 : Nat) (x3 : Addr) (x16 : Addr) (h : H) : Prop :=
  ldI .i64 h x16 fun y124 =>
  stH h x16 [(.int .i64 (IntKind.wrap .i64 (y124 + 1)))] fun h126 =>
  ldI .i64 h126 x16 fun y127 =>
  ldI .i64 h126 x3 fun y129 =>
  ((decide (y127 > y129)) = true →
  J3 1 h126) ∧
  ((decide (y127 > y129)) = false →
  K3 h126)
def F.spatelaw6_TableWalks.j12 (Q : Bool → H → Prop) (K3 : H → Prop) (J3 : Nat → H → Prop) (l3 : Nat) (x3 : Addr) (x4 : Addr) (x16 : Addr) (x107 : Bool) (h : H) : Prop :=
  (x107 = true →
  stH h x4 [(.bool false)] fun h133 =>
  J3 0 h133) ∧
  (x107 = false →
  F.spatelaw6_TableWalks.j11 Q K3 J3 l3 x3 x16 h)
def F.spatelaw6_TableWalks.j8 (Q : Bool → H → Prop) (K2 : H → Prop) (J2 : Nat → H → Prop) (l2 : Nat) (x3 : Addr) (x4 : Addr) (x5 : Addr) (x7 : Addr) (x8 : Addr) (x9 : Addr) (x12 : Addr) (x13 : Addr) (x14 : ByteArray) (h : H) : Prop :=
  ldI .i64 h x13 fun y98 =>
  stH h x13 [(.int .i64 (IntKind.wrap .i64 (y98 + 1)))] fun h100 =>
  new h100 #[(.int .i64 0)] ty_3 fun a102 h101 =>
  stH h101 a102 [(.int .i64 0)] fun h103 =>
  ldV h103 x9 fun y121 =>
  rngN PP l2 y121 h103 [Code.ret, Code.exit 8] (fun bg3 l3 args h K3 J3 => ∃ (y3_86 : ByteArray), ∃ (y3_87 : Int), args = [(.string y3_86), (.int .i64 y3_87)] ∧
    bg3 h fun h123 =>
    ldI .i64 h123 a102 fun y134 =>
    ldL h123 x7 fun y136 =>
    ((decide (y134 ≥ (y136.len : Int))) = true →
    F.spatelaw6_TableWalks.j12 Q K3 J3 l3 x3 x4 a102 true h123) ∧
    ((decide (y134 ≥ (y136.len : Int))) = false →
    ldL h123 x7 fun y139 =>
    ldI .i64 h123 a102 fun y141 =>
    idxA y139 y141 1 fun a143 =>
    ldS h123 a143 fun y145 =>
    ((!(y3_86.toList == y145.toList)) = true →
    F.spatelaw6_TableWalks.j12 Q K3 J3 l3 x3 x4 a102 true h123) ∧
    ((!(y3_86.toList == y145.toList)) = false →
    ldL h123 x8 fun y148 =>
    ldI .i64 h123 a102 fun y150 =>
    idxA y148 y150 1 fun a152 =>
    ldI .i64 h123 a152 fun y154 =>
    F.spatelaw6_TableWalks.j12 Q K3 J3 l3 x3 x4 a102 ((y3_87 != y154)) h123))) (fun h156 =>
    F.spatelaw6_TableWalks.j9 Q K2 J2 l2 x3 x5 x12 x13 x14 h156) (fun jj h157 =>
    (jj = 0 →
      J2 0 h157) ∧
    (jj = 1 →
      F.spatelaw6_TableWalks.j9 Q K2 J2 l2 x3 x5 x12 x13 x14 h157))
def F.spatelaw6_TableWalks.j13 (Q : Bool → H → Prop) (K2 : H → Prop) (J2 : Nat → H → Prop) (l2 : Nat) (x3 : Addr) (x4 : Addr) (x5 : Addr) (x7 : Addr) (x8 : Addr) (x9 : Addr) (x12 : Addr) (x13 : Addr) (x14 : ByteArray) (x82 : Bool) (h : H) : Prop :=
  (x82 = true →
  stH h x4 [(.bool false)] fun h159 =>
  J2 0 h159) ∧
  (x82 = false →
  F.spatelaw6_TableWalks.j8 Q K2 J2 l2 x3 x4 x5 x7 x8 x9 x12 x13 x14 h)
def F.spatelaw6_TableWalks.l4 (Q : Bool → H → Prop) : Nat → List Nat → Addr → Addr → Addr → Addr → Addr → Addr → Addr → H → Prop
  | 0, _, _, _, _, _, _, _, _, _ => False
  | q4 + 1, ds, x3, x4, x5, x7, x8, x9, x12, h =>
    ldI .i64 h x12 fun y69 =>
    ((decide (y69 < 3)) = true →
    new h #[(.int .i64 0)] ty_3 fun a81 h80 =>
    stH h80 a81 [(.int .i64 0)] fun h82 =>
    ldV h82 x9 fun y95 =>
    rng PP y95 h82 [Code.ret, Code.exit 6] (fun bg2 l2 args h K2 J2 => ∃ (y2_61 : ByteArray), ∃ (y2_62 : Int), args = [(.string y2_61), (.int .i64 y2_62)] ∧
      bg2 h fun h97 =>
      ldI .i64 h97 a81 fun y160 =>
      ldL h97 x7 fun y162 =>
      ((decide (y160 ≥ (y162.len : Int))) = true →
      F.spatelaw6_TableWalks.j13 Q K2 J2 l2 x3 x4 x5 x7 x8 x9 x12 a81 y2_61 true h97) ∧
      ((decide (y160 ≥ (y162.len : Int))) = false →
      ldL h97 x7 fun y165 =>
      ldI .i64 h97 a81 fun y167 =>
      idxA y165 y167 1 fun a169 =>
      ldS h97 a169 fun y171 =>
      ((!(y2_61.toList == y171.toList)) = true →
      F.spatelaw6_TableWalks.j13 Q K2 J2 l2 x3 x4 x5 x7 x8 x9 x12 a81 y2_61 true h97) ∧
      ((!(y2_61.toList == y171.toList)) = false →
      ldL h97 x8 fun y174 =>
      ldI .i64 h97 a81 fun y176 =>
      idxA y174 y176 1 fun a178 =>
      ldI .i64 h97 a178 fun y180 =>
      F.spatelaw6_TableWalks.j13 Q K2 J2 l2 x3 x4 x5 x7 x8 x9 x12 a81 y2_61 ((y2_62 != y180)) h97))) (fun h182 =>
      F.spatelaw6_TableWalks.j6 Q (F.spatelaw6_TableWalks.l4 Q q4) (h82.size :: ds) x3 x4 x5 x7 x8 x9 x12 a81 h182) (fun jj h183 =>
      (jj = 0 →
        shuts (h82.size :: ds) h183 fun h184 =>
        ldB h184 x4 fun y185 =>
        Q y185 h184) ∧
      (jj = 1 →
        F.spatelaw6_TableWalks.j6 Q (F.spatelaw6_TableWalks.l4 Q q4) (h82.size :: ds) x3 x4 x5 x7 x8 x9 x12 a81 h183))) ∧
    ((decide (y69 < 3)) = false →
    stH h x4 [(.bool true)] fun h187 =>
    shuts ds h187 fun h188 =>
    ldB h188 x4 fun y189 =>
    Q y189 h188)
def F.spatelaw6_TableWalks.j3 (Q : Bool → H → Prop) (C1 : List Nat → Sl → Addr → Addr → Addr → Int → H → Prop) (ds : List Nat) (x0 : Sl) (x3 : Addr) (x4 : Addr) (x5 : Addr) (x6 : Int) (x29 : Bool) (h : H) : Prop :=
  (x29 = true →
  F.spatelaw6_TableWalks.j2 Q C1 ds x0 x3 x4 x5 x6 h) ∧
  (x29 = false →
  new h #[(⟨none, 0, 0⟩ : Sl).enc] ty_37 fun a26 h25 =>
  new h25 #[(⟨none, 0, 0⟩ : Sl).enc] ty_38 fun a28 h27 =>
  ldP h27 x5 fun y29 =>
  F.table_Table_int_All y29 h27 fun r32 h31 =>
  new h31 #[.nilFunc] ty_40 fun a34 h33 =>
  r32.cells = #[r32] ∧
  r32.oneCell' = true ∧
  stH h33 a34 [r32] fun h35 =>
  ldV h35 a34 fun y36 =>
  rng PP y36 h35 [] (fun bg1 l1 args h K1 J1 => ∃ (y1_41 : ByteArray), ∃ (y1_42 : Int), args = [(.string y1_41), (.int .i64 y1_42)] ∧
    bg1 h fun h38 =>
    ldL h38 a26 fun y39 =>
    newL h38 #[(.string y1_41)] ty_9 1 fun s42 h41 =>
    runL PP (Builtin.append_ #[37, 37] 37 #[y39.enc, s42.enc]) h41 fun s44 h43 =>
    stH h43 a26 [s44.enc] fun h45 =>
    ldL h45 a28 fun y46 =>
    newL h45 #[(.int .i64 y1_42)] ty_3 1 fun s49 h48 =>
    runL PP (Builtin.append_ #[38, 38] 38 #[y46.enc, s49.enc]) h48 fun s51 h50 =>
    stH h50 a28 [s51.enc] fun h52 =>
    K1 h52) (fun h53 =>
    ldL h53 a26 fun y54 =>
    ldP h53 x5 fun y56 =>
    F.table_Table_int_Len y56 h53 fun r59 h58 =>
    cellH h58 a26 = some y54.enc ∧
    ((((y54.len : Int) != r59)) = true →
    stH h58 x4 [(.bool false)] fun h62 =>
    shuts (h35.size :: ds) h62 fun h63 =>
    ldB h63 x4 fun y64 =>
    Q y64 h63) ∧
    ((((y54.len : Int) != r59)) = false →
    new h58 #[(.int .i64 0)] ty_3 fun a67 h66 =>
    stH h66 a67 [(.int .i64 0)] fun h68 =>
    ∃ m, F.spatelaw6_TableWalks.l4 Q m (h35.size :: ds) x3 x4 x5 a26 a28 a34 a67 h68)) (fun jj h192 =>
    True))
def F.spatelaw6_TableWalks.l1 (Q : Bool → H → Prop) : Nat → List Nat → Sl → Addr → Addr → Addr → Int → H → Prop
  | 0, _, _, _, _, _, _, _ => False
  | q1 + 1, ds, x0, x3, x4, x5, x6, h =>
    ((decide (x6 < (x0.len : Int))) = true →
    F.spatelaw6_TableWalks.j3 Q (F.spatelaw6_TableWalks.l1 Q q1) ds x0 x3 x4 x5 x6 (decide (x6 < 120)) h) ∧
    ((decide (x6 < (x0.len : Int))) = false →
    F.spatelaw6_TableWalks.j3 Q (F.spatelaw6_TableWalks.l1 Q q1) ds x0 x3 x4 x5 x6 false h)
/-- spate/spatelaw6.TableWalks -/
def F.spatelaw6_TableWalks (p0 : Sl) (p1 : Int) (h : H) (Q : Bool → H → Prop) : Prop :=
  new h #[(.int .i64 p1)] ty_3 fun a2 h1 =>
  new h1 #[(.bool false)] ty_4 fun a4 h3 =>
  F.spatelaw6_known  h3 fun r6 h5 =>
  ((!r6) = true →
  stH h5 a4 [(.bool false)] fun h8 =>
  shuts ([] : List Nat) h8 fun h9 =>
  ldB h9 a4 fun y10 =>
  Q y10 h9) ∧
  ((!r6) = false →
  F.table_New_int  h5 fun r13 h12 =>
  new h12 #[(.pointer none)] ty_30 fun a15 h14 =>
  stH h14 a15 [(.pointer r13)] fun h16 =>
  ∃ m, F.spatelaw6_TableWalks.l1 Q m ([] : List Nat) p0 a2 a4 a15 0 h16)
theorem F.spatelaw6_TableWalks_ok {p0 : Sl} {p1 : Int} {h : H} {Q : Bool → H → Prop} (H : F.spatelaw6_TableWalks p0 p1 h Q) : Fn PP 7 ([p0.enc, (.int .i64 p1)] : List Value).toArray h fun r h' => ∃ r0, r = (.bool r0) ∧ Q r0 h' := by
  unfold F.spatelaw6_TableWalks at H
  refine fn_ofM Try.func7 Try.ntmps7 rfl rfl fun w0 => ?_
  refine tr_sub [(0, p0.enc), (1, (.int .i64 p1))] ⟨rfl, rfl, trivial⟩ ?_
  refine tr_seq ?_
  refine tr_region ?_
  refine tr_e (f_box (cs := #[(.int .i64 p1)]) rfl rfl H) rfl rfl ?_
  rintro _ h1 ⟨a2, rfl, H⟩
  refine tr_e (f_alloc (cs := #[(.bool false)]) Try.zeroValue4 rfl H) rfl rfl ?_
  rintro _ h3 ⟨a4, rfl, H⟩
  refine tr_nil ?_
  refine tr_thenN ?_
  refine tr_seq ?_
  refine tr_seq ?_
  refine tr_region ?_
  refine tr_e (e_call Try.call17 rfl (F.spatelaw6_known_ok H)) rfl rfl ?_
  rintro _ h5 ⟨r6, rfl, H⟩
  refine tr_p (y_not rfl) rfl rfl ?_
  refine tr_nil ?_
  refine tr_thenN ?_
  refine tr_cond rfl (fun g7 => ?_) (fun g7 => ?_)
  · replace H := H.1 g7
    refine tr_seq ?_
    refine tr_region ?_
    refine tr_e (f_store (vs := [(.bool false)]) Try.sizeOf4 rfl rfl rfl rfl (one1 rfl) H) rfl rfl ?_
    rintro _ h8 ⟨rfl, H⟩
    refine tr_nil ?_
    refine tr_thenN ?_
    refine tr_ret ?_
    refine tr_thenR ?_
    refine tr_shut ([] : List Nat) rfl H fun h9 H => ?_
    obtain ⟨y10, k11, H⟩ := H
    exact tr_rv1 rfl (rv_cell Try.isAgg4 rfl k11) ⟨_, rfl, H⟩
  · replace H := H.2 g7
    refine tr_skip ?_
    refine tr_thenN ?_
    refine tr_seq ?_
    refine tr_region ?_
    refine tr_e (e_call Try.call19 rfl (F.table_New_int_ok H)) rfl rfl ?_
    rintro _ h12 ⟨r13, rfl, H⟩
    refine tr_e (f_alloc (cs := #[(.pointer none)]) Try.zeroValue30 rfl H) rfl rfl ?_
    rintro _ h14 ⟨a15, rfl, H⟩
    refine tr_e (f_store (vs := [(.pointer r13)]) Try.sizeOf30 rfl rfl rfl rfl (one1 rfl) H) rfl rfl ?_
    rintro _ h16 ⟨rfl, H⟩
    refine tr_nil ?_
    refine tr_thenN ?_
    refine tr_seq ?_
    refine tr_seq ?_
    refine tr_region ?_
    refine tr_p (y_assign rfl) rfl rfl ?_
    refine tr_nil ?_
    refine tr_thenN ?_
    refine tr_block ?_
    obtain ⟨m194, H⟩ := H
    refine tr_sub [(0, p0.enc), (3, (.pointer (some a2))), (4, (.pointer (some a4))), (5, (.pointer (some a15))), (6, (.int .i64 0))] ⟨rfl, rfl, rfl, rfl, rfl, trivial⟩ ?_
    refine tr_loop_jD (fun m ds L' h => ∃ (x0 : Sl) (x3 : Addr) (x4 : Addr) (x5 : Addr) (x6 : Int), L' = [(0, x0.enc), (3, (.pointer (some x3))), (4, (.pointer (some x4))), (5, (.pointer (some x5))), (6, (.int .i64 x6))] ∧ F.spatelaw6_TableWalks.l1 Q m ds x0 x3 x4 x5 x6 h) ?_ ?_ m194 ([] : List Nat) rfl ⟨_, _, _, _, _, rfl, H⟩
    · rintro ds L' h ⟨_, _, _, _, _, _, H⟩; exact H
    · rintro q1 ds L' h ⟨x0, x3, x4, x5, x6, rfl, H⟩
      unfold F.spatelaw6_TableWalks.l1 at H
      refine tr_seq_jD (fun ds L' h => ∃ (x0 : Sl) (x3 : Addr) (x4 : Addr) (x5 : Addr) (x6 : Int), L' = [(0, x0.enc), (3, (.pointer (some x3))), (4, (.pointer (some x4))), (5, (.pointer (some x5))), (6, (.int .i64 x6))] ∧ F.spatelaw6_TableWalks.j2 Q (F.spatelaw6_TableWalks.l1 Q q1) ds x0 x3 x4 x5 x6 h) ?_ ?_
      · rintro ds L' h ⟨x0, x3, x4, x5, x6, rfl, H⟩
        unfold F.spatelaw6_TableWalks.j2 at H
        refine tr_seq ?_
        refine tr_block ?_
        refine tr_draw mixed [0, 0, 0, 6, 14, 31] (by kernel_rfl) ?_
        obtain ⟨y17, k18, H⟩ := H
        refine g_h 0 1 rfl (by kernel_rfl) (y_ld Try.isAgg30 rfl) k18 rfl rfl ?_
        refine g_p 1 3 rfl (by kernel_rfl) (y_move rfl) rfl rfl ?_
        refine g_p 2 7 rfl (by kernel_rfl) (y_move rfl) rfl rfl ?_
        obtain ⟨a19, e20, H⟩ := H
        refine g_p 3 15 rfl (by kernel_rfl) (f_idx (s := x0) Try.runUnderlying43 Try.sizeOf46 rfl rfl e20) rfl rfl ?_
        obtain ⟨y21, k22, H⟩ := H
        refine g_h 4 31 rfl (by kernel_rfl) (y_ldS Try.isAgg46 Try.sizeOf46 rfl rfl) k22 rfl rfl ?_
        refine g_e 5 63 [] (by kernel_rfl) rfl (by kernel_rfl) (e_call Try.call30 rfl (F.spatelaw6_do_ok H)) rfl rfl ?_
        rintro _ h23 ⟨rfl, H⟩
        refine ⟨trivial, ?_⟩
        refine g_d (by kernel_rfl) ?_
        refine tr_blockN ?_
        refine tr_thenN ?_
        refine tr_region ?_
        refine tr_p (y_move rfl) rfl rfl ?_
        refine tr_p (y_add rfl rfl) rfl rfl ?_
        refine tr_p (y_assign rfl) rfl rfl ?_
        refine tr_nil ?_
        refine tr_thenN ?_
        exact tr_joinD ds [(0, x0.enc), (3, (.pointer (some x3))), (4, (.pointer (some x4))), (5, (.pointer (some x5))), (6, (.int .i64 (IntKind.wrap .i64 (x6 + 1))))] rfl ⟨rfl, rfl, rfl, rfl, rfl, trivial⟩ ⟨_, _, _, _, _, rfl, H⟩
      · refine tr_seq_jD (fun ds L' h => ∃ (x0 : Sl) (x3 : Addr) (x4 : Addr) (x5 : Addr) (x6 : Int) (x29 : Bool), L' = [(0, x0.enc), (3, (.pointer (some x3))), (4, (.pointer (some x4))), (5, (.pointer (some x5))), (6, (.int .i64 x6)), (29, (.bool x29))] ∧ F.spatelaw6_TableWalks.j3 Q (F.spatelaw6_TableWalks.l1 Q q1) ds x0 x3 x4 x5 x6 x29 h) ?_ ?_
        · rintro ds L' h ⟨x0, x3, x4, x5, x6, x29, rfl, H⟩
          unfold F.spatelaw6_TableWalks.j3 at H
          refine tr_cond rfl (fun g24 => ?_) (fun g24 => ?_)
          · replace H := H.1 g24
            refine tr_skip ?_
            refine tr_thenN ?_
            exact tr_joinD ds [(0, x0.enc), (3, (.pointer (some x3))), (4, (.pointer (some x4))), (5, (.pointer (some x5))), (6, (.int .i64 x6))] rfl ⟨rfl, rfl, rfl, rfl, rfl, trivial⟩ ⟨_, _, _, _, _, rfl, H⟩
          · replace H := H.2 g24
            refine tr_exit ?_
            refine tr_thenE ?_
            refine tr_thenE ?_
            refine tr_hit ?_
            refine tr_thenN ?_
            refine tr_seq ?_
            refine tr_region ?_
            refine tr_e (f_alloc (cs := #[(⟨none, 0, 0⟩ : Sl).enc]) Try.zeroValue37 rfl H) rfl rfl ?_
            rintro _ h25 ⟨a26, rfl, H⟩
            refine tr_nil ?_
            refine tr_thenN ?_
            refine tr_seq ?_
            refine tr_region ?_
            refine tr_e (f_alloc (cs := #[(⟨none, 0, 0⟩ : Sl).enc]) Try.zeroValue38 rfl H) rfl rfl ?_
            rintro _ h27 ⟨a28, rfl, H⟩
            refine tr_nil ?_
            refine tr_thenN ?_
            refine tr_seq ?_
            refine tr_region ?_
            obtain ⟨y29, k30, H⟩ := H
            refine tr_h (y_ld Try.isAgg30 rfl) k30 rfl rfl ?_
            refine tr_e (e_call Try.call29 rfl (F.table_Table_int_All_ok H)) rfl rfl ?_
            rintro r32 h31 ⟨_, rfl, H⟩
            refine tr_e (f_alloc (cs := #[.nilFunc]) Try.zeroValue40 rfl H) rfl rfl ?_
            rintro _ h33 ⟨a34, rfl, H⟩
            refine tr_e (f_store (vs := [r32]) Try.sizeOf40 rfl rfl (congrArg Array.toList H.1) rfl (one1 H.2.1) H.2.2) rfl rfl ?_
            rintro _ h35 ⟨rfl, H⟩
            refine tr_nil ?_
            refine tr_thenN ?_
            refine tr_seq ?_
            refine tr_seq ?_
            refine tr_region ?_
            obtain ⟨y36, k37, H⟩ := H
            refine tr_h (y_ld Try.isAgg40 rfl) k37 rfl rfl ?_
            refine tr_nil ?_
            refine tr_thenN ?_
            refine tr_block ?_
            refine tr_range rfl (by kernel_rfl) H ?_ ?_ ?_
            · intro bg1 l1 args h K1 J1 w1 hbg1 H
              obtain ⟨y1_41, y1_42, rfl, H⟩ := H
              refine ⟨rfl, ?_⟩
              refine tr_sub [(0, x0.enc), (3, (.pointer (some x3))), (4, (.pointer (some x4))), (5, (.pointer (some x5))), (6, (.int .i64 x6)), (29, (.bool x29)), (7, (.pointer (some a26))), (8, (.pointer (some a28))), (38, (.pointer y29)), (39, r32), (9, (.pointer (some a34))), (40, y36), (41, (.string y1_41)), (42, (.int .i64 y1_42))] ⟨rfl, rfl, rfl, rfl, rfl, rfl, rfl, rfl, rfl, rfl, rfl, rfl, rfl, rfl, trivial⟩ ?_
              refine tr_seq ?_
              refine tr_region ?_
              refine tr_p (y_assign rfl) rfl rfl ?_
              refine tr_nil ?_
              refine tr_thenN ?_
              refine tr_region ?_
              refine tr_p (y_assign rfl) rfl rfl ?_
              refine tr_nil ?_
              refine tr_thenN ?_
              refine tr_bgn hbg1 H fun h38 H => ?_
              refine tr_block ?_
              refine tr_seq ?_
              refine tr_region ?_
              obtain ⟨y39, k40, H⟩ := H
              refine tr_h (y_ld Try.isAgg37 rfl) k40 rfl rfl ?_
              refine tr_p (y_move rfl) rfl rfl ?_
              refine tr_e (f_buildL (cs := #[(.string y1_41)]) rfl rfl (bl_37_1_0 y1_41) H) rfl rfl ?_
              rintro _ h41 ⟨s42, rfl, H⟩
              refine tr_e (f_app rfl H) rfl rfl ?_
              rintro _ h43 ⟨s44, rfl, H⟩
              refine tr_e (f_store (vs := [s44.enc]) Try.sizeOf37 rfl rfl rfl rfl (one1 rfl) H) rfl rfl ?_
              rintro _ h45 ⟨rfl, H⟩
              refine tr_nil ?_
              refine tr_thenN ?_
              refine tr_region ?_
              obtain ⟨y46, k47, H⟩ := H
              refine tr_h (y_ld Try.isAgg38 rfl) k47 rfl rfl ?_
              refine tr_p (y_move rfl) rfl rfl ?_
              refine tr_e (f_buildL (cs := #[(.int .i64 y1_42)]) rfl rfl (bl_38_1_0 y1_42) H) rfl rfl ?_
              rintro _ h48 ⟨s49, rfl, H⟩
              refine tr_e (f_app rfl H) rfl rfl ?_
              rintro _ h50 ⟨s51, rfl, H⟩
              refine tr_e (f_store (vs := [s51.enc]) Try.sizeOf38 rfl rfl rfl rfl (one1 rfl) H) rfl rfl ?_
              rintro _ h52 ⟨rfl, H⟩
              refine tr_nil ?_
              refine tr_blockN ?_
              exact tr_rN H
            · intro h53 H
              refine tr_blockN ?_
              refine tr_thenN ?_
              refine tr_seq ?_
              refine tr_seq ?_
              refine tr_draw mixed [0, 1, 0, 4, 15] (by kernel_rfl) ?_
              obtain ⟨y54, k55, H⟩ := H
              refine g_h 0 1 rfl (by kernel_rfl) (y_ld Try.isAgg37 rfl) k55 rfl rfl ?_
              refine g_p 1 3 rfl (by kernel_rfl) (y_len (ts := #[]) Try.runUnderlying37 (o := y54.ptr) (n := y54.len) (cap := y54.cap) rfl) rfl rfl ?_
              obtain ⟨y56, k57, H⟩ := H
              refine g_h 2 7 rfl (by kernel_rfl) (y_ld Try.isAgg30 rfl) k57 rfl rfl ?_
              refine g_e 3 15 [(0, fun h => cellH h a26 = some y54.enc)] (by kernel_rfl) rfl (by kernel_rfl) (e_call Try.call23 rfl (F.table_Table_int_Len_ok H)) rfl rfl ?_
              rintro _ h58 ⟨r59, rfl, H⟩
              obtain ⟨k60, H⟩ := H
              refine ⟨And.intro k60 trivial, ?_⟩
              refine g_p 4 31 rfl (by kernel_rfl) (y_neq rfl rfl) rfl rfl ?_
              refine g_d (by kernel_rfl) ?_
              refine tr_thenN ?_
              refine tr_cond rfl (fun g61 => ?_) (fun g61 => ?_)
              · replace H := H.1 g61
                refine tr_seq ?_
                refine tr_region ?_
                refine tr_e (f_store (vs := [(.bool false)]) Try.sizeOf4 rfl rfl rfl rfl (one1 rfl) H) rfl rfl ?_
                rintro _ h62 ⟨rfl, H⟩
                refine tr_nil ?_
                refine tr_thenN ?_
                refine tr_ret ?_
                refine tr_thenR ?_
                refine tr_shut (h35.size :: ds) rfl H fun h63 H => ?_
                obtain ⟨y64, k65, H⟩ := H
                exact tr_rv1 rfl (rv_cell Try.isAgg4 rfl k65) ⟨_, rfl, H⟩
              · replace H := H.2 g61
                refine tr_skip ?_
                refine tr_thenN ?_
                refine tr_seq ?_
                refine tr_seq ?_
                refine tr_region ?_
                refine tr_e (f_alloc (cs := #[(.int .i64 0)]) Try.zeroValue3 rfl H) rfl rfl ?_
                rintro _ h66 ⟨a67, rfl, H⟩
                refine tr_e (f_store (vs := [(.int .i64 0)]) Try.sizeOf3 rfl rfl rfl rfl (one1 rfl) H) rfl rfl ?_
                rintro _ h68 ⟨rfl, H⟩
                refine tr_nil ?_
                refine tr_thenN ?_
                refine tr_block ?_
                obtain ⟨m191, H⟩ := H
                refine tr_sub [(3, (.pointer (some x3))), (4, (.pointer (some x4))), (5, (.pointer (some x5))), (7, (.pointer (some a26))), (8, (.pointer (some a28))), (9, (.pointer (some a34))), (12, (.pointer (some a67)))] ⟨rfl, rfl, rfl, rfl, rfl, rfl, rfl, trivial⟩ ?_
                refine tr_loop_jD (fun m ds L' h => ∃ (x3 : Addr) (x4 : Addr) (x5 : Addr) (x7 : Addr) (x8 : Addr) (x9 : Addr) (x12 : Addr), L' = [(3, (.pointer (some x3))), (4, (.pointer (some x4))), (5, (.pointer (some x5))), (7, (.pointer (some x7))), (8, (.pointer (some x8))), (9, (.pointer (some x9))), (12, (.pointer (some x12)))] ∧ F.spatelaw6_TableWalks.l4 Q m ds x3 x4 x5 x7 x8 x9 x12 h) ?_ ?_ m191 (h35.size :: ds) rfl ⟨_, _, _, _, _, _, _, rfl, H⟩
                · rintro ds L' h ⟨_, _, _, _, _, _, _, _, H⟩; exact H
                · rintro q4 ds L' h ⟨x3, x4, x5, x7, x8, x9, x12, rfl, H⟩
                  unfold F.spatelaw6_TableWalks.l4 at H
                  refine tr_seq ?_
                  refine tr_seq ?_
                  refine tr_region ?_
                  obtain ⟨y69, k70, H⟩ := H
                  refine tr_h (y_ld Try.isAgg3 rfl) k70 rfl rfl ?_
                  refine tr_p (y_lss rfl rfl) rfl rfl ?_
                  refine tr_nil ?_
                  refine tr_thenN ?_
                  refine tr_cond rfl (fun g71 => ?_) (fun g71 => ?_)
                  · replace H := H.1 g71
                    refine tr_skip ?_
                    refine tr_thenN ?_
                    refine tr_seq_jD (fun ds L' h => ∃ (x3 : Addr) (x4 : Addr) (x5 : Addr) (x7 : Addr) (x8 : Addr) (x9 : Addr) (x12 : Addr), L' = [(3, (.pointer (some x3))), (4, (.pointer (some x4))), (5, (.pointer (some x5))), (7, (.pointer (some x7))), (8, (.pointer (some x8))), (9, (.pointer (some x9))), (12, (.pointer (some x12)))] ∧ F.spatelaw6_TableWalks.j5 Q (F.spatelaw6_TableWalks.l4 Q q4) ds x3 x4 x5 x7 x8 x9 x12 h) ?_ ?_
                    · rintro ds L' h ⟨x3, x4, x5, x7, x8, x9, x12, rfl, H⟩
                      unfold F.spatelaw6_TableWalks.j5 at H
                      refine tr_seq ?_
                      refine tr_seq ?_
                      refine tr_region ?_
                      obtain ⟨y72, k73, H⟩ := H
                      refine tr_h (y_ld Try.isAgg3 rfl) k73 rfl rfl ?_
                      refine tr_nil ?_
                      refine tr_thenN ?_
                      refine tr_region ?_
                      refine tr_e (f_alloc (cs := #[(.int .i64 0)]) Try.zeroValue3 rfl H) rfl rfl ?_
                      rintro _ h74 ⟨a75, rfl, H⟩
                      refine tr_e (f_store (vs := [(.int .i64 y72)]) Try.sizeOf3 rfl rfl rfl rfl (one1 rfl) H) rfl rfl ?_
                      rintro _ h76 ⟨rfl, H⟩
                      refine tr_nil ?_
                      refine tr_thenN ?_
                      refine tr_region ?_
                      obtain ⟨y77, k78, H⟩ := H
                      refine tr_h (y_ld Try.isAgg3 rfl) k78 rfl rfl ?_
                      refine tr_p (y_add rfl rfl) rfl rfl ?_
                      refine tr_e (f_store (vs := [(.int .i64 (IntKind.wrap .i64 (y77 + 1)))]) Try.sizeOf3 rfl rfl rfl rfl (one1 rfl) H) rfl rfl ?_
                      rintro _ h79 ⟨rfl, H⟩
                      refine tr_nil ?_
                      refine tr_thenN ?_
                      exact tr_joinD ds [(3, (.pointer (some x3))), (4, (.pointer (some x4))), (5, (.pointer (some x5))), (7, (.pointer (some x7))), (8, (.pointer (some x8))), (9, (.pointer (some x9))), (12, (.pointer (some a75)))] rfl ⟨rfl, rfl, rfl, rfl, rfl, rfl, rfl, trivial⟩ ⟨_, _, _, _, _, _, _, rfl, H⟩
                    · refine tr_block ?_
                      refine tr_seq ?_
                      refine tr_region ?_
                      refine tr_e (f_alloc (cs := #[(.int .i64 0)]) Try.zeroValue3 rfl H) rfl rfl ?_
                      rintro _ h80 ⟨a81, rfl, H⟩
                      refine tr_e (f_store (vs := [(.int .i64 0)]) Try.sizeOf3 rfl rfl rfl rfl (one1 rfl) H) rfl rfl ?_
                      rintro _ h82 ⟨rfl, H⟩
                      refine tr_nil ?_
                      refine tr_thenN ?_
                      refine tr_seq_jD (fun ds L' h => ∃ (x3 : Addr) (x4 : Addr) (x5 : Addr) (x7 : Addr) (x8 : Addr) (x9 : Addr) (x12 : Addr) (x13 : Addr), L' = [(3, (.pointer (some x3))), (4, (.pointer (some x4))), (5, (.pointer (some x5))), (7, (.pointer (some x7))), (8, (.pointer (some x8))), (9, (.pointer (some x9))), (12, (.pointer (some x12))), (13, (.pointer (some x13)))] ∧ F.spatelaw6_TableWalks.j6 Q (F.spatelaw6_TableWalks.l4 Q q4) ds x3 x4 x5 x7 x8 x9 x12 x13 h) ?_ ?_
                      · rintro ds L' h ⟨x3, x4, x5, x7, x8, x9, x12, x13, rfl, H⟩
                        unfold F.spatelaw6_TableWalks.j6 at H
                        refine tr_seq_jD (fun ds L' h => ∃ (x3 : Addr) (x4 : Addr) (x5 : Addr) (x7 : Addr) (x8 : Addr) (x9 : Addr) (x12 : Addr) (x134 : Bool), L' = [(3, (.pointer (some x3))), (4, (.pointer (some x4))), (5, (.pointer (some x5))), (7, (.pointer (some x7))), (8, (.pointer (some x8))), (9, (.pointer (some x9))), (12, (.pointer (some x12))), (134, (.bool x134))] ∧ F.spatelaw6_TableWalks.j7 Q (F.spatelaw6_TableWalks.l4 Q q4) ds x3 x4 x5 x7 x8 x9 x12 x134 h) ?_ ?_
                        · rintro ds L' h ⟨x3, x4, x5, x7, x8, x9, x12, x134, rfl, H⟩
                          unfold F.spatelaw6_TableWalks.j7 at H
                          refine tr_cond rfl (fun g83 => ?_) (fun g83 => ?_)
                          · replace H := H.1 g83
                            refine tr_seq ?_
                            refine tr_region ?_
                            refine tr_e (f_store (vs := [(.bool false)]) Try.sizeOf4 rfl rfl rfl rfl (one1 rfl) H) rfl rfl ?_
                            rintro _ h84 ⟨rfl, H⟩
                            refine tr_nil ?_
                            refine tr_thenN ?_
                            refine tr_ret ?_
                            refine tr_blockR ?_
                            refine tr_thenR ?_
                            refine tr_thenR ?_
                            refine tr_blockR ?_
                            refine tr_thenR ?_
                            refine tr_shut ds rfl H fun h85 H => ?_
                            obtain ⟨y86, k87, H⟩ := H
                            exact tr_rv1 rfl (rv_cell Try.isAgg4 rfl k87) ⟨_, rfl, H⟩
                          · replace H := H.2 g83
                            refine tr_skip ?_
                            refine tr_blockN ?_
                            refine tr_thenN ?_
                            exact tr_joinD ds [(3, (.pointer (some x3))), (4, (.pointer (some x4))), (5, (.pointer (some x5))), (7, (.pointer (some x7))), (8, (.pointer (some x8))), (9, (.pointer (some x9))), (12, (.pointer (some x12)))] rfl ⟨rfl, rfl, rfl, rfl, rfl, rfl, rfl, trivial⟩ ⟨_, _, _, _, _, _, _, rfl, H⟩
                        · refine tr_region ?_
                          obtain ⟨y88, k89, H⟩ := H
                          refine tr_h (y_ld Try.isAgg3 rfl) k89 rfl rfl ?_
                          refine tr_p (y_gtr rfl rfl) rfl rfl ?_
                          refine tr_p (y_move rfl) rfl rfl ?_
                          refine tr_split (t := 129) rfl (fun g90 => ?_) (fun g90 => ?_)
                          · replace H := H.1 g90
                            obtain ⟨y91, k92, H⟩ := H
                            refine tr_h (y_ld Try.isAgg3 rfl) k92 rfl rfl ?_
                            obtain ⟨y93, k94, H⟩ := H
                            refine tr_h (y_ld Try.isAgg37 rfl) k94 rfl rfl ?_
                            refine tr_p (y_len (ts := #[]) Try.runUnderlying37 (o := y93.ptr) (n := y93.len) (cap := y93.cap) rfl) rfl rfl ?_
                            refine tr_p (y_neq rfl rfl) rfl rfl ?_
                            refine tr_p (y_pick_t rfl rfl) rfl rfl ?_
                            refine tr_nil ?_
                            refine tr_thenN ?_
                            exact tr_joinD ds [(3, (.pointer (some x3))), (4, (.pointer (some x4))), (5, (.pointer (some x5))), (7, (.pointer (some x7))), (8, (.pointer (some x8))), (9, (.pointer (some x9))), (12, (.pointer (some x12))), (134, (.bool ((y91 != (y93.len : Int)))))] rfl ⟨rfl, rfl, rfl, rfl, rfl, rfl, rfl, rfl, trivial⟩ ⟨_, _, _, _, _, _, _, _, rfl, H⟩
                          · replace H := H.2 g90
                            refine tr_s rfl rfl ?_
                            refine tr_s rfl rfl ?_
                            refine tr_s rfl rfl ?_
                            refine tr_s rfl rfl ?_
                            refine tr_p (y_pick_f rfl rfl) rfl rfl ?_
                            refine tr_nil ?_
                            refine tr_thenN ?_
                            exact tr_joinD ds [(3, (.pointer (some x3))), (4, (.pointer (some x4))), (5, (.pointer (some x5))), (7, (.pointer (some x7))), (8, (.pointer (some x8))), (9, (.pointer (some x9))), (12, (.pointer (some x12))), (134, (.bool false))] rfl ⟨rfl, rfl, rfl, rfl, rfl, rfl, rfl, rfl, trivial⟩ ⟨_, _, _, _, _, _, _, _, rfl, H⟩
                      · refine tr_seq ?_
                        refine tr_region ?_
                        obtain ⟨y95, k96, H⟩ := H
                        refine tr_h (y_ld Try.isAgg40 rfl) k96 rfl rfl ?_
                        refine tr_nil ?_
                        refine tr_thenN ?_
                        refine tr_block ?_
                        refine tr_range rfl (by kernel_rfl) H ?_ ?_ ?_
                        · intro bg2 l2 args h K2 J2 w2 hbg2 H
                          obtain ⟨y2_61, y2_62, rfl, H⟩ := H
                          refine ⟨rfl, ?_⟩
                          refine tr_sub [(3, (.pointer (some x3))), (4, (.pointer (some x4))), (5, (.pointer (some x5))), (7, (.pointer (some x7))), (8, (.pointer (some x8))), (9, (.pointer (some x9))), (12, (.pointer (some x12))), (56, (.int .i64 y69)), (57, (.bool (decide (y69 < 3)))), (13, (.pointer (some a81))), (60, y95), (61, (.string y2_61)), (62, (.int .i64 y2_62))] ⟨rfl, rfl, rfl, rfl, rfl, rfl, rfl, rfl, rfl, rfl, rfl, rfl, rfl, trivial⟩ ?_
                          refine tr_seq ?_
                          refine tr_region ?_
                          refine tr_p (y_assign rfl) rfl rfl ?_
                          refine tr_nil ?_
                          refine tr_thenN ?_
                          refine tr_region ?_
                          refine tr_p (y_assign rfl) rfl rfl ?_
                          refine tr_nil ?_
                          refine tr_thenN ?_
                          refine tr_bgn hbg2 H fun h97 H => ?_
                          refine tr_block ?_
                          refine tr_seq_j (fun L' h => ∃ (x3 : Addr) (x4 : Addr) (x5 : Addr) (x7 : Addr) (x8 : Addr) (x9 : Addr) (x12 : Addr) (x13 : Addr) (x14 : ByteArray), L' = [(3, (.pointer (some x3))), (4, (.pointer (some x4))), (5, (.pointer (some x5))), (7, (.pointer (some x7))), (8, (.pointer (some x8))), (9, (.pointer (some x9))), (12, (.pointer (some x12))), (13, (.pointer (some x13))), (14, (.string x14))] ∧ F.spatelaw6_TableWalks.j8 Q K2 J2 l2 x3 x4 x5 x7 x8 x9 x12 x13 x14 h) ?_ ?_
                          · rintro L' h ⟨x3, x4, x5, x7, x8, x9, x12, x13, x14, rfl, H⟩
                            unfold F.spatelaw6_TableWalks.j8 at H
                            refine tr_seq ?_
                            refine tr_region ?_
                            obtain ⟨y98, k99, H⟩ := H
                            refine tr_h (y_ld Try.isAgg3 rfl) k99 rfl rfl ?_
                            refine tr_p (y_add rfl rfl) rfl rfl ?_
                            refine tr_e (f_store (vs := [(.int .i64 (IntKind.wrap .i64 (y98 + 1)))]) Try.sizeOf3 rfl rfl rfl rfl (one1 rfl) H) rfl rfl ?_
                            rintro _ h100 ⟨rfl, H⟩
                            refine tr_nil ?_
                            refine tr_thenN ?_
                            refine tr_seq ?_
                            refine tr_region ?_
                            refine tr_e (f_alloc (cs := #[(.int .i64 0)]) Try.zeroValue3 rfl H) rfl rfl ?_
                            rintro _ h101 ⟨a102, rfl, H⟩
                            refine tr_e (f_store (vs := [(.int .i64 0)]) Try.sizeOf3 rfl rfl rfl rfl (one1 rfl) H) rfl rfl ?_
                            rintro _ h103 ⟨rfl, H⟩
                            refine tr_nil ?_
                            refine tr_thenN ?_
                            refine tr_seq_j (fun L' h => ∃ (x3 : Addr) (x5 : Addr) (x12 : Addr) (x13 : Addr) (x14 : ByteArray), L' = [(3, (.pointer (some x3))), (5, (.pointer (some x5))), (12, (.pointer (some x12))), (13, (.pointer (some x13))), (14, (.string x14))] ∧ F.spatelaw6_TableWalks.j9 Q K2 J2 l2 x3 x5 x12 x13 x14 h) ?_ ?_
                            · rintro L' h ⟨x3, x5, x12, x13, x14, rfl, H⟩
                              unfold F.spatelaw6_TableWalks.j9 at H
                              refine tr_seq ?_
                              refine tr_region ?_
                              obtain ⟨y104, k105, H⟩ := H
                              refine tr_h (y_ld Try.isAgg30 rfl) k105 rfl rfl ?_
                              refine tr_p (y_move rfl) rfl rfl ?_
                              refine tr_e (e_call Try.call22 rfl (F.table_Table_int_Drop_ok H)) rfl rfl ?_
                              rintro _ h106 ⟨r107, r108, rfl, H⟩
                              refine tr_nil ?_
                              refine tr_thenN ?_
                              refine tr_seq ?_
                              refine tr_region ?_
                              obtain ⟨y109, k110, H⟩ := H
                              refine tr_h (y_ld Try.isAgg30 rfl) k110 rfl rfl ?_
                              refine tr_p (y_move rfl) rfl rfl ?_
                              obtain ⟨e111, H⟩ := H
                              refine tr_p (y_sadd rfl rfl e111) rfl rfl ?_
                              refine tr_e (e_call Try.call20 rfl (F.table_Table_int_Put_ok H)) rfl rfl ?_
                              rintro _ h112 ⟨rfl, H⟩
                              refine tr_nil ?_
                              refine tr_thenN ?_
                              refine tr_seq_j (fun L' h => ∃ (x126 : Bool), L' = [(126, (.bool x126))] ∧ F.spatelaw6_TableWalks.j10 Q K2 J2 l2 x126 h) ?_ ?_
                              · rintro L' h ⟨x126, rfl, H⟩
                                unfold F.spatelaw6_TableWalks.j10 at H
                                refine tr_cond rfl (fun g113 => ?_) (fun g113 => ?_)
                                · replace H := H.1 g113
                                  refine tr_exit ?_
                                  refine tr_miss rfl ?_
                                  exact tr_rE 1 rfl H
                                · replace H := H.2 g113
                                  refine tr_skip ?_
                                  refine tr_blockN ?_
                                  exact tr_rN H
                              · refine tr_region ?_
                                obtain ⟨y114, k115, H⟩ := H
                                refine tr_h (y_ld Try.isAgg3 rfl) k115 rfl rfl ?_
                                refine tr_p (y_eql rfl rfl) rfl rfl ?_
                                refine tr_p (y_move rfl) rfl rfl ?_
                                refine tr_split (t := 122) rfl (fun g116 => ?_) (fun g116 => ?_)
                                · replace H := H.1 g116
                                  obtain ⟨y117, k118, H⟩ := H
                                  refine tr_h (y_ld Try.isAgg3 rfl) k118 rfl rfl ?_
                                  obtain ⟨y119, k120, H⟩ := H
                                  refine tr_h (y_ld Try.isAgg3 rfl) k120 rfl rfl ?_
                                  refine tr_p (y_gtr rfl rfl) rfl rfl ?_
                                  refine tr_p (y_pick_t rfl rfl) rfl rfl ?_
                                  refine tr_nil ?_
                                  refine tr_thenN ?_
                                  exact tr_join [(126, (.bool (decide (y117 > y119))))] ⟨rfl, trivial⟩ ⟨_, rfl, H⟩
                                · replace H := H.2 g116
                                  refine tr_s rfl rfl ?_
                                  refine tr_s rfl rfl ?_
                                  refine tr_s rfl rfl ?_
                                  refine tr_p (y_pick_f rfl rfl) rfl rfl ?_
                                  refine tr_nil ?_
                                  refine tr_thenN ?_
                                  exact tr_join [(126, (.bool false))] ⟨rfl, trivial⟩ ⟨_, rfl, H⟩
                            · refine tr_seq ?_
                              refine tr_region ?_
                              obtain ⟨y121, k122, H⟩ := H
                              refine tr_h (y_ld Try.isAgg40 rfl) k122 rfl rfl ?_
                              refine tr_nil ?_
                              refine tr_thenN ?_
                              refine tr_block ?_
                              refine tr_rangeN (l0 := l2) rfl (by kernel_rfl) H ?_ ?_ ?_
                              · intro bg3 l3 args h K3 J3 w3 hbg3 H
                                obtain ⟨y3_86, y3_87, rfl, H⟩ := H
                                refine ⟨rfl, ?_⟩
                                refine tr_sub [(3, (.pointer (some x3))), (4, (.pointer (some x4))), (5, (.pointer (some x5))), (7, (.pointer (some x7))), (8, (.pointer (some x8))), (9, (.pointer (some x9))), (12, (.pointer (some x12))), (13, (.pointer (some x13))), (14, (.string x14)), (83, (.int .i64 y98)), (84, (.int .i64 (IntKind.wrap .i64 (y98 + 1)))), (16, (.pointer (some a102))), (85, y121), (86, (.string y3_86)), (87, (.int .i64 y3_87))] ⟨rfl, rfl, rfl, rfl, rfl, rfl, rfl, rfl, rfl, rfl, rfl, rfl, rfl, rfl, rfl, trivial⟩ ?_
                                refine tr_seq ?_
                                refine tr_region ?_
                                refine tr_p (y_assign rfl) rfl rfl ?_
                                refine tr_nil ?_
                                refine tr_thenN ?_
                                refine tr_region ?_
                                refine tr_p (y_assign rfl) rfl rfl ?_
                                refine tr_nil ?_
                                refine tr_thenN ?_
                                refine tr_bgn hbg3 H fun h123 H => ?_
                                refine tr_block ?_
                                refine tr_seq_j (fun L' h => ∃ (x3 : Addr) (x16 : Addr), L' = [(3, (.pointer (some x3))), (16, (.pointer (some x16)))] ∧ F.spatelaw6_TableWalks.j11 Q K3 J3 l3 x3 x16 h) ?_ ?_
                                · rintro L' h ⟨x3, x16, rfl, H⟩
                                  unfold F.spatelaw6_TableWalks.j11 at H
                                  refine tr_seq ?_
                                  refine tr_region ?_
                                  obtain ⟨y124, k125, H⟩ := H
                                  refine tr_h (y_ld Try.isAgg3 rfl) k125 rfl rfl ?_
                                  refine tr_p (y_add rfl rfl) rfl rfl ?_
                                  refine tr_e (f_store (vs := [(.int .i64 (IntKind.wrap .i64 (y124 + 1)))]) Try.sizeOf3 rfl rfl rfl rfl (one1 rfl) H) rfl rfl ?_
                                  rintro _ h126 ⟨rfl, H⟩
                                  refine tr_nil ?_
                                  refine tr_thenN ?_
                                  refine tr_seq ?_
                                  refine tr_region ?_
                                  obtain ⟨y127, k128, H⟩ := H
                                  refine tr_h (y_ld Try.isAgg3 rfl) k128 rfl rfl ?_
                                  obtain ⟨y129, k130, H⟩ := H
                                  refine tr_h (y_ld Try.isAgg3 rfl) k130 rfl rfl ?_
                                  refine tr_p (y_gtr rfl rfl) rfl rfl ?_
                                  refine tr_nil ?_
                                  refine tr_thenN ?_
                                  refine tr_cond rfl (fun g131 => ?_) (fun g131 => ?_)
                                  · replace H := H.1 g131
                                    refine tr_exit ?_
                                    refine tr_miss rfl ?_
                                    exact tr_rE 1 rfl H
                                  · replace H := H.2 g131
                                    refine tr_skip ?_
                                    refine tr_blockN ?_
                                    exact tr_rN H
                                · refine tr_seq_j (fun L' h => ∃ (x3 : Addr) (x4 : Addr) (x16 : Addr) (x107 : Bool), L' = [(3, (.pointer (some x3))), (4, (.pointer (some x4))), (16, (.pointer (some x16))), (107, (.bool x107))] ∧ F.spatelaw6_TableWalks.j12 Q K3 J3 l3 x3 x4 x16 x107 h) ?_ ?_
                                  · rintro L' h ⟨x3, x4, x16, x107, rfl, H⟩
                                    unfold F.spatelaw6_TableWalks.j12 at H
                                    refine tr_cond rfl (fun g132 => ?_) (fun g132 => ?_)
                                    · replace H := H.1 g132
                                      refine tr_seq ?_
                                      refine tr_region ?_
                                      refine tr_e (f_store (vs := [(.bool false)]) Try.sizeOf4 rfl rfl rfl rfl (one1 rfl) H) rfl rfl ?_
                                      rintro _ h133 ⟨rfl, H⟩
                                      refine tr_nil ?_
                                      refine tr_thenN ?_
                                      refine tr_ret ?_
                                      refine tr_thenR ?_
                                      refine tr_blockR ?_
                                      exact tr_rR 0 rfl H
                                    · replace H := H.2 g132
                                      refine tr_skip ?_
                                      refine tr_thenN ?_
                                      exact tr_join [(3, (.pointer (some x3))), (16, (.pointer (some x16)))] ⟨rfl, rfl, trivial⟩ ⟨_, _, rfl, H⟩
                                  · refine tr_region ?_
                                    obtain ⟨y134, k135, H⟩ := H
                                    refine tr_h (y_ld Try.isAgg3 rfl) k135 rfl rfl ?_
                                    obtain ⟨y136, k137, H⟩ := H
                                    refine tr_h (y_ld Try.isAgg37 rfl) k137 rfl rfl ?_
                                    refine tr_p (y_len (ts := #[]) Try.runUnderlying37 (o := y136.ptr) (n := y136.len) (cap := y136.cap) rfl) rfl rfl ?_
                                    refine tr_p (y_geq rfl rfl) rfl rfl ?_
                                    refine tr_p (y_move rfl) rfl rfl ?_
                                    refine tr_split (t := 92) rfl (fun g138 => ?_) (fun g138 => ?_)
                                    · replace H := H.1 g138
                                      refine tr_s rfl rfl ?_
                                      refine tr_s rfl rfl ?_
                                      refine tr_s rfl rfl ?_
                                      refine tr_s rfl rfl ?_
                                      refine tr_s rfl rfl ?_
                                      refine tr_s rfl rfl ?_
                                      refine tr_p (y_pick_t rfl rfl) rfl rfl ?_
                                      refine tr_p (y_move rfl) rfl rfl ?_
                                      refine tr_s rfl rfl ?_
                                      refine tr_s rfl rfl ?_
                                      refine tr_s rfl rfl ?_
                                      refine tr_s rfl rfl ?_
                                      refine tr_s rfl rfl ?_
                                      refine tr_s rfl rfl ?_
                                      refine tr_p (y_pick_t rfl rfl) rfl rfl ?_
                                      refine tr_nil ?_
                                      refine tr_thenN ?_
                                      exact tr_join [(3, (.pointer (some x3))), (4, (.pointer (some x4))), (16, (.pointer (some a102))), (107, (.bool true))] ⟨rfl, rfl, rfl, rfl, trivial⟩ ⟨_, _, _, _, rfl, H⟩
                                    · replace H := H.2 g138
                                      refine tr_p (y_move rfl) rfl rfl ?_
                                      obtain ⟨y139, k140, H⟩ := H
                                      refine tr_h (y_ld Try.isAgg37 rfl) k140 rfl rfl ?_
                                      obtain ⟨y141, k142, H⟩ := H
                                      refine tr_h (y_ld Try.isAgg3 rfl) k142 rfl rfl ?_
                                      obtain ⟨a143, e144, H⟩ := H
                                      refine tr_p (f_idx (s := y139) Try.runUnderlying37 Try.sizeOf9 rfl rfl e144) rfl rfl ?_
                                      obtain ⟨y145, k146, H⟩ := H
                                      refine tr_h (y_ld Try.isAgg9 rfl) k146 rfl rfl ?_
                                      refine tr_p (y_sneq rfl rfl) rfl rfl ?_
                                      refine tr_p (y_pick_f rfl rfl) rfl rfl ?_
                                      refine tr_p (y_move rfl) rfl rfl ?_
                                      refine tr_split (t := 100) rfl (fun g147 => ?_) (fun g147 => ?_)
                                      · replace H := H.1 g147
                                        refine tr_s rfl rfl ?_
                                        refine tr_s rfl rfl ?_
                                        refine tr_s rfl rfl ?_
                                        refine tr_s rfl rfl ?_
                                        refine tr_s rfl rfl ?_
                                        refine tr_s rfl rfl ?_
                                        refine tr_p (y_pick_t rfl rfl) rfl rfl ?_
                                        refine tr_nil ?_
                                        refine tr_thenN ?_
                                        exact tr_join [(3, (.pointer (some x3))), (4, (.pointer (some x4))), (16, (.pointer (some a102))), (107, (.bool true))] ⟨rfl, rfl, rfl, rfl, trivial⟩ ⟨_, _, _, _, rfl, H⟩
                                      · replace H := H.2 g147
                                        refine tr_p (y_move rfl) rfl rfl ?_
                                        obtain ⟨y148, k149, H⟩ := H
                                        refine tr_h (y_ld Try.isAgg38 rfl) k149 rfl rfl ?_
                                        obtain ⟨y150, k151, H⟩ := H
                                        refine tr_h (y_ld Try.isAgg3 rfl) k151 rfl rfl ?_
                                        obtain ⟨a152, e153, H⟩ := H
                                        refine tr_p (f_idx (s := y148) Try.runUnderlying38 Try.sizeOf3 rfl rfl e153) rfl rfl ?_
                                        obtain ⟨y154, k155, H⟩ := H
                                        refine tr_h (y_ld Try.isAgg3 rfl) k155 rfl rfl ?_
                                        refine tr_p (y_neq rfl rfl) rfl rfl ?_
                                        refine tr_p (y_pick_f rfl rfl) rfl rfl ?_
                                        refine tr_nil ?_
                                        refine tr_thenN ?_
                                        exact tr_join [(3, (.pointer (some x3))), (4, (.pointer (some x4))), (16, (.pointer (some a102))), (107, (.bool ((y3_87 != y154))))] ⟨rfl, rfl, rfl, rfl, trivial⟩ ⟨_, _, _, _, rfl, H⟩
                              · intro h156 H
                                refine tr_blockN ?_
                                refine tr_thenN ?_
                                exact tr_join [(3, (.pointer (some x3))), (5, (.pointer (some x5))), (12, (.pointer (some x12))), (13, (.pointer (some x13))), (14, (.string x14))] ⟨rfl, rfl, rfl, rfl, rfl, trivial⟩ ⟨_, _, _, _, _, rfl, H⟩
                              · intro jj c h157 hjc H
                                rcases jj with _ | jj
                                · obtain rfl : Code.ret = c := by simpa using hjc
                                  replace H := H.1 rfl
                                  refine tr_ret ?_
                                  refine tr_blockR ?_
                                  refine tr_thenR ?_
                                  refine tr_blockR ?_
                                  exact tr_rR 0 rfl H
                                · rcases jj with _ | jj
                                  · obtain rfl : Code.exit 8 = c := by simpa using hjc
                                    replace H := H.2 rfl
                                    refine tr_exit ?_
                                    refine tr_hit ?_
                                    refine tr_thenN ?_
                                    exact tr_join [(3, (.pointer (some x3))), (5, (.pointer (some x5))), (12, (.pointer (some x12))), (13, (.pointer (some x13))), (14, (.string x14))] ⟨rfl, rfl, rfl, rfl, rfl, trivial⟩ ⟨_, _, _, _, _, rfl, H⟩
                                  · simp at hjc
                          · refine tr_seq_j (fun L' h => ∃ (x3 : Addr) (x4 : Addr) (x5 : Addr) (x7 : Addr) (x8 : Addr) (x9 : Addr) (x12 : Addr) (x13 : Addr) (x14 : ByteArray) (x82 : Bool), L' = [(3, (.pointer (some x3))), (4, (.pointer (some x4))), (5, (.pointer (some x5))), (7, (.pointer (some x7))), (8, (.pointer (some x8))), (9, (.pointer (some x9))), (12, (.pointer (some x12))), (13, (.pointer (some x13))), (14, (.string x14)), (82, (.bool x82))] ∧ F.spatelaw6_TableWalks.j13 Q K2 J2 l2 x3 x4 x5 x7 x8 x9 x12 x13 x14 x82 h) ?_ ?_
                            · rintro L' h ⟨x3, x4, x5, x7, x8, x9, x12, x13, x14, x82, rfl, H⟩
                              unfold F.spatelaw6_TableWalks.j13 at H
                              refine tr_cond rfl (fun g158 => ?_) (fun g158 => ?_)
                              · replace H := H.1 g158
                                refine tr_seq ?_
                                refine tr_region ?_
                                refine tr_e (f_store (vs := [(.bool false)]) Try.sizeOf4 rfl rfl rfl rfl (one1 rfl) H) rfl rfl ?_
                                rintro _ h159 ⟨rfl, H⟩
                                refine tr_nil ?_
                                refine tr_thenN ?_
                                refine tr_ret ?_
                                refine tr_thenR ?_
                                refine tr_blockR ?_
                                exact tr_rR 0 rfl H
                              · replace H := H.2 g158
                                refine tr_skip ?_
                                refine tr_thenN ?_
                                exact tr_join [(3, (.pointer (some x3))), (4, (.pointer (some x4))), (5, (.pointer (some x5))), (7, (.pointer (some x7))), (8, (.pointer (some x8))), (9, (.pointer (some x9))), (12, (.pointer (some x12))), (13, (.pointer (some x13))), (14, (.string x14))] ⟨rfl, rfl, rfl, rfl, rfl, rfl, rfl, rfl, rfl, trivial⟩ ⟨_, _, _, _, _, _, _, _, _, rfl, H⟩
                            · refine tr_region ?_
                              obtain ⟨y160, k161, H⟩ := H
                              refine tr_h (y_ld Try.isAgg3 rfl) k161 rfl rfl ?_
                              obtain ⟨y162, k163, H⟩ := H
                              refine tr_h (y_ld Try.isAgg37 rfl) k163 rfl rfl ?_
                              refine tr_p (y_len (ts := #[]) Try.runUnderlying37 (o := y162.ptr) (n := y162.len) (cap := y162.cap) rfl) rfl rfl ?_
                              refine tr_p (y_geq rfl rfl) rfl rfl ?_
                              refine tr_p (y_move rfl) rfl rfl ?_
                              refine tr_split (t := 67) rfl (fun g164 => ?_) (fun g164 => ?_)
                              · replace H := H.1 g164
                                refine tr_s rfl rfl ?_
                                refine tr_s rfl rfl ?_
                                refine tr_s rfl rfl ?_
                                refine tr_s rfl rfl ?_
                                refine tr_s rfl rfl ?_
                                refine tr_s rfl rfl ?_
                                refine tr_p (y_pick_t rfl rfl) rfl rfl ?_
                                refine tr_p (y_move rfl) rfl rfl ?_
                                refine tr_s rfl rfl ?_
                                refine tr_s rfl rfl ?_
                                refine tr_s rfl rfl ?_
                                refine tr_s rfl rfl ?_
                                refine tr_s rfl rfl ?_
                                refine tr_s rfl rfl ?_
                                refine tr_p (y_pick_t rfl rfl) rfl rfl ?_
                                refine tr_nil ?_
                                refine tr_thenN ?_
                                exact tr_join [(3, (.pointer (some x3))), (4, (.pointer (some x4))), (5, (.pointer (some x5))), (7, (.pointer (some x7))), (8, (.pointer (some x8))), (9, (.pointer (some x9))), (12, (.pointer (some x12))), (13, (.pointer (some a81))), (14, (.string y2_61)), (82, (.bool true))] ⟨rfl, rfl, rfl, rfl, rfl, rfl, rfl, rfl, rfl, rfl, trivial⟩ ⟨_, _, _, _, _, _, _, _, _, _, rfl, H⟩
                              · replace H := H.2 g164
                                refine tr_p (y_move rfl) rfl rfl ?_
                                obtain ⟨y165, k166, H⟩ := H
                                refine tr_h (y_ld Try.isAgg37 rfl) k166 rfl rfl ?_
                                obtain ⟨y167, k168, H⟩ := H
                                refine tr_h (y_ld Try.isAgg3 rfl) k168 rfl rfl ?_
                                obtain ⟨a169, e170, H⟩ := H
                                refine tr_p (f_idx (s := y165) Try.runUnderlying37 Try.sizeOf9 rfl rfl e170) rfl rfl ?_
                                obtain ⟨y171, k172, H⟩ := H
                                refine tr_h (y_ld Try.isAgg9 rfl) k172 rfl rfl ?_
                                refine tr_p (y_sneq rfl rfl) rfl rfl ?_
                                refine tr_p (y_pick_f rfl rfl) rfl rfl ?_
                                refine tr_p (y_move rfl) rfl rfl ?_
                                refine tr_split (t := 75) rfl (fun g173 => ?_) (fun g173 => ?_)
                                · replace H := H.1 g173
                                  refine tr_s rfl rfl ?_
                                  refine tr_s rfl rfl ?_
                                  refine tr_s rfl rfl ?_
                                  refine tr_s rfl rfl ?_
                                  refine tr_s rfl rfl ?_
                                  refine tr_s rfl rfl ?_
                                  refine tr_p (y_pick_t rfl rfl) rfl rfl ?_
                                  refine tr_nil ?_
                                  refine tr_thenN ?_
                                  exact tr_join [(3, (.pointer (some x3))), (4, (.pointer (some x4))), (5, (.pointer (some x5))), (7, (.pointer (some x7))), (8, (.pointer (some x8))), (9, (.pointer (some x9))), (12, (.pointer (some x12))), (13, (.pointer (some a81))), (14, (.string y2_61)), (82, (.bool true))] ⟨rfl, rfl, rfl, rfl, rfl, rfl, rfl, rfl, rfl, rfl, trivial⟩ ⟨_, _, _, _, _, _, _, _, _, _, rfl, H⟩
                                · replace H := H.2 g173
                                  refine tr_p (y_move rfl) rfl rfl ?_
                                  obtain ⟨y174, k175, H⟩ := H
                                  refine tr_h (y_ld Try.isAgg38 rfl) k175 rfl rfl ?_
                                  obtain ⟨y176, k177, H⟩ := H
                                  refine tr_h (y_ld Try.isAgg3 rfl) k177 rfl rfl ?_
                                  obtain ⟨a178, e179, H⟩ := H
                                  refine tr_p (f_idx (s := y174) Try.runUnderlying38 Try.sizeOf3 rfl rfl e179) rfl rfl ?_
                                  obtain ⟨y180, k181, H⟩ := H
                                  refine tr_h (y_ld Try.isAgg3 rfl) k181 rfl rfl ?_
                                  refine tr_p (y_neq rfl rfl) rfl rfl ?_
                                  refine tr_p (y_pick_f rfl rfl) rfl rfl ?_
                                  refine tr_nil ?_
                                  refine tr_thenN ?_
                                  exact tr_join [(3, (.pointer (some x3))), (4, (.pointer (some x4))), (5, (.pointer (some x5))), (7, (.pointer (some x7))), (8, (.pointer (some x8))), (9, (.pointer (some x9))), (12, (.pointer (some x12))), (13, (.pointer (some a81))), (14, (.string y2_61)), (82, (.bool ((y2_62 != y180))))] ⟨rfl, rfl, rfl, rfl, rfl, rfl, rfl, rfl, rfl, rfl, trivial⟩ ⟨_, _, _, _, _, _, _, _, _, _, rfl, H⟩
                        · intro h182 H
                          refine tr_blockN ?_
                          refine tr_thenN ?_
                          exact tr_joinD (h82.size :: ds) [(3, (.pointer (some x3))), (4, (.pointer (some x4))), (5, (.pointer (some x5))), (7, (.pointer (some x7))), (8, (.pointer (some x8))), (9, (.pointer (some x9))), (12, (.pointer (some x12))), (13, (.pointer (some a81)))] rfl ⟨rfl, rfl, rfl, rfl, rfl, rfl, rfl, rfl, trivial⟩ ⟨_, _, _, _, _, _, _, _, rfl, H⟩
                        · intro jj c h183 hjc H
                          rcases jj with _ | jj
                          · obtain rfl : Code.ret = c := by simpa using hjc
                            replace H := H.1 rfl
                            refine tr_ret ?_
                            refine tr_blockR ?_
                            refine tr_thenR ?_
                            refine tr_blockR ?_
                            refine tr_thenR ?_
                            refine tr_thenR ?_
                            refine tr_blockR ?_
                            refine tr_thenR ?_
                            refine tr_shut (h82.size :: ds) rfl H fun h184 H => ?_
                            obtain ⟨y185, k186, H⟩ := H
                            exact tr_rv1 rfl (rv_cell Try.isAgg4 rfl k186) ⟨_, rfl, H⟩
                          · rcases jj with _ | jj
                            · obtain rfl : Code.exit 6 = c := by simpa using hjc
                              replace H := H.2 rfl
                              refine tr_exit ?_
                              refine tr_hit ?_
                              refine tr_thenN ?_
                              exact tr_joinD (h82.size :: ds) [(3, (.pointer (some x3))), (4, (.pointer (some x4))), (5, (.pointer (some x5))), (7, (.pointer (some x7))), (8, (.pointer (some x8))), (9, (.pointer (some x9))), (12, (.pointer (some x12))), (13, (.pointer (some a81)))] rfl ⟨rfl, rfl, rfl, rfl, rfl, rfl, rfl, rfl, trivial⟩ ⟨_, _, _, _, _, _, _, _, rfl, H⟩
                            · simp at hjc
                  · replace H := H.2 g71
                    refine tr_exit ?_
                    refine tr_thenE ?_
                    refine tr_thenE ?_
                    refine tr_hit ?_
                    refine tr_thenN ?_
                    refine tr_seq ?_
                    refine tr_region ?_
                    refine tr_e (f_store (vs := [(.bool true)]) Try.sizeOf4 rfl rfl rfl rfl (one1 rfl) H) rfl rfl ?_
                    rintro _ h187 ⟨rfl, H⟩
                    refine tr_nil ?_
                    refine tr_thenN ?_
                    refine tr_ret ?_
                    refine tr_shut ds rfl H fun h188 H => ?_
                    obtain ⟨y189, k190, H⟩ := H
                    exact tr_rv1 rfl (rv_cell Try.isAgg4 rfl k190) ⟨_, rfl, H⟩
            · intro jj c h192 hjc H
              simp at hjc
        · refine tr_region ?_
          refine tr_p (y_move rfl) rfl rfl ?_
          refine tr_p (y_move rfl) rfl rfl ?_
          refine tr_p (y_len (ts := #[]) Try.runUnderlying43 (o := x0.ptr) (n := x0.len) (cap := x0.cap) rfl) rfl rfl ?_
          refine tr_p (y_lss rfl rfl) rfl rfl ?_
          refine tr_p (y_move rfl) rfl rfl ?_
          refine tr_split (t := 26) rfl (fun g193 => ?_) (fun g193 => ?_)
          · replace H := H.1 g193
            refine tr_p (y_move rfl) rfl rfl ?_
            refine tr_p (y_lss rfl rfl) rfl rfl ?_
            refine tr_p (y_pick_t rfl rfl) rfl rfl ?_
            refine tr_nil ?_
            refine tr_thenN ?_
            exact tr_joinD ds [(0, x0.enc), (3, (.pointer (some x3))), (4, (.pointer (some x4))), (5, (.pointer (some x5))), (6, (.int .i64 x6)), (29, (.bool (decide (x6 < 120))))] rfl ⟨rfl, rfl, rfl, rfl, rfl, rfl, trivial⟩ ⟨_, _, _, _, _, _, rfl, H⟩
          · replace H := H.2 g193
            refine tr_s rfl rfl ?_
            refine tr_s rfl rfl ?_
            refine tr_p (y_pick_f rfl rfl) rfl rfl ?_
            refine tr_nil ?_
            refine tr_thenN ?_
            exact tr_joinD ds [(0, x0.enc), (3, (.pointer (some x3))), (4, (.pointer (some x4))), (5, (.pointer (some x5))), (6, (.int .i64 x6)), (29, (.bool false))] rfl ⟨rfl, rfl, rfl, rfl, rfl, rfl, trivial⟩ ⟨_, _, _, _, _, _, rfl, H⟩

/-- spate/table.New[[]int] -/
def F.table_New_Slint  (h : H) (Q : (Option Addr) → H → Prop) : Prop :=
  runL PP (Instr.makeSlice 87 (.int .i64 8) (.int .i64 8)) h fun s2 h1 =>
  new h1 ((⟨s2, (⟨none, 0, 0⟩ : Sl), 0, 0⟩ : S_table_Table_Slint).cells.toArray) ty_89 fun a4 h3 =>
  Q (some a4) h3
theorem F.table_New_Slint_ok  {h : H} {Q : (Option Addr) → H → Prop} (H : F.table_New_Slint  h Q) : Fn PP 31 ([] : List Value).toArray h fun r h' => ∃ r0, r = (.pointer r0) ∧ Q r0 h' := by
  unfold F.table_New_Slint at H
  refine fn_of Try.func31 Try.ntmps31 rfl rfl fun w0 => ?_
  refine tr_sub [] trivial ?_
  refine tr_seq ?_
  refine tr_region ?_
  refine tr_p (y_assign rfl) rfl rfl ?_
  refine tr_nil ?_
  refine tr_thenN ?_
  refine tr_seq ?_
  refine tr_region ?_
  refine tr_e (f_make rfl rfl H) rfl rfl ?_
  rintro _ h1 ⟨s2, rfl, H⟩
  refine tr_p (f_build rfl (bd_89_0 s2)) rfl rfl ?_
  refine tr_e (f_box (cs := (⟨s2, (⟨none, 0, 0⟩ : Sl), 0, 0⟩ : S_table_Table_Slint).cells.toArray) rfl rfl H) rfl rfl ?_
  rintro _ h3 ⟨a4, rfl, H⟩
  refine tr_p (y_assign rfl) rfl rfl ?_
  refine tr_nil ?_
  refine tr_thenN ?_
  refine tr_ret ?_
  exact tr_ret1 rfl rfl ⟨_, rfl, H⟩

/-- (*spate/table.Table[[]int]).Slots -/
def F.table_Table_Slint_Slots (p0 : Option Addr) (h : H) (Q : Int → H → Prop) : Prop :=
  nn p0 fun a1 =>
  ldL h (a1.add 0) fun y3 =>
  Q (y3.len : Int) h
theorem F.table_Table_Slint_Slots_ok {p0 : Option Addr} {h : H} {Q : Int → H → Prop} (H : F.table_Table_Slint_Slots p0 h Q) : Fn PP 32 ([(.pointer p0)] : List Value).toArray h fun r h' => ∃ r0, r = (.int .i64 r0) ∧ Q r0 h' := by
  unfold F.table_Table_Slint_Slots at H
  refine fn_of Try.func32 Try.ntmps32 rfl rfl fun w0 => ?_
  refine tr_sub [(0, (.pointer p0))] ⟨rfl, trivial⟩ ?_
  refine tr_seq ?_
  refine tr_region ?_
  refine tr_p (y_assign rfl) rfl rfl ?_
  refine tr_nil ?_
  refine tr_thenN ?_
  refine tr_seq ?_
  refine tr_region ?_
  refine tr_p (y_move rfl) rfl rfl ?_
  obtain ⟨a1, e2, H⟩ := H
  refine tr_p (f_nn rfl e2) rfl rfl ?_
  refine tr_p (y_fa (off := 0) Try.runUnderlying89 fo_89_0 rfl) rfl rfl ?_
  obtain ⟨y3, k4, H⟩ := H
  refine tr_h (y_ld Try.isAgg87 rfl) k4 rfl rfl ?_
  refine tr_p (y_len (ts := #[]) Try.runUnderlying87 (o := y3.ptr) (n := y3.len) (cap := y3.cap) rfl) rfl rfl ?_
  refine tr_p (y_assign rfl) rfl rfl ?_
  refine tr_nil ?_
  refine tr_thenN ?_
  refine tr_ret ?_
  exact tr_ret1 rfl rfl ⟨_, rfl, H⟩

/-- (*spate/table.Table[[]int]).Left -/
def F.table_Table_Slint_Left (p0 : Option Addr) (h : H) (Q : Int → H → Prop) : Prop :=
  nn p0 fun a1 =>
  ldL h (a1.add 1) fun y3 =>
  nn p0 fun a5 =>
  ldI .i64 h (a5.add 2) fun y7 =>
  Q (IntKind.wrap .i64 ((y3.len : Int) - y7)) h
theorem F.table_Table_Slint_Left_ok {p0 : Option Addr} {h : H} {Q : Int → H → Prop} (H : F.table_Table_Slint_Left p0 h Q) : Fn PP 33 ([(.pointer p0)] : List Value).toArray h fun r h' => ∃ r0, r = (.int .i64 r0) ∧ Q r0 h' := by
  unfold F.table_Table_Slint_Left at H
  refine fn_of Try.func33 Try.ntmps33 rfl rfl fun w0 => ?_
  refine tr_sub [(0, (.pointer p0))] ⟨rfl, trivial⟩ ?_
  refine tr_seq ?_
  refine tr_region ?_
  refine tr_p (y_assign rfl) rfl rfl ?_
  refine tr_nil ?_
  refine tr_thenN ?_
  refine tr_seq ?_
  refine tr_draw mixed [0, 1, 3, 7, 15, 0, 32, 96, 224, 511, 1023] (by kernel_rfl) ?_
  refine g_p 0 1 rfl (by kernel_rfl) (y_move rfl) rfl rfl ?_
  obtain ⟨a1, e2, H⟩ := H
  refine g_p 1 3 rfl (by kernel_rfl) (f_nn rfl e2) rfl rfl ?_
  refine g_p 2 7 rfl (by kernel_rfl) (y_fa (off := 1) Try.runUnderlying89 fo_89_1 rfl) rfl rfl ?_
  obtain ⟨y3, k4, H⟩ := H
  refine g_h 3 15 rfl (by kernel_rfl) (y_ld Try.isAgg87 rfl) k4 rfl rfl ?_
  refine g_p 4 31 rfl (by kernel_rfl) (y_len (ts := #[]) Try.runUnderlying87 (o := y3.ptr) (n := y3.len) (cap := y3.cap) rfl) rfl rfl ?_
  refine g_p 5 63 rfl (by kernel_rfl) (y_move rfl) rfl rfl ?_
  obtain ⟨a5, e6, H⟩ := H
  refine g_p 6 127 rfl (by kernel_rfl) (f_nn rfl e6) rfl rfl ?_
  refine g_p 7 255 rfl (by kernel_rfl) (y_fa (off := 2) Try.runUnderlying89 fo_89_2 rfl) rfl rfl ?_
  obtain ⟨y7, k8, H⟩ := H
  refine g_h 8 511 rfl (by kernel_rfl) (y_ld Try.isAgg3 rfl) k8 rfl rfl ?_
  refine g_p 9 1023 rfl (by kernel_rfl) (y_sub rfl rfl) rfl rfl ?_
  refine g_p 10 2047 rfl (by kernel_rfl) (y_assign rfl) rfl rfl ?_
  refine g_d (by kernel_rfl) ?_
  refine tr_thenN ?_
  refine tr_ret ?_
  exact tr_ret1 rfl rfl ⟨_, rfl, H⟩

/-- (*spate/table.Table[[]int]).Len -/
def F.table_Table_Slint_Len (p0 : Option Addr) (h : H) (Q : Int → H → Prop) : Prop :=
  nn p0 fun a1 =>
  ldI .i64 h (a1.add 3) fun y3 =>
  Q y3 h
theorem F.table_Table_Slint_Len_ok {p0 : Option Addr} {h : H} {Q : Int → H → Prop} (H : F.table_Table_Slint_Len p0 h Q) : Fn PP 38 ([(.pointer p0)] : List Value).toArray h fun r h' => ∃ r0, r = (.int .i64 r0) ∧ Q r0 h' := by
  unfold F.table_Table_Slint_Len at H
  refine fn_of Try.func38 Try.ntmps38 rfl rfl fun w0 => ?_
  refine tr_sub [(0, (.pointer p0))] ⟨rfl, trivial⟩ ?_
  refine tr_seq ?_
  refine tr_region ?_
  refine tr_p (y_assign rfl) rfl rfl ?_
  refine tr_nil ?_
  refine tr_thenN ?_
  refine tr_seq ?_
  refine tr_region ?_
  refine tr_p (y_move rfl) rfl rfl ?_
  obtain ⟨a1, e2, H⟩ := H
  refine tr_p (f_nn rfl e2) rfl rfl ?_
  refine tr_p (y_fa (off := 3) Try.runUnderlying89 fo_89_3 rfl) rfl rfl ?_
  obtain ⟨y3, k4, H⟩ := H
  refine tr_h (y_ld Try.isAgg3 rfl) k4 rfl rfl ?_
  refine tr_p (y_assign rfl) rfl rfl ?_
  refine tr_nil ?_
  refine tr_thenN ?_
  refine tr_ret ?_
  exact tr_ret1 rfl rfl ⟨_, rfl, H⟩

/-- spate/table.home[[]int] -/
def F.table_home_Slint (p0 : Sl) (p1 : ByteArray) (h : H) (Q : Int → H → Prop) : Prop :=
  F.table_Hash p1 h fun r2 h1 =>
  ((IntKind.wrap .u64 (p0.len : Int)) : Int) ≠ 0 ∧
  Q (IntKind.wrap .i64 (Int.tmod r2 (IntKind.wrap .u64 (p0.len : Int)))) h1
theorem F.table_home_Slint_ok {p0 : Sl} {p1 : ByteArray} {h : H} {Q : Int → H → Prop} (H : F.table_home_Slint p0 p1 h Q) : Fn PP 55 ([p0.enc, (.string p1)] : List Value).toArray h fun r h' => ∃ r0, r = (.int .i64 r0) ∧ Q r0 h' := by
  unfold F.table_home_Slint at H
  refine fn_of Try.func55 Try.ntmps55 rfl rfl fun w0 => ?_
  refine tr_sub [(0, p0.enc), (1, (.string p1))] ⟨rfl, rfl, trivial⟩ ?_
  refine tr_seq ?_
  refine tr_region ?_
  refine tr_p (y_assign rfl) rfl rfl ?_
  refine tr_nil ?_
  refine tr_thenN ?_
  refine tr_seq ?_
  refine tr_region ?_
  refine tr_p (y_move rfl) rfl rfl ?_
  refine tr_e (e_call Try.call16 rfl (F.table_Hash_ok H)) rfl rfl ?_
  rintro _ h1 ⟨r2, rfl, H⟩
  refine tr_p (y_move rfl) rfl rfl ?_
  refine tr_p (y_len (ts := #[]) Try.runUnderlying87 (o := p0.ptr) (n := p0.len) (cap := p0.cap) rfl) rfl rfl ?_
  refine tr_p (y_cvt Try.runUnderlying3 Try.runUnderlying26 rfl) rfl rfl ?_
  obtain ⟨e3, H⟩ := H
  refine tr_p (y_rem rfl rfl e3) rfl rfl ?_
  refine tr_p (y_cvt Try.runUnderlying26 Try.runUnderlying3 rfl) rfl rfl ?_
  refine tr_p (y_assign rfl) rfl rfl ?_
  refine tr_nil ?_
  refine tr_thenN ?_
  refine tr_ret ?_
  exact tr_ret1 rfl rfl ⟨_, rfl, H⟩

def F.table_find_Slint.j2 (Q : Int → Bool → H → Prop) (C1 : Sl → ByteArray → Int → H → Prop) (x0 : Sl) (x1 : ByteArray) (x6 : Int) (h : H) : Prop :=
  ((x0.len : Int) : Int) ≠ 0 ∧
  C1 x0 x1 (Int.tmod (IntKind.wrap .i64 (x6 + 1)) (x0.len : Int)) h
def F.table_find_Slint.j3 (Q : Int → Bool → H → Prop) (C1 : Sl → ByteArray → Int → H → Prop) (x0 : Sl) (x1 : ByteArray) (x6 : Int) (x38 : Bool) (h : H) : Prop :=
  (x38 = true →
  Q x6 true h) ∧
  (x38 = false →
  F.table_find_Slint.j2 Q C1 x0 x1 x6 h)
def F.table_find_Slint.l1 (Q : Int → Bool → H → Prop) : Nat → Sl → ByteArray → Int → H → Prop
  | 0, _, _, _, _ => False
  | q1 + 1, x0, x1, x6, h =>
    idxA x0 x6 3 fun a4 =>
    ldI .u8 h (a4.add 0) fun y6 =>
    (((y6 != 0)) = true →
    idxA x0 x6 3 fun a11 =>
    ldI .u8 h (a11.add 0) fun y13 =>
    (((y13 == 1)) = true →
    idxA x0 x6 3 fun a16 =>
    ldS h (a16.add 1) fun y18 =>
    F.table_find_Slint.j3 Q (F.table_find_Slint.l1 Q q1) x0 x1 x6 (y18.toList == x1.toList) h) ∧
    (((y13 == 1)) = false →
    F.table_find_Slint.j3 Q (F.table_find_Slint.l1 Q q1) x0 x1 x6 false h)) ∧
    (((y6 != 0)) = false →
    Q x6 false h)
/-- spate/table.find[[]int] -/
def F.table_find_Slint (p0 : Sl) (p1 : ByteArray) (h : H) (Q : Int → Bool → H → Prop) : Prop :=
  ((((p0.len : Int) == 0)) = true →
  Q 0 false h) ∧
  ((((p0.len : Int) == 0)) = false →
  F.table_home_Slint p0 p1 h fun r3 h2 =>
  ∃ m, F.table_find_Slint.l1 Q m p0 p1 r3 h2)
theorem F.table_find_Slint_ok {p0 : Sl} {p1 : ByteArray} {h : H} {Q : Int → Bool → H → Prop} (H : F.table_find_Slint p0 p1 h Q) : Fn PP 54 ([p0.enc, (.string p1)] : List Value).toArray h fun r h' => ∃ r0 r1, r = .tuple #[(.int .i64 r0), (.bool r1)] ∧ Q r0 r1 h' := by
  unfold F.table_find_Slint at H
  refine fn_of Try.func54 Try.ntmps54 rfl rfl fun w0 => ?_
  refine tr_sub [(0, p0.enc), (1, (.string p1))] ⟨rfl, rfl, trivial⟩ ?_
  refine tr_seq ?_
  refine tr_region ?_
  refine tr_p (y_assign rfl) rfl rfl ?_
  refine tr_p (y_assign rfl) rfl rfl ?_
  refine tr_nil ?_
  refine tr_thenN ?_
  refine tr_seq ?_
  refine tr_seq ?_
  refine tr_region ?_
  refine tr_p (y_move rfl) rfl rfl ?_
  refine tr_p (y_len (ts := #[]) Try.runUnderlying87 (o := p0.ptr) (n := p0.len) (cap := p0.cap) rfl) rfl rfl ?_
  refine tr_p (y_eql rfl rfl) rfl rfl ?_
  refine tr_nil ?_
  refine tr_thenN ?_
  refine tr_cond rfl (fun g1 => ?_) (fun g1 => ?_)
  · replace H := H.1 g1
    refine tr_seq ?_
    refine tr_region ?_
    refine tr_p (y_assign rfl) rfl rfl ?_
    refine tr_p (y_assign rfl) rfl rfl ?_
    refine tr_nil ?_
    refine tr_thenN ?_
    refine tr_ret ?_
    refine tr_thenR ?_
    exact tr_ret2 rfl rfl rfl ⟨_, _, rfl, H⟩
  · replace H := H.2 g1
    refine tr_skip ?_
    refine tr_thenN ?_
    refine tr_seq ?_
    refine tr_region ?_
    refine tr_p (y_move rfl) rfl rfl ?_
    refine tr_p (y_move rfl) rfl rfl ?_
    refine tr_e (e_call Try.call55 rfl (F.table_home_Slint_ok H)) rfl rfl ?_
    rintro _ h2 ⟨r3, rfl, H⟩
    refine tr_p (y_assign rfl) rfl rfl ?_
    refine tr_nil ?_
    refine tr_thenN ?_
    refine tr_seq ?_
    refine tr_block ?_
    obtain ⟨m20, H⟩ := H
    refine tr_sub [(0, p0.enc), (1, (.string p1)), (6, (.int .i64 r3))] ⟨rfl, rfl, rfl, trivial⟩ ?_
    refine tr_loop_j (fun m L' h => ∃ (x0 : Sl) (x1 : ByteArray) (x6 : Int), L' = [(0, x0.enc), (1, (.string x1)), (6, (.int .i64 x6))] ∧ F.table_find_Slint.l1 Q m x0 x1 x6 h) ?_ ?_ m20 ⟨_, _, _, rfl, H⟩
    · rintro L' h ⟨_, _, _, _, H⟩; exact H
    · rintro q1 L' h ⟨x0, x1, x6, rfl, H⟩
      unfold F.table_find_Slint.l1 at H
      refine tr_seq ?_
      refine tr_seq ?_
      refine tr_region ?_
      refine tr_p (y_move rfl) rfl rfl ?_
      refine tr_p (y_move rfl) rfl rfl ?_
      obtain ⟨a4, e5, H⟩ := H
      refine tr_p (f_idx (s := x0) Try.runUnderlying87 Try.sizeOf93 rfl rfl e5) rfl rfl ?_
      refine tr_p (y_fa (off := 0) Try.runUnderlying93 fo_93_0 rfl) rfl rfl ?_
      obtain ⟨y6, k7, H⟩ := H
      refine tr_h (y_ld Try.isAgg5 rfl) k7 rfl rfl ?_
      refine tr_p (y_neq rfl rfl) rfl rfl ?_
      refine tr_nil ?_
      refine tr_thenN ?_
      refine tr_cond rfl (fun g8 => ?_) (fun g8 => ?_)
      · replace H := H.1 g8
        refine tr_skip ?_
        refine tr_thenN ?_
        refine tr_seq_j (fun L' h => ∃ (x0 : Sl) (x1 : ByteArray) (x6 : Int), L' = [(0, x0.enc), (1, (.string x1)), (6, (.int .i64 x6))] ∧ F.table_find_Slint.j2 Q (F.table_find_Slint.l1 Q q1) x0 x1 x6 h) ?_ ?_
        · rintro L' h ⟨x0, x1, x6, rfl, H⟩
          unfold F.table_find_Slint.j2 at H
          refine tr_region ?_
          refine tr_p (y_move rfl) rfl rfl ?_
          refine tr_p (y_add rfl rfl) rfl rfl ?_
          refine tr_p (y_move rfl) rfl rfl ?_
          refine tr_p (y_len (ts := #[]) Try.runUnderlying87 (o := x0.ptr) (n := x0.len) (cap := x0.cap) rfl) rfl rfl ?_
          obtain ⟨e9, H⟩ := H
          refine tr_p (y_rem rfl rfl e9) rfl rfl ?_
          refine tr_p (y_assign rfl) rfl rfl ?_
          refine tr_nil ?_
          refine tr_thenN ?_
          exact tr_join [(0, x0.enc), (1, (.string x1)), (6, (.int .i64 (Int.tmod (IntKind.wrap .i64 (x6 + 1)) (x0.len : Int))))] ⟨rfl, rfl, rfl, trivial⟩ ⟨_, _, _, rfl, H⟩
        · refine tr_block ?_
          refine tr_seq_j (fun L' h => ∃ (x0 : Sl) (x1 : ByteArray) (x6 : Int) (x38 : Bool), L' = [(0, x0.enc), (1, (.string x1)), (6, (.int .i64 x6)), (38, (.bool x38))] ∧ F.table_find_Slint.j3 Q (F.table_find_Slint.l1 Q q1) x0 x1 x6 x38 h) ?_ ?_
          · rintro L' h ⟨x0, x1, x6, x38, rfl, H⟩
            unfold F.table_find_Slint.j3 at H
            refine tr_cond rfl (fun g10 => ?_) (fun g10 => ?_)
            · replace H := H.1 g10
              refine tr_seq ?_
              refine tr_region ?_
              refine tr_p (y_move rfl) rfl rfl ?_
              refine tr_p (y_assign rfl) rfl rfl ?_
              refine tr_p (y_assign rfl) rfl rfl ?_
              refine tr_nil ?_
              refine tr_thenN ?_
              refine tr_ret ?_
              refine tr_blockR ?_
              refine tr_thenR ?_
              refine tr_thenR ?_
              refine tr_blockR ?_
              refine tr_thenR ?_
              exact tr_ret2 rfl rfl rfl ⟨_, _, rfl, H⟩
            · replace H := H.2 g10
              refine tr_skip ?_
              refine tr_blockN ?_
              refine tr_thenN ?_
              exact tr_join [(0, x0.enc), (1, (.string x1)), (6, (.int .i64 x6))] ⟨rfl, rfl, rfl, trivial⟩ ⟨_, _, _, rfl, H⟩
          · refine tr_region ?_
            refine tr_p (y_move rfl) rfl rfl ?_
            refine tr_p (y_move rfl) rfl rfl ?_
            obtain ⟨a11, e12, H⟩ := H
            refine tr_p (f_idx (s := x0) Try.runUnderlying87 Try.sizeOf93 rfl rfl e12) rfl rfl ?_
            refine tr_p (y_fa (off := 0) Try.runUnderlying93 fo_93_0 rfl) rfl rfl ?_
            obtain ⟨y13, k14, H⟩ := H
            refine tr_h (y_ld Try.isAgg5 rfl) k14 rfl rfl ?_
            refine tr_p (y_eql rfl rfl) rfl rfl ?_
            refine tr_p (y_move rfl) rfl rfl ?_
            refine tr_split (t := 30) rfl (fun g15 => ?_) (fun g15 => ?_)
            · replace H := H.1 g15
              refine tr_p (y_move rfl) rfl rfl ?_
              refine tr_p (y_move rfl) rfl rfl ?_
              obtain ⟨a16, e17, H⟩ := H
              refine tr_p (f_idx (s := x0) Try.runUnderlying87 Try.sizeOf93 rfl rfl e17) rfl rfl ?_
              refine tr_p (y_fa (off := 1) Try.runUnderlying93 fo_93_1 rfl) rfl rfl ?_
              obtain ⟨y18, k19, H⟩ := H
              refine tr_h (y_ld Try.isAgg9 rfl) k19 rfl rfl ?_
              refine tr_p (y_move rfl) rfl rfl ?_
              refine tr_p (y_seql rfl rfl) rfl rfl ?_
              refine tr_p (y_pick_t rfl rfl) rfl rfl ?_
              refine tr_nil ?_
              refine tr_thenN ?_
              exact tr_join [(0, x0.enc), (1, (.string x1)), (6, (.int .i64 x6)), (38, (.bool (y18.toList == x1.toList)))] ⟨rfl, rfl, rfl, rfl, trivial⟩ ⟨_, _, _, _, rfl, H⟩
            · replace H := H.2 g15
              refine tr_s rfl rfl ?_
              refine tr_s rfl rfl ?_
              refine tr_s rfl rfl ?_
              refine tr_s rfl rfl ?_
              refine tr_s rfl rfl ?_
              refine tr_s rfl rfl ?_
              refine tr_s rfl rfl ?_
              refine tr_p (y_pick_f rfl rfl) rfl rfl ?_
              refine tr_nil ?_
              refine tr_thenN ?_
              exact tr_join [(0, x0.enc), (1, (.string x1)), (6, (.int .i64 x6)), (38, (.bool false))] ⟨rfl, rfl, rfl, rfl, trivial⟩ ⟨_, _, _, _, rfl, H⟩
      · replace H := H.2 g8
        refine tr_exit ?_
        refine tr_thenE ?_
        refine tr_thenE ?_
        refine tr_hit ?_
        refine tr_thenN ?_
        refine tr_seq ?_
        refine tr_region ?_
        refine tr_p (y_move rfl) rfl rfl ?_
        refine tr_p (y_assign rfl) rfl rfl ?_
        refine tr_p (y_assign rfl) rfl rfl ?_
        refine tr_nil ?_
        refine tr_thenN ?_
        refine tr_ret ?_
        exact tr_ret2 rfl rfl rfl ⟨_, _, rfl, H⟩

def F.table_Table_Slint_Move.j3 (Q : Int → H → Prop) (C1 : (Option Addr) → Int → H → Prop) (x0 : Option Addr) (x1 : Int) (h : H) : Prop :=
  C1 x0 (IntKind.wrap .i64 (x1 - 1)) h
def F.table_Table_Slint_Move.j4 (Q : Int → H → Prop) (C1 : (Option Addr) → Int → H → Prop) (x0 : Option Addr) (x1 : Int) (h : H) : Prop :=
  nn x0 fun a1 =>
  ldI .i64 h (a1.add 2) fun y3 =>
  nn x0 fun a5 =>
  stH h (a5.add 2) [(.int .i64 (IntKind.wrap .i64 (y3 + 1)))] fun h7 =>
  F.table_Table_Slint_Move.j3 Q C1 x0 x1 h7
def F.table_Table_Slint_Move.j2 (Q : Int → H → Prop) (C1 : (Option Addr) → Int → H → Prop) (x0 : Option Addr) (x1 : Int) (h : H) : Prop :=
  nn x0 fun a8 =>
  ldL h (a8.add 1) fun y10 =>
  nn x0 fun a12 =>
  ldI .i64 h (a12.add 2) fun y14 =>
  idxA y10 y14 3 fun a16 =>
  ldI .u8 h (a16.add 0) fun y18 =>
  (((y18 == 1)) = true →
  nn x0 fun a21 =>
  ldL h (a21.add 0) fun y23 =>
  ldS h (a16.add 1) fun y25 =>
  F.table_find_Slint y23 y25 h fun r28 r29 h27 =>
  nn x0 fun a30 =>
  ldL h27 (a30.add 0) fun y32 =>
  ld_S_table_place_Slint h27 a16 fun y34 =>
  idxA y32 r28 3 fun a36 =>
  stH h27 a36 y34.cells fun h38 =>
  stH h38 a16 ((⟨2, (⟨#[]⟩ : ByteArray), (⟨none, 0, 0⟩ : Sl)⟩ : S_table_place_Slint).cells) fun h39 =>
  F.table_Table_Slint_Move.j4 Q C1 x0 x1 h39) ∧
  (((y18 == 1)) = false →
  F.table_Table_Slint_Move.j4 Q C1 x0 x1 h)
def F.table_Table_Slint_Move.j6 (Q : Int → H → Prop) (x0 : Option Addr) (h : H) : Prop :=
  F.table_Table_Slint_Left x0 h fun r42 h41 =>
  Q r42 h41
def F.table_Table_Slint_Move.j5 (Q : Int → H → Prop) (C1 : (Option Addr) → Int → H → Prop) (x0 : Option Addr) (x1 : Int) (x21 : Bool) (h : H) : Prop :=
  (x21 = true →
  F.table_Table_Slint_Move.j2 Q C1 x0 x1 h) ∧
  (x21 = false →
  nn x0 fun a43 =>
  ldI .i64 h (a43.add 2) fun y45 =>
  nn x0 fun a47 =>
  ldL h (a47.add 1) fun y49 =>
  (((y45 == (y49.len : Int))) = true →
  nn x0 fun a52 =>
  stH h (a52.add 1) [(⟨none, 0, 0⟩ : Sl).enc] fun h54 =>
  nn x0 fun a55 =>
  stH h54 (a55.add 2) [(.int .i64 0)] fun h57 =>
  F.table_Table_Slint_Move.j6 Q x0 h57) ∧
  (((y45 == (y49.len : Int))) = false →
  F.table_Table_Slint_Move.j6 Q x0 h))
def F.table_Table_Slint_Move.l1 (Q : Int → H → Prop) : Nat → (Option Addr) → Int → H → Prop
  | 0, _, _, _ => False
  | q1 + 1, x0, x1, h =>
    ((decide (x1 > 0)) = true →
    nn x0 fun a59 =>
    ldI .i64 h (a59.add 2) fun y61 =>
    nn x0 fun a63 =>
    ldL h (a63.add 1) fun y65 =>
    F.table_Table_Slint_Move.j5 Q (F.table_Table_Slint_Move.l1 Q q1) x0 x1 (decide (y61 < (y65.len : Int))) h) ∧
    ((decide (x1 > 0)) = false →
    F.table_Table_Slint_Move.j5 Q (F.table_Table_Slint_Move.l1 Q q1) x0 x1 false h)
/-- (*spate/table.Table[[]int]).Move -/
def F.table_Table_Slint_Move (p0 : Option Addr) (p1 : Int) (h : H) (Q : Int → H → Prop) : Prop :=
  ∃ m, F.table_Table_Slint_Move.l1 Q m p0 p1 h
theorem F.table_Table_Slint_Move_ok {p0 : Option Addr} {p1 : Int} {h : H} {Q : Int → H → Prop} (H : F.table_Table_Slint_Move p0 p1 h Q) : Fn PP 36 ([(.pointer p0), (.int .i64 p1)] : List Value).toArray h fun r h' => ∃ r0, r = (.int .i64 r0) ∧ Q r0 h' := by
  unfold F.table_Table_Slint_Move at H
  refine fn_of Try.func36 Try.ntmps36 rfl rfl fun w0 => ?_
  refine tr_sub [(0, (.pointer p0)), (1, (.int .i64 p1))] ⟨rfl, rfl, trivial⟩ ?_
  refine tr_seq ?_
  refine tr_region ?_
  refine tr_p (y_assign rfl) rfl rfl ?_
  refine tr_nil ?_
  refine tr_thenN ?_
  refine tr_seq ?_
  refine tr_block ?_
  obtain ⟨m67, H⟩ := H
  refine tr_sub [(0, (.pointer p0)), (1, (.int .i64 p1))] ⟨rfl, rfl, trivial⟩ ?_
  refine tr_loop_j (fun m L' h => ∃ (x0 : Option Addr) (x1 : Int), L' = [(0, (.pointer x0)), (1, (.int .i64 x1))] ∧ F.table_Table_Slint_Move.l1 Q m x0 x1 h) ?_ ?_ m67 ⟨_, _, rfl, H⟩
  · rintro L' h ⟨_, _, _, H⟩; exact H
  · rintro q1 L' h ⟨x0, x1, rfl, H⟩
    unfold F.table_Table_Slint_Move.l1 at H
    refine tr_seq_j (fun L' h => ∃ (x0 : Option Addr) (x1 : Int), L' = [(0, (.pointer x0)), (1, (.int .i64 x1))] ∧ F.table_Table_Slint_Move.j2 Q (F.table_Table_Slint_Move.l1 Q q1) x0 x1 h) ?_ ?_
    · rintro L' h ⟨x0, x1, rfl, H⟩
      unfold F.table_Table_Slint_Move.j2 at H
      refine tr_seq_j (fun L' h => ∃ (x0 : Option Addr) (x1 : Int), L' = [(0, (.pointer x0)), (1, (.int .i64 x1))] ∧ F.table_Table_Slint_Move.j3 Q (F.table_Table_Slint_Move.l1 Q q1) x0 x1 h) ?_ ?_
      · rintro L' h ⟨x0, x1, rfl, H⟩
        unfold F.table_Table_Slint_Move.j3 at H
        refine tr_region ?_
        refine tr_p (y_move rfl) rfl rfl ?_
        refine tr_p (y_sub rfl rfl) rfl rfl ?_
        refine tr_p (y_assign rfl) rfl rfl ?_
        refine tr_nil ?_
        refine tr_thenN ?_
        exact tr_join [(0, (.pointer x0)), (1, (.int .i64 (IntKind.wrap .i64 (x1 - 1))))] ⟨rfl, rfl, trivial⟩ ⟨_, _, rfl, H⟩
      · refine tr_block ?_
        refine tr_seq_j (fun L' h => ∃ (x0 : Option Addr) (x1 : Int), L' = [(0, (.pointer x0)), (1, (.int .i64 x1))] ∧ F.table_Table_Slint_Move.j4 Q (F.table_Table_Slint_Move.l1 Q q1) x0 x1 h) ?_ ?_
        · rintro L' h ⟨x0, x1, rfl, H⟩
          unfold F.table_Table_Slint_Move.j4 at H
          refine tr_region ?_
          refine tr_p (y_move rfl) rfl rfl ?_
          obtain ⟨a1, e2, H⟩ := H
          refine tr_p (f_nn rfl e2) rfl rfl ?_
          refine tr_p (y_fa (off := 2) Try.runUnderlying89 fo_89_2 rfl) rfl rfl ?_
          obtain ⟨y3, k4, H⟩ := H
          refine tr_h (y_ld Try.isAgg3 rfl) k4 rfl rfl ?_
          refine tr_p (y_add rfl rfl) rfl rfl ?_
          obtain ⟨a5, e6, H⟩ := H
          refine tr_p (f_nn rfl e6) rfl rfl ?_
          refine tr_p (y_fa (off := 2) Try.runUnderlying89 fo_89_2 rfl) rfl rfl ?_
          refine tr_e (f_store (vs := [(.int .i64 (IntKind.wrap .i64 (y3 + 1)))]) Try.sizeOf3 rfl rfl rfl rfl (one1 rfl) H) rfl rfl ?_
          rintro _ h7 ⟨rfl, H⟩
          refine tr_nil ?_
          refine tr_blockN ?_
          refine tr_thenN ?_
          exact tr_join [(0, (.pointer x0)), (1, (.int .i64 x1))] ⟨rfl, rfl, trivial⟩ ⟨_, _, rfl, H⟩
        · refine tr_seq ?_
          refine tr_draw mixed [0, 1, 3, 7, 0, 16, 48, 112, 255, 511] (by kernel_rfl) ?_
          refine g_p 0 1 rfl (by kernel_rfl) (y_move rfl) rfl rfl ?_
          obtain ⟨a8, e9, H⟩ := H
          refine g_p 1 3 rfl (by kernel_rfl) (f_nn rfl e9) rfl rfl ?_
          refine g_p 2 7 rfl (by kernel_rfl) (y_fa (off := 1) Try.runUnderlying89 fo_89_1 rfl) rfl rfl ?_
          obtain ⟨y10, k11, H⟩ := H
          refine g_h 3 15 rfl (by kernel_rfl) (y_ld Try.isAgg87 rfl) k11 rfl rfl ?_
          refine g_p 4 31 rfl (by kernel_rfl) (y_move rfl) rfl rfl ?_
          obtain ⟨a12, e13, H⟩ := H
          refine g_p 5 63 rfl (by kernel_rfl) (f_nn rfl e13) rfl rfl ?_
          refine g_p 6 127 rfl (by kernel_rfl) (y_fa (off := 2) Try.runUnderlying89 fo_89_2 rfl) rfl rfl ?_
          obtain ⟨y14, k15, H⟩ := H
          refine g_h 7 255 rfl (by kernel_rfl) (y_ld Try.isAgg3 rfl) k15 rfl rfl ?_
          obtain ⟨a16, e17, H⟩ := H
          refine g_p 8 511 rfl (by kernel_rfl) (f_idx (s := y10) Try.runUnderlying87 Try.sizeOf93 rfl rfl e17) rfl rfl ?_
          refine g_p 9 1023 rfl (by kernel_rfl) (y_assign rfl) rfl rfl ?_
          refine g_d (by kernel_rfl) ?_
          refine tr_thenN ?_
          refine tr_seq ?_
          refine tr_region ?_
          refine tr_p (y_move rfl) rfl rfl ?_
          refine tr_p (y_nil rfl) rfl rfl ?_
          refine tr_p (y_fa (off := 0) Try.runUnderlying93 fo_93_0 rfl) rfl rfl ?_
          obtain ⟨y18, k19, H⟩ := H
          refine tr_h (y_ld Try.isAgg5 rfl) k19 rfl rfl ?_
          refine tr_p (y_eql rfl rfl) rfl rfl ?_
          refine tr_nil ?_
          refine tr_thenN ?_
          refine tr_cond rfl (fun g20 => ?_) (fun g20 => ?_)
          · replace H := H.1 g20
            refine tr_seq ?_
            refine tr_draw mixed [0, 1, 3, 7, 0, 16, 48, 112, 255, 511, 1023, 1023, 2047, 8191] (by kernel_rfl) ?_
            refine g_p 0 1 rfl (by kernel_rfl) (y_move rfl) rfl rfl ?_
            obtain ⟨a21, e22, H⟩ := H
            refine g_p 1 3 rfl (by kernel_rfl) (f_nn rfl e22) rfl rfl ?_
            refine g_p 2 7 rfl (by kernel_rfl) (y_fa (off := 0) Try.runUnderlying89 fo_89_0 rfl) rfl rfl ?_
            obtain ⟨y23, k24, H⟩ := H
            refine g_h 3 15 rfl (by kernel_rfl) (y_ld Try.isAgg87 rfl) k24 rfl rfl ?_
            refine g_p 4 31 rfl (by kernel_rfl) (y_move rfl) rfl rfl ?_
            refine g_p 5 63 rfl (by kernel_rfl) (y_nil rfl) rfl rfl ?_
            refine g_p 6 127 rfl (by kernel_rfl) (y_fa (off := 1) Try.runUnderlying93 fo_93_1 rfl) rfl rfl ?_
            obtain ⟨y25, k26, H⟩ := H
            refine g_h 7 255 rfl (by kernel_rfl) (y_ld Try.isAgg9 rfl) k26 rfl rfl ?_
            refine g_e 8 511 [] (by kernel_rfl) rfl (by kernel_rfl) (e_call Try.call54 rfl (F.table_find_Slint_ok H)) rfl rfl ?_
            rintro _ h27 ⟨r28, r29, rfl, H⟩
            refine ⟨trivial, ?_⟩
            refine g_p 9 1023 rfl (by kernel_rfl) (y_move rfl) rfl rfl ?_
            refine g_p 10 2047 rfl (by kernel_rfl) (y_ext rfl rfl) rfl rfl ?_
            refine g_p 11 4095 rfl (by kernel_rfl) (y_ext rfl rfl) rfl rfl ?_
            refine g_p 12 8191 rfl (by kernel_rfl) (y_assign rfl) rfl rfl ?_
            refine g_p 13 16383 rfl (by kernel_rfl) (y_assign rfl) rfl rfl ?_
            refine g_d (by kernel_rfl) ?_
            refine tr_thenN ?_
            refine tr_seq ?_
            refine tr_draw mixed [0, 1, 3, 7, 0, 0, 32, 96, 255, 511] (by kernel_rfl) ?_
            refine g_p 0 1 rfl (by kernel_rfl) (y_move rfl) rfl rfl ?_
            obtain ⟨a30, e31, H⟩ := H
            refine g_p 1 3 rfl (by kernel_rfl) (f_nn rfl e31) rfl rfl ?_
            refine g_p 2 7 rfl (by kernel_rfl) (y_fa (off := 0) Try.runUnderlying89 fo_89_0 rfl) rfl rfl ?_
            obtain ⟨y32, k33, H⟩ := H
            refine g_h 3 15 rfl (by kernel_rfl) (y_ld Try.isAgg87 rfl) k33 rfl rfl ?_
            refine g_p 4 31 rfl (by kernel_rfl) (y_move rfl) rfl rfl ?_
            refine g_p 5 63 rfl (by kernel_rfl) (y_move rfl) rfl rfl ?_
            refine g_p 6 127 rfl (by kernel_rfl) (y_nil rfl) rfl rfl ?_
            obtain ⟨y34, k35, H⟩ := H
            refine g_h 7 255 rfl (by kernel_rfl) (y_ldS Try.isAgg93 Try.sizeOf93 rfl rfl) k35 rfl rfl ?_
            obtain ⟨a36, e37, H⟩ := H
            refine g_p 8 511 rfl (by kernel_rfl) (f_idx (s := y32) Try.runUnderlying87 Try.sizeOf93 rfl rfl e37) rfl rfl ?_
            refine g_e 9 1023 [] (by kernel_rfl) rfl (by kernel_rfl) (f_store (vs := y34.cells) Try.sizeOf93 rfl rfl cellsOfStruct rfl (by intro v hv; exact ones_S_table_place_Slint _ v hv) H) rfl rfl ?_
            rintro _ h38 ⟨rfl, H⟩
            refine ⟨trivial, ?_⟩
            refine g_d (by kernel_rfl) ?_
            refine tr_thenN ?_
            refine tr_region ?_
            refine tr_p (y_move rfl) rfl rfl ?_
            refine tr_p (f_build rfl (bd_93_0 2)) rfl rfl ?_
            refine tr_p (y_nil rfl) rfl rfl ?_
            refine tr_e (f_store (vs := (⟨2, (⟨#[]⟩ : ByteArray), (⟨none, 0, 0⟩ : Sl)⟩ : S_table_place_Slint).cells) Try.sizeOf93 rfl rfl cellsOfStruct rfl (by intro v hv; exact ones_S_table_place_Slint _ v hv) H) rfl rfl ?_
            rintro _ h39 ⟨rfl, H⟩
            refine tr_nil ?_
            refine tr_thenN ?_
            exact tr_join [(0, (.pointer x0)), (1, (.int .i64 x1))] ⟨rfl, rfl, trivial⟩ ⟨_, _, rfl, H⟩
          · replace H := H.2 g20
            refine tr_skip ?_
            refine tr_thenN ?_
            exact tr_join [(0, (.pointer x0)), (1, (.int .i64 x1))] ⟨rfl, rfl, trivial⟩ ⟨_, _, rfl, H⟩
    · refine tr_seq_j (fun L' h => ∃ (x0 : Option Addr) (x1 : Int) (x21 : Bool), L' = [(0, (.pointer x0)), (1, (.int .i64 x1)), (21, (.bool x21))] ∧ F.table_Table_Slint_Move.j5 Q (F.table_Table_Slint_Move.l1 Q q1) x0 x1 x21 h) ?_ ?_
      · rintro L' h ⟨x0, x1, x21, rfl, H⟩
        unfold F.table_Table_Slint_Move.j5 at H
        refine tr_cond rfl (fun g40 => ?_) (fun g40 => ?_)
        · replace H := H.1 g40
          refine tr_skip ?_
          refine tr_thenN ?_
          exact tr_join [(0, (.pointer x0)), (1, (.int .i64 x1))] ⟨rfl, rfl, trivial⟩ ⟨_, _, rfl, H⟩
        · replace H := H.2 g40
          refine tr_exit ?_
          refine tr_thenE ?_
          refine tr_thenE ?_
          refine tr_hit ?_
          refine tr_thenN ?_
          refine tr_seq_j (fun L' h => ∃ (x0 : Option Addr), L' = [(0, (.pointer x0))] ∧ F.table_Table_Slint_Move.j6 Q x0 h) ?_ ?_
          · rintro L' h ⟨x0, rfl, H⟩
            unfold F.table_Table_Slint_Move.j6 at H
            refine tr_seq ?_
            refine tr_region ?_
            refine tr_p (y_move rfl) rfl rfl ?_
            refine tr_e (e_call Try.call33 rfl (F.table_Table_Slint_Left_ok H)) rfl rfl ?_
            rintro _ h41 ⟨r42, rfl, H⟩
            refine tr_p (y_assign rfl) rfl rfl ?_
            refine tr_nil ?_
            refine tr_thenN ?_
            refine tr_ret ?_
            exact tr_ret1 rfl rfl ⟨_, rfl, H⟩
          · refine tr_seq ?_
            refine tr_draw mixed [0, 1, 3, 7, 0, 16, 48, 112, 240, 511] (by kernel_rfl) ?_
            refine g_p 0 1 rfl (by kernel_rfl) (y_move rfl) rfl rfl ?_
            obtain ⟨a43, e44, H⟩ := H
            refine g_p 1 3 rfl (by kernel_rfl) (f_nn rfl e44) rfl rfl ?_
            refine g_p 2 7 rfl (by kernel_rfl) (y_fa (off := 2) Try.runUnderlying89 fo_89_2 rfl) rfl rfl ?_
            obtain ⟨y45, k46, H⟩ := H
            refine g_h 3 15 rfl (by kernel_rfl) (y_ld Try.isAgg3 rfl) k46 rfl rfl ?_
            refine g_p 4 31 rfl (by kernel_rfl) (y_move rfl) rfl rfl ?_
            obtain ⟨a47, e48, H⟩ := H
            refine g_p 5 63 rfl (by kernel_rfl) (f_nn rfl e48) rfl rfl ?_
            refine g_p 6 127 rfl (by kernel_rfl) (y_fa (off := 1) Try.runUnderlying89 fo_89_1 rfl) rfl rfl ?_
            obtain ⟨y49, k50, H⟩ := H
            refine g_h 7 255 rfl (by kernel_rfl) (y_ld Try.isAgg87 rfl) k50 rfl rfl ?_
            refine g_p 8 511 rfl (by kernel_rfl) (y_len (ts := #[]) Try.runUnderlying87 (o := y49.ptr) (n := y49.len) (cap := y49.cap) rfl) rfl rfl ?_
            refine g_p 9 1023 rfl (by kernel_rfl) (y_eql rfl rfl) rfl rfl ?_
            refine g_d (by kernel_rfl) ?_
            refine tr_thenN ?_
            refine tr_cond rfl (fun g51 => ?_) (fun g51 => ?_)
            · replace H := H.1 g51
              refine tr_region ?_
              refine tr_p (y_move rfl) rfl rfl ?_
              refine tr_p (y_move rfl) rfl rfl ?_
              obtain ⟨a52, e53, H⟩ := H
              refine tr_p (f_nn rfl e53) rfl rfl ?_
              refine tr_p (y_fa (off := 1) Try.runUnderlying89 fo_89_1 rfl) rfl rfl ?_
              refine tr_e (f_store (vs := [(⟨none, 0, 0⟩ : Sl).enc]) Try.sizeOf87 rfl rfl rfl rfl (one1 rfl) H) rfl rfl ?_
              rintro _ h54 ⟨rfl, H⟩
              obtain ⟨a55, e56, H⟩ := H
              refine tr_p (f_nn rfl e56) rfl rfl ?_
              refine tr_p (y_fa (off := 2) Try.runUnderlying89 fo_89_2 rfl) rfl rfl ?_
              refine tr_e (f_store (vs := [(.int .i64 0)]) Try.sizeOf3 rfl rfl rfl rfl (one1 rfl) H) rfl rfl ?_
              rintro _ h57 ⟨rfl, H⟩
              refine tr_nil ?_
              refine tr_thenN ?_
              exact tr_join [(0, (.pointer x0))] ⟨rfl, trivial⟩ ⟨_, rfl, H⟩
            · replace H := H.2 g51
              refine tr_skip ?_
              refine tr_thenN ?_
              exact tr_join [(0, (.pointer x0))] ⟨rfl, trivial⟩ ⟨_, rfl, H⟩
      · refine tr_draw mixed [0, 1, 3, 7, 15, 31, 63, 7, 135, 391, 903, 1927, 4095, 8191] (by kernel_rfl) ?_
        refine g_p 0 1 rfl (by kernel_rfl) (y_move rfl) rfl rfl ?_
        refine g_p 1 3 rfl (by kernel_rfl) (y_gtr rfl rfl) rfl rfl ?_
        refine g_p 2 7 rfl (by kernel_rfl) (y_move rfl) rfl rfl ?_
        refine g_split (t := 10) rfl (fun g58 => ?_) (fun g58 => ?_)
        · replace H := H.1 g58
          refine g_p 3 15 rfl (by kernel_rfl) (y_move rfl) rfl rfl ?_
          obtain ⟨a59, e60, H⟩ := H
          refine g_p 4 31 rfl (by kernel_rfl) (f_nn rfl e60) rfl rfl ?_
          refine g_p 5 63 rfl (by kernel_rfl) (y_fa (off := 2) Try.runUnderlying89 fo_89_2 rfl) rfl rfl ?_
          obtain ⟨y61, k62, H⟩ := H
          refine g_h 6 127 rfl (by kernel_rfl) (y_ld Try.isAgg3 rfl) k62 rfl rfl ?_
          refine g_p 7 255 rfl (by kernel_rfl) (y_move rfl) rfl rfl ?_
          obtain ⟨a63, e64, H⟩ := H
          refine g_p 8 511 rfl (by kernel_rfl) (f_nn rfl e64) rfl rfl ?_
          refine g_p 9 1023 rfl (by kernel_rfl) (y_fa (off := 1) Try.runUnderlying89 fo_89_1 rfl) rfl rfl ?_
          obtain ⟨y65, k66, H⟩ := H
          refine g_h 10 2047 rfl (by kernel_rfl) (y_ld Try.isAgg87 rfl) k66 rfl rfl ?_
          refine g_p 11 4095 rfl (by kernel_rfl) (y_len (ts := #[]) Try.runUnderlying87 (o := y65.ptr) (n := y65.len) (cap := y65.cap) rfl) rfl rfl ?_
          refine g_p 12 8191 rfl (by kernel_rfl) (y_lss rfl rfl) rfl rfl ?_
          refine g_p 13 16383 rfl (by kernel_rfl) (y_pick_t rfl rfl) rfl rfl ?_
          refine g_d (by kernel_rfl) ?_
          refine tr_thenN ?_
          exact tr_join [(0, (.pointer x0)), (1, (.int .i64 x1)), (21, (.bool (decide (y61 < (y65.len : Int)))))] ⟨rfl, rfl, rfl, trivial⟩ ⟨_, _, _, rfl, H⟩
        · replace H := H.2 g58
          refine g_s 3 15 rfl (by kernel_rfl) rfl rfl ?_
          refine g_s 4 31 rfl (by kernel_rfl) rfl rfl ?_
          refine g_s 5 63 rfl (by kernel_rfl) rfl rfl ?_
          refine g_s 6 127 rfl (by kernel_rfl) rfl rfl ?_
          refine g_s 7 255 rfl (by kernel_rfl) rfl rfl ?_
          refine g_s 8 511 rfl (by kernel_rfl) rfl rfl ?_
          refine g_s 9 1023 rfl (by kernel_rfl) rfl rfl ?_
          refine g_s 10 2047 rfl (by kernel_rfl) rfl rfl ?_
          refine g_s 11 4095 rfl (by kernel_rfl) rfl rfl ?_
          refine g_s 12 8191 rfl (by kernel_rfl) rfl rfl ?_
          refine g_p 13 16383 rfl (by kernel_rfl) (y_pick_f rfl rfl) rfl rfl ?_
          refine g_d (by kernel_rfl) ?_
          refine tr_thenN ?_
          exact tr_join [(0, (.pointer x0)), (1, (.int .i64 x1)), (21, (.bool false))] ⟨rfl, rfl, rfl, trivial⟩ ⟨_, _, _, rfl, H⟩

/-- (*spate/table.Table[[]int]).where -/
def F.table_Table_Slint_where (p0 : Option Addr) (p1 : ByteArray) (h : H) (Q : (Option Addr) → H → Prop) : Prop :=
  nn p0 fun a1 =>
  ldL h (a1.add 0) fun y3 =>
  F.table_find_Slint y3 p1 h fun r6 r7 h5 =>
  (r7 = true →
  nn p0 fun a9 =>
  ldL h5 (a9.add 0) fun y11 =>
  idxA y11 r6 3 fun a13 =>
  Q (some a13) h5) ∧
  (r7 = false →
  nn p0 fun a15 =>
  ldL h5 (a15.add 1) fun y17 =>
  F.table_find_Slint y17 p1 h5 fun r20 r21 h19 =>
  (r21 = true →
  nn p0 fun a23 =>
  ldL h19 (a23.add 1) fun y25 =>
  idxA y25 r20 3 fun a27 =>
  Q (some a27) h19) ∧
  (r21 = false →
  Q none h19))
theorem F.table_Table_Slint_where_ok {p0 : Option Addr} {p1 : ByteArray} {h : H} {Q : (Option Addr) → H → Prop} (H : F.table_Table_Slint_where p0 p1 h Q) : Fn PP 53 ([(.pointer p0), (.string p1)] : List Value).toArray h fun r h' => ∃ r0, r = (.pointer r0) ∧ Q r0 h' := by
  unfold F.table_Table_Slint_where at H
  refine fn_of Try.func53 Try.ntmps53 rfl rfl fun w0 => ?_
  refine tr_sub [(0, (.pointer p0)), (1, (.string p1))] ⟨rfl, rfl, trivial⟩ ?_
  refine tr_seq ?_
  refine tr_region ?_
  refine tr_p (y_assign rfl) rfl rfl ?_
  refine tr_nil ?_
  refine tr_thenN ?_
  refine tr_seq ?_
  refine tr_seq ?_
  refine tr_region ?_
  refine tr_p (y_move rfl) rfl rfl ?_
  obtain ⟨a1, e2, H⟩ := H
  refine tr_p (f_nn rfl e2) rfl rfl ?_
  refine tr_p (y_fa (off := 0) Try.runUnderlying89 fo_89_0 rfl) rfl rfl ?_
  obtain ⟨y3, k4, H⟩ := H
  refine tr_h (y_ld Try.isAgg87 rfl) k4 rfl rfl ?_
  refine tr_p (y_move rfl) rfl rfl ?_
  refine tr_e (e_call Try.call54 rfl (F.table_find_Slint_ok H)) rfl rfl ?_
  rintro _ h5 ⟨r6, r7, rfl, H⟩
  refine tr_p (y_move rfl) rfl rfl ?_
  refine tr_p (y_ext rfl rfl) rfl rfl ?_
  refine tr_p (y_ext rfl rfl) rfl rfl ?_
  refine tr_p (y_assign rfl) rfl rfl ?_
  refine tr_p (y_assign rfl) rfl rfl ?_
  refine tr_nil ?_
  refine tr_thenN ?_
  refine tr_seq ?_
  refine tr_region ?_
  refine tr_p (y_move rfl) rfl rfl ?_
  refine tr_nil ?_
  refine tr_thenN ?_
  refine tr_cond rfl (fun g8 => ?_) (fun g8 => ?_)
  · replace H := H.1 g8
    refine tr_seq ?_
    refine tr_region ?_
    refine tr_p (y_move rfl) rfl rfl ?_
    obtain ⟨a9, e10, H⟩ := H
    refine tr_p (f_nn rfl e10) rfl rfl ?_
    refine tr_p (y_fa (off := 0) Try.runUnderlying89 fo_89_0 rfl) rfl rfl ?_
    obtain ⟨y11, k12, H⟩ := H
    refine tr_h (y_ld Try.isAgg87 rfl) k12 rfl rfl ?_
    refine tr_p (y_move rfl) rfl rfl ?_
    obtain ⟨a13, e14, H⟩ := H
    refine tr_p (f_idx (s := y11) Try.runUnderlying87 Try.sizeOf93 rfl rfl e14) rfl rfl ?_
    refine tr_p (y_assign rfl) rfl rfl ?_
    refine tr_nil ?_
    refine tr_thenN ?_
    refine tr_ret ?_
    refine tr_thenR ?_
    exact tr_ret1 rfl rfl ⟨_, rfl, H⟩
  · replace H := H.2 g8
    refine tr_skip ?_
    refine tr_thenN ?_
    refine tr_seq ?_
    refine tr_seq ?_
    refine tr_region ?_
    refine tr_p (y_move rfl) rfl rfl ?_
    obtain ⟨a15, e16, H⟩ := H
    refine tr_p (f_nn rfl e16) rfl rfl ?_
    refine tr_p (y_fa (off := 1) Try.runUnderlying89 fo_89_1 rfl) rfl rfl ?_
    obtain ⟨y17, k18, H⟩ := H
    refine tr_h (y_ld Try.isAgg87 rfl) k18 rfl rfl ?_
    refine tr_p (y_move rfl) rfl rfl ?_
    refine tr_e (e_call Try.call54 rfl (F.table_find_Slint_ok H)) rfl rfl ?_
    rintro _ h19 ⟨r20, r21, rfl, H⟩
    refine tr_p (y_move rfl) rfl rfl ?_
    refine tr_p (y_ext rfl rfl) rfl rfl ?_
    refine tr_p (y_ext rfl rfl) rfl rfl ?_
    refine tr_p (y_assign rfl) rfl rfl ?_
    refine tr_p (y_assign rfl) rfl rfl ?_
    refine tr_nil ?_
    refine tr_thenN ?_
    refine tr_seq ?_
    refine tr_region ?_
    refine tr_p (y_move rfl) rfl rfl ?_
    refine tr_nil ?_
    refine tr_thenN ?_
    refine tr_cond rfl (fun g22 => ?_) (fun g22 => ?_)
    · replace H := H.1 g22
      refine tr_seq ?_
      refine tr_region ?_
      refine tr_p (y_move rfl) rfl rfl ?_
      obtain ⟨a23, e24, H⟩ := H
      refine tr_p (f_nn rfl e24) rfl rfl ?_
      refine tr_p (y_fa (off := 1) Try.runUnderlying89 fo_89_1 rfl) rfl rfl ?_
      obtain ⟨y25, k26, H⟩ := H
      refine tr_h (y_ld Try.isAgg87 rfl) k26 rfl rfl ?_
      refine tr_p (y_move rfl) rfl rfl ?_
      obtain ⟨a27, e28, H⟩ := H
      refine tr_p (f_idx (s := y25) Try.runUnderlying87 Try.sizeOf93 rfl rfl e28) rfl rfl ?_
      refine tr_p (y_assign rfl) rfl rfl ?_
      refine tr_nil ?_
      refine tr_thenN ?_
      refine tr_ret ?_
      refine tr_thenR ?_
      exact tr_ret1 rfl rfl ⟨_, rfl, H⟩
    · replace H := H.2 g22
      refine tr_skip ?_
      refine tr_thenN ?_
      refine tr_seq ?_
      refine tr_region ?_
      refine tr_p (y_assign rfl) rfl rfl ?_
      refine tr_nil ?_
      refine tr_thenN ?_
      refine tr_ret ?_
      exact tr_ret1 rfl rfl ⟨_, rfl, H⟩

def F.table_Table_Slint_Put.j1 (Q : H → Prop) (x0 : Option Addr) (x1 : ByteArray) (x2 : Sl) (h : H) : Prop :=
  nn x0 fun a9 =>
  ldL h (a9.add 0) fun y11 =>
  F.table_find_Slint y11 x1 h fun r14 r15 h13 =>
  nn x0 fun a16 =>
  ldL h13 (a16.add 0) fun y18 =>
  idxA y18 r14 3 fun a20 =>
  stH h13 a20 ((⟨1, x1, x2⟩ : S_table_place_Slint).cells) fun h22 =>
  nn x0 fun a23 =>
  ldI .i64 h22 (a23.add 3) fun y25 =>
  nn x0 fun a27 =>
  stH h22 (a27.add 3) [(.int .i64 (IntKind.wrap .i64 (y25 + 1)))] fun h29 =>
  Q h29
/-- (*spate/table.Table[[]int]).Put -/
def F.table_Table_Slint_Put (p0 : Option Addr) (p1 : ByteArray) (p2 : Sl) (h : H) (Q : H → Prop) : Prop :=
  F.table_Table_Slint_Move p0 4 h fun r2 h1 =>
  F.table_Table_Slint_where p0 p1 h1 fun r4 h3 =>
  ((!r4.isNone) = true →
  nn r4 fun a6 =>
  stH h3 (a6.add 2) [p2.enc] fun h8 =>
  Q h8) ∧
  ((!r4.isNone) = false →
  nn p0 fun a30 =>
  ldI .i64 h3 (a30.add 3) fun y32 =>
  nn p0 fun a34 =>
  ldL h3 (a34.add 0) fun y36 =>
  ((decide ((IntKind.wrap .i64 (4 * (IntKind.wrap .i64 (y32 + 1)))) > (IntKind.wrap .i64 (3 * (y36.len : Int))))) = true →
  nn p0 fun a39 =>
  ldL h3 (a39.add 1) fun y41 =>
  F.table_Table_Slint_Move p0 (y41.len : Int) h3 fun r44 h43 =>
  nn p0 fun a45 =>
  ldL h43 (a45.add 0) fun y47 =>
  nn p0 fun a49 =>
  ldL h43 (a49.add 0) fun y51 =>
  runL PP (Instr.makeSlice 87 (.int .i64 (IntKind.wrap .i64 (2 * (y47.len : Int)))) (.int .i64 (IntKind.wrap .i64 (2 * (y47.len : Int))))) h43 fun s54 h53 =>
  cellH h53 (a49.add 0) = some y51.enc ∧
  nn p0 fun a56 =>
  stH h53 (a56.add 0) [s54.enc] fun h58 =>
  nn p0 fun a59 =>
  stH h58 (a59.add 1) [y51.enc] fun h61 =>
  nn p0 fun a62 =>
  stH h61 (a62.add 2) [(.int .i64 0)] fun h64 =>
  F.table_Table_Slint_Put.j1 Q p0 p1 p2 h64) ∧
  ((decide ((IntKind.wrap .i64 (4 * (IntKind.wrap .i64 (y32 + 1)))) > (IntKind.wrap .i64 (3 * (y36.len : Int))))) = false →
  F.table_Table_Slint_Put.j1 Q p0 p1 p2 h3))
theorem F.table_Table_Slint_Put_ok {p0 : Option Addr} {p1 : ByteArray} {p2 : Sl} {h : H} {Q : H → Prop} (H : F.table_Table_Slint_Put p0 p1 p2 h Q) : Fn PP 34 ([(.pointer p0), (.string p1), p2.enc] : List Value).toArray h fun r h' => r = .tuple #[] ∧ Q  h' := by
  unfold F.table_Table_Slint_Put at H
  refine fn_of Try.func34 Try.ntmps34 rfl rfl fun w0 => ?_
  refine tr_sub [(0, (.pointer p0)), (1, (.string p1)), (2, p2.enc)] ⟨rfl, rfl, rfl, trivial⟩ ?_
  refine tr_seq ?_
  refine tr_region ?_
  refine tr_p (y_move rfl) rfl rfl ?_
  refine tr_e (e_call Try.call36 rfl (F.table_Table_Slint_Move_ok H)) rfl rfl ?_
  rintro _ h1 ⟨r2, rfl, H⟩
  refine tr_nil ?_
  refine tr_thenN ?_
  refine tr_seq ?_
  refine tr_seq ?_
  refine tr_region ?_
  refine tr_p (y_move rfl) rfl rfl ?_
  refine tr_p (y_move rfl) rfl rfl ?_
  refine tr_e (e_call Try.call53 rfl (F.table_Table_Slint_where_ok H)) rfl rfl ?_
  rintro _ h3 ⟨r4, rfl, H⟩
  refine tr_p (y_assign rfl) rfl rfl ?_
  refine tr_nil ?_
  refine tr_thenN ?_
  refine tr_seq ?_
  refine tr_region ?_
  refine tr_p (y_move rfl) rfl rfl ?_
  refine tr_p (y_pnil_neq Try.runUnderlying90 rfl rfl) rfl rfl ?_
  refine tr_nil ?_
  refine tr_thenN ?_
  refine tr_cond rfl (fun g5 => ?_) (fun g5 => ?_)
  · replace H := H.1 g5
    refine tr_seq ?_
    refine tr_region ?_
    refine tr_p (y_move rfl) rfl rfl ?_
    refine tr_p (y_move rfl) rfl rfl ?_
    obtain ⟨a6, e7, H⟩ := H
    refine tr_p (f_nn rfl e7) rfl rfl ?_
    refine tr_p (y_fa (off := 2) Try.runUnderlying93 fo_93_2 rfl) rfl rfl ?_
    refine tr_e (f_store (vs := [p2.enc]) Try.sizeOf38 rfl rfl rfl rfl (one1 rfl) H) rfl rfl ?_
    rintro _ h8 ⟨rfl, H⟩
    refine tr_nil ?_
    refine tr_thenN ?_
    refine tr_ret ?_
    refine tr_thenR ?_
    exact tr_ret0 rfl ⟨rfl, H⟩
  · replace H := H.2 g5
    refine tr_skip ?_
    refine tr_thenN ?_
    refine tr_seq_j (fun L' h => ∃ (x0 : Option Addr) (x1 : ByteArray) (x2 : Sl), L' = [(0, (.pointer x0)), (1, (.string x1)), (2, x2.enc)] ∧ F.table_Table_Slint_Put.j1 Q x0 x1 x2 h) ?_ ?_
    · rintro L' h ⟨x0, x1, x2, rfl, H⟩
      unfold F.table_Table_Slint_Put.j1 at H
      refine tr_seq ?_
      refine tr_region ?_
      refine tr_p (y_move rfl) rfl rfl ?_
      obtain ⟨a9, e10, H⟩ := H
      refine tr_p (f_nn rfl e10) rfl rfl ?_
      refine tr_p (y_fa (off := 0) Try.runUnderlying89 fo_89_0 rfl) rfl rfl ?_
      obtain ⟨y11, k12, H⟩ := H
      refine tr_h (y_ld Try.isAgg87 rfl) k12 rfl rfl ?_
      refine tr_p (y_move rfl) rfl rfl ?_
      refine tr_e (e_call Try.call54 rfl (F.table_find_Slint_ok H)) rfl rfl ?_
      rintro _ h13 ⟨r14, r15, rfl, H⟩
      refine tr_p (y_move rfl) rfl rfl ?_
      refine tr_p (y_ext rfl rfl) rfl rfl ?_
      refine tr_p (y_ext rfl rfl) rfl rfl ?_
      refine tr_p (y_assign rfl) rfl rfl ?_
      refine tr_p (y_assign rfl) rfl rfl ?_
      refine tr_nil ?_
      refine tr_thenN ?_
      refine tr_seq ?_
      refine tr_region ?_
      refine tr_p (y_move rfl) rfl rfl ?_
      obtain ⟨a16, e17, H⟩ := H
      refine tr_p (f_nn rfl e17) rfl rfl ?_
      refine tr_p (y_fa (off := 0) Try.runUnderlying89 fo_89_0 rfl) rfl rfl ?_
      obtain ⟨y18, k19, H⟩ := H
      refine tr_h (y_ld Try.isAgg87 rfl) k19 rfl rfl ?_
      refine tr_p (y_move rfl) rfl rfl ?_
      refine tr_p (y_move rfl) rfl rfl ?_
      refine tr_p (y_move rfl) rfl rfl ?_
      refine tr_p (f_build rfl (bd_93_0_1_2 1 x1 x2)) rfl rfl ?_
      obtain ⟨a20, e21, H⟩ := H
      refine tr_p (f_idx (s := y18) Try.runUnderlying87 Try.sizeOf93 rfl rfl e21) rfl rfl ?_
      refine tr_e (f_store (vs := (⟨1, x1, x2⟩ : S_table_place_Slint).cells) Try.sizeOf93 rfl rfl cellsOfStruct rfl (by intro v hv; exact ones_S_table_place_Slint _ v hv) H) rfl rfl ?_
      rintro _ h22 ⟨rfl, H⟩
      refine tr_nil ?_
      refine tr_thenN ?_
      refine tr_region ?_
      refine tr_p (y_move rfl) rfl rfl ?_
      obtain ⟨a23, e24, H⟩ := H
      refine tr_p (f_nn rfl e24) rfl rfl ?_
      refine tr_p (y_fa (off := 3) Try.runUnderlying89 fo_89_3 rfl) rfl rfl ?_
      obtain ⟨y25, k26, H⟩ := H
      refine tr_h (y_ld Try.isAgg3 rfl) k26 rfl rfl ?_
      refine tr_p (y_add rfl rfl) rfl rfl ?_
      obtain ⟨a27, e28, H⟩ := H
      refine tr_p (f_nn rfl e28) rfl rfl ?_
      refine tr_p (y_fa (off := 3) Try.runUnderlying89 fo_89_3 rfl) rfl rfl ?_
      refine tr_e (f_store (vs := [(.int .i64 (IntKind.wrap .i64 (y25 + 1)))]) Try.sizeOf3 rfl rfl rfl rfl (one1 rfl) H) rfl rfl ?_
      rintro _ h29 ⟨rfl, H⟩
      refine tr_nil ?_
      exact tr_end0 rfl ⟨rfl, H⟩
    · refine tr_seq ?_
      refine tr_draw mixed [0, 1, 3, 7, 15, 31, 0, 64, 192, 448, 960, 1984, 4095] (by kernel_rfl) ?_
      refine g_p 0 1 rfl (by kernel_rfl) (y_move rfl) rfl rfl ?_
      obtain ⟨a30, e31, H⟩ := H
      refine g_p 1 3 rfl (by kernel_rfl) (f_nn rfl e31) rfl rfl ?_
      refine g_p 2 7 rfl (by kernel_rfl) (y_fa (off := 3) Try.runUnderlying89 fo_89_3 rfl) rfl rfl ?_
      obtain ⟨y32, k33, H⟩ := H
      refine g_h 3 15 rfl (by kernel_rfl) (y_ld Try.isAgg3 rfl) k33 rfl rfl ?_
      refine g_p 4 31 rfl (by kernel_rfl) (y_add rfl rfl) rfl rfl ?_
      refine g_p 5 63 rfl (by kernel_rfl) (y_mul rfl rfl) rfl rfl ?_
      refine g_p 6 127 rfl (by kernel_rfl) (y_move rfl) rfl rfl ?_
      obtain ⟨a34, e35, H⟩ := H
      refine g_p 7 255 rfl (by kernel_rfl) (f_nn rfl e35) rfl rfl ?_
      refine g_p 8 511 rfl (by kernel_rfl) (y_fa (off := 0) Try.runUnderlying89 fo_89_0 rfl) rfl rfl ?_
      obtain ⟨y36, k37, H⟩ := H
      refine g_h 9 1023 rfl (by kernel_rfl) (y_ld Try.isAgg87 rfl) k37 rfl rfl ?_
      refine g_p 10 2047 rfl (by kernel_rfl) (y_len (ts := #[]) Try.runUnderlying87 (o := y36.ptr) (n := y36.len) (cap := y36.cap) rfl) rfl rfl ?_
      refine g_p 11 4095 rfl (by kernel_rfl) (y_mul rfl rfl) rfl rfl ?_
      refine g_p 12 8191 rfl (by kernel_rfl) (y_gtr rfl rfl) rfl rfl ?_
      refine g_d (by kernel_rfl) ?_
      refine tr_thenN ?_
      refine tr_cond rfl (fun g38 => ?_) (fun g38 => ?_)
      · replace H := H.1 g38
        refine tr_seq ?_
        refine tr_region ?_
        refine tr_p (y_move rfl) rfl rfl ?_
        refine tr_p (y_move rfl) rfl rfl ?_
        obtain ⟨a39, e40, H⟩ := H
        refine tr_p (f_nn rfl e40) rfl rfl ?_
        refine tr_p (y_fa (off := 1) Try.runUnderlying89 fo_89_1 rfl) rfl rfl ?_
        obtain ⟨y41, k42, H⟩ := H
        refine tr_h (y_ld Try.isAgg87 rfl) k42 rfl rfl ?_
        refine tr_p (y_len (ts := #[]) Try.runUnderlying87 (o := y41.ptr) (n := y41.len) (cap := y41.cap) rfl) rfl rfl ?_
        refine tr_e (e_call Try.call36 rfl (F.table_Table_Slint_Move_ok H)) rfl rfl ?_
        rintro _ h43 ⟨r44, rfl, H⟩
        refine tr_nil ?_
        refine tr_thenN ?_
        refine tr_draw mixed [0, 0, 0, 0, 8, 24, 56, 120, 248, 504, 0, 1024, 3072, 7168, 16377, 32761, 65529, 131067, 262139, 524283, 1048575, 2097151, 4194303] (by kernel_rfl) ?_
        refine g_p 0 1 rfl (by kernel_rfl) (y_move rfl) rfl rfl ?_
        refine g_p 1 3 rfl (by kernel_rfl) (y_move rfl) rfl rfl ?_
        refine g_p 2 7 rfl (by kernel_rfl) (y_move rfl) rfl rfl ?_
        refine g_p 3 15 rfl (by kernel_rfl) (y_move rfl) rfl rfl ?_
        obtain ⟨a45, e46, H⟩ := H
        refine g_p 4 31 rfl (by kernel_rfl) (f_nn rfl e46) rfl rfl ?_
        refine g_p 5 63 rfl (by kernel_rfl) (y_fa (off := 0) Try.runUnderlying89 fo_89_0 rfl) rfl rfl ?_
        obtain ⟨y47, k48, H⟩ := H
        refine g_h 6 127 rfl (by kernel_rfl) (y_ld Try.isAgg87 rfl) k48 rfl rfl ?_
        refine g_p 7 255 rfl (by kernel_rfl) (y_len (ts := #[]) Try.runUnderlying87 (o := y47.ptr) (n := y47.len) (cap := y47.cap) rfl) rfl rfl ?_
        refine g_p 8 511 rfl (by kernel_rfl) (y_mul rfl rfl) rfl rfl ?_
        refine g_p 10 1535 rfl (by kernel_rfl) (y_move rfl) rfl rfl ?_
        obtain ⟨a49, e50, H⟩ := H
        refine g_p 11 3583 rfl (by kernel_rfl) (f_nn rfl e50) rfl rfl ?_
        refine g_p 12 7679 rfl (by kernel_rfl) (y_fa (off := 0) Try.runUnderlying89 fo_89_0 rfl) rfl rfl ?_
        obtain ⟨y51, k52, H⟩ := H
        refine g_h 13 15871 rfl (by kernel_rfl) (y_ld Try.isAgg87 rfl) k52 rfl rfl ?_
        refine g_e 9 16383 [(13, fun h => cellH h (a49.add 0) = some y51.enc)] (by kernel_rfl) rfl (by kernel_rfl) (f_make rfl rfl H) rfl rfl ?_
        rintro _ h53 ⟨s54, rfl, H⟩
        obtain ⟨k55, H⟩ := H
        refine ⟨And.intro k55 trivial, ?_⟩
        obtain ⟨a56, e57, H⟩ := H
        refine g_p 14 32767 rfl (by kernel_rfl) (f_nn rfl e57) rfl rfl ?_
        refine g_p 15 65535 rfl (by kernel_rfl) (y_fa (off := 0) Try.runUnderlying89 fo_89_0 rfl) rfl rfl ?_
        refine g_e 16 131071 [] (by kernel_rfl) rfl (by kernel_rfl) (f_store (vs := [s54.enc]) Try.sizeOf87 rfl rfl rfl rfl (one1 rfl) H) rfl rfl ?_
        rintro _ h58 ⟨rfl, H⟩
        refine ⟨trivial, ?_⟩
        obtain ⟨a59, e60, H⟩ := H
        refine g_p 17 262143 rfl (by kernel_rfl) (f_nn rfl e60) rfl rfl ?_
        refine g_p 18 524287 rfl (by kernel_rfl) (y_fa (off := 1) Try.runUnderlying89 fo_89_1 rfl) rfl rfl ?_
        refine g_e 19 1048575 [] (by kernel_rfl) rfl (by kernel_rfl) (f_store (vs := [y51.enc]) Try.sizeOf87 rfl rfl rfl rfl (one1 rfl) H) rfl rfl ?_
        rintro _ h61 ⟨rfl, H⟩
        refine ⟨trivial, ?_⟩
        obtain ⟨a62, e63, H⟩ := H
        refine g_p 20 2097151 rfl (by kernel_rfl) (f_nn rfl e63) rfl rfl ?_
        refine g_p 21 4194303 rfl (by kernel_rfl) (y_fa (off := 2) Try.runUnderlying89 fo_89_2 rfl) rfl rfl ?_
        refine g_e 22 8388607 [] (by kernel_rfl) rfl (by kernel_rfl) (f_store (vs := [(.int .i64 0)]) Try.sizeOf3 rfl rfl rfl rfl (one1 rfl) H) rfl rfl ?_
        rintro _ h64 ⟨rfl, H⟩
        refine ⟨trivial, ?_⟩
        refine g_d (by kernel_rfl) ?_
        refine tr_thenN ?_
        exact tr_join [(0, (.pointer p0)), (1, (.string p1)), (2, p2.enc)] ⟨rfl, rfl, rfl, trivial⟩ ⟨_, _, _, rfl, H⟩
      · replace H := H.2 g38
        refine tr_skip ?_
        refine tr_thenN ?_
        exact tr_join [(0, (.pointer p0)), (1, (.string p1)), (2, p2.enc)] ⟨rfl, rfl, rfl, trivial⟩ ⟨_, _, _, rfl, H⟩

def F.table_Table_Slint_Drop.j2 (Q : Sl → Bool → H → Prop) (C1 : (Option Addr) → Sl → Int → Int → Int → H → Prop) (x0 : Option Addr) (x4 : Sl) (x8 : Int) (x10 : Int) (x11 : Int) (h : H) : Prop :=
  (x10 : Int) ≠ 0 ∧
  C1 x0 x4 x8 x10 (Int.tmod (IntKind.wrap .i64 (x11 + 1)) x10) h
def F.table_Table_Slint_Drop.l1 (Q : Sl → Bool → H → Prop) : Nat → (Option Addr) → Sl → Int → Int → Int → H → Prop
  | 0, _, _, _, _, _, _ => False
  | q1 + 1, x0, x4, x8, x10, x11, h =>
    nn x0 fun a61 =>
    ldL h (a61.add 0) fun y63 =>
    idxA y63 x11 3 fun a65 =>
    ldI .u8 h (a65.add 0) fun y67 =>
    (((y67 != 0)) = true →
    nn x0 fun a71 =>
    ldL h (a71.add 0) fun y73 =>
    nn x0 fun a75 =>
    ldL h (a75.add 0) fun y77 =>
    idxA y77 x11 3 fun a79 =>
    ldS h (a79.add 1) fun y81 =>
    F.table_home_Slint y73 y81 h fun r84 h83 =>
    (x10 : Int) ≠ 0 ∧
    (x10 : Int) ≠ 0 ∧
    ((decide ((Int.tmod (IntKind.wrap .i64 ((IntKind.wrap .i64 (x11 - r84)) + x10)) x10) ≥ (Int.tmod (IntKind.wrap .i64 ((IntKind.wrap .i64 (x11 - x8)) + x10)) x10))) = true →
    nn x0 fun a88 =>
    ldL h83 (a88.add 0) fun y90 =>
    nn x0 fun a92 =>
    ldL h83 (a92.add 0) fun y94 =>
    idxA y94 x11 3 fun a96 =>
    ld_S_table_place_Slint h83 a96 fun y98 =>
    idxA y90 x8 3 fun a100 =>
    stH h83 a100 y98.cells fun h102 =>
    F.table_Table_Slint_Drop.j2 Q (F.table_Table_Slint_Drop.l1 Q q1) x0 x4 x11 x10 x11 h102) ∧
    ((decide ((Int.tmod (IntKind.wrap .i64 ((IntKind.wrap .i64 (x11 - r84)) + x10)) x10) ≥ (Int.tmod (IntKind.wrap .i64 ((IntKind.wrap .i64 (x11 - x8)) + x10)) x10))) = false →
    F.table_Table_Slint_Drop.j2 Q (F.table_Table_Slint_Drop.l1 Q q1) x0 x4 x8 x10 x11 h83)) ∧
    (((y67 != 0)) = false →
    nn x0 fun a103 =>
    ldL h (a103.add 0) fun y105 =>
    idxA y105 x8 3 fun a107 =>
    stH h a107 ((⟨0, (⟨#[]⟩ : ByteArray), (⟨none, 0, 0⟩ : Sl)⟩ : S_table_place_Slint).cells) fun h109 =>
    Q x4 true h109)
/-- (*spate/table.Table[[]int]).Drop -/
def F.table_Table_Slint_Drop (p0 : Option Addr) (p1 : ByteArray) (h : H) (Q : Sl → Bool → H → Prop) : Prop :=
  F.table_Table_Slint_Move p0 4 h fun r2 h1 =>
  nn p0 fun a3 =>
  ldL h1 (a3.add 1) fun y5 =>
  F.table_find_Slint y5 p1 h1 fun r8 r9 h7 =>
  (r9 = true →
  nn p0 fun a11 =>
  ldL h7 (a11.add 1) fun y13 =>
  idxA y13 r8 3 fun a15 =>
  ldL h7 (a15.add 2) fun y17 =>
  nn p0 fun a19 =>
  ldL h7 (a19.add 1) fun y21 =>
  idxA y21 r8 3 fun a23 =>
  stH h7 a23 ((⟨2, (⟨#[]⟩ : ByteArray), (⟨none, 0, 0⟩ : Sl)⟩ : S_table_place_Slint).cells) fun h25 =>
  nn p0 fun a26 =>
  ldI .i64 h25 (a26.add 3) fun y28 =>
  nn p0 fun a30 =>
  stH h25 (a30.add 3) [(.int .i64 (IntKind.wrap .i64 (y28 - 1)))] fun h32 =>
  Q y17 true h32) ∧
  (r9 = false →
  nn p0 fun a33 =>
  ldL h7 (a33.add 0) fun y35 =>
  F.table_find_Slint y35 p1 h7 fun r38 r39 h37 =>
  ((!r39) = true →
  Q (⟨none, 0, 0⟩ : Sl) false h37) ∧
  ((!r39) = false →
  nn p0 fun a41 =>
  ldL h37 (a41.add 0) fun y43 =>
  idxA y43 r38 3 fun a45 =>
  ldL h37 (a45.add 2) fun y47 =>
  nn p0 fun a49 =>
  ldI .i64 h37 (a49.add 3) fun y51 =>
  nn p0 fun a53 =>
  stH h37 (a53.add 3) [(.int .i64 (IntKind.wrap .i64 (y51 - 1)))] fun h55 =>
  nn p0 fun a56 =>
  ldL h55 (a56.add 0) fun y58 =>
  ((y58.len : Int) : Int) ≠ 0 ∧
  ∃ m, F.table_Table_Slint_Drop.l1 Q m p0 y47 r38 (y58.len : Int) (Int.tmod (IntKind.wrap .i64 (r38 + 1)) (y58.len : Int)) h55))
theorem F.table_Table_Slint_Drop_ok {p0 : Option Addr} {p1 : ByteArray} {h : H} {Q : Sl → Bool → H → Prop} (H : F.table_Table_Slint_Drop p0 p1 h Q) : Fn PP 35 ([(.pointer p0), (.string p1)] : List Value).toArray h fun r h' => ∃ r0 r1, r = .tuple #[r0.enc, (.bool r1)] ∧ Q r0 r1 h' := by
  unfold F.table_Table_Slint_Drop at H
  refine fn_of Try.func35 Try.ntmps35 rfl rfl fun w0 => ?_
  refine tr_sub [(0, (.pointer p0)), (1, (.string p1))] ⟨rfl, rfl, trivial⟩ ?_
  refine tr_seq ?_
  refine tr_region ?_
  refine tr_p (y_assign rfl) rfl rfl ?_
  refine tr_p (y_assign rfl) rfl rfl ?_
  refine tr_nil ?_
  refine tr_thenN ?_
  refine tr_seq ?_
  refine tr_region ?_
  refine tr_p (y_move rfl) rfl rfl ?_
  refine tr_e (e_call Try.call36 rfl (F.table_Table_Slint_Move_ok H)) rfl rfl ?_
  rintro _ h1 ⟨r2, rfl, H⟩
  refine tr_nil ?_
  refine tr_thenN ?_
  refine tr_seq ?_
  refine tr_seq ?_
  refine tr_region ?_
  refine tr_p (y_move rfl) rfl rfl ?_
  obtain ⟨a3, e4, H⟩ := H
  refine tr_p (f_nn rfl e4) rfl rfl ?_
  refine tr_p (y_fa (off := 1) Try.runUnderlying89 fo_89_1 rfl) rfl rfl ?_
  obtain ⟨y5, k6, H⟩ := H
  refine tr_h (y_ld Try.isAgg87 rfl) k6 rfl rfl ?_
  refine tr_p (y_move rfl) rfl rfl ?_
  refine tr_e (e_call Try.call54 rfl (F.table_find_Slint_ok H)) rfl rfl ?_
  rintro _ h7 ⟨r8, r9, rfl, H⟩
  refine tr_p (y_move rfl) rfl rfl ?_
  refine tr_p (y_ext rfl rfl) rfl rfl ?_
  refine tr_p (y_ext rfl rfl) rfl rfl ?_
  refine tr_p (y_assign rfl) rfl rfl ?_
  refine tr_p (y_assign rfl) rfl rfl ?_
  refine tr_nil ?_
  refine tr_thenN ?_
  refine tr_seq ?_
  refine tr_region ?_
  refine tr_p (y_move rfl) rfl rfl ?_
  refine tr_nil ?_
  refine tr_thenN ?_
  refine tr_cond rfl (fun g10 => ?_) (fun g10 => ?_)
  · replace H := H.1 g10
    refine tr_seq ?_
    refine tr_region ?_
    refine tr_p (y_move rfl) rfl rfl ?_
    obtain ⟨a11, e12, H⟩ := H
    refine tr_p (f_nn rfl e12) rfl rfl ?_
    refine tr_p (y_fa (off := 1) Try.runUnderlying89 fo_89_1 rfl) rfl rfl ?_
    obtain ⟨y13, k14, H⟩ := H
    refine tr_h (y_ld Try.isAgg87 rfl) k14 rfl rfl ?_
    refine tr_p (y_move rfl) rfl rfl ?_
    obtain ⟨a15, e16, H⟩ := H
    refine tr_p (f_idx (s := y13) Try.runUnderlying87 Try.sizeOf93 rfl rfl e16) rfl rfl ?_
    refine tr_p (y_fa (off := 2) Try.runUnderlying93 fo_93_2 rfl) rfl rfl ?_
    obtain ⟨y17, k18, H⟩ := H
    refine tr_h (y_ld Try.isAgg38 rfl) k18 rfl rfl ?_
    refine tr_p (y_assign rfl) rfl rfl ?_
    refine tr_nil ?_
    refine tr_thenN ?_
    refine tr_seq ?_
    refine tr_region ?_
    refine tr_p (y_move rfl) rfl rfl ?_
    obtain ⟨a19, e20, H⟩ := H
    refine tr_p (f_nn rfl e20) rfl rfl ?_
    refine tr_p (y_fa (off := 1) Try.runUnderlying89 fo_89_1 rfl) rfl rfl ?_
    obtain ⟨y21, k22, H⟩ := H
    refine tr_h (y_ld Try.isAgg87 rfl) k22 rfl rfl ?_
    refine tr_p (y_move rfl) rfl rfl ?_
    refine tr_p (f_build rfl (bd_93_0 2)) rfl rfl ?_
    obtain ⟨a23, e24, H⟩ := H
    refine tr_p (f_idx (s := y21) Try.runUnderlying87 Try.sizeOf93 rfl rfl e24) rfl rfl ?_
    refine tr_e (f_store (vs := (⟨2, (⟨#[]⟩ : ByteArray), (⟨none, 0, 0⟩ : Sl)⟩ : S_table_place_Slint).cells) Try.sizeOf93 rfl rfl cellsOfStruct rfl (by intro v hv; exact ones_S_table_place_Slint _ v hv) H) rfl rfl ?_
    rintro _ h25 ⟨rfl, H⟩
    refine tr_nil ?_
    refine tr_thenN ?_
    refine tr_seq ?_
    refine tr_region ?_
    refine tr_p (y_move rfl) rfl rfl ?_
    obtain ⟨a26, e27, H⟩ := H
    refine tr_p (f_nn rfl e27) rfl rfl ?_
    refine tr_p (y_fa (off := 3) Try.runUnderlying89 fo_89_3 rfl) rfl rfl ?_
    obtain ⟨y28, k29, H⟩ := H
    refine tr_h (y_ld Try.isAgg3 rfl) k29 rfl rfl ?_
    refine tr_p (y_sub rfl rfl) rfl rfl ?_
    obtain ⟨a30, e31, H⟩ := H
    refine tr_p (f_nn rfl e31) rfl rfl ?_
    refine tr_p (y_fa (off := 3) Try.runUnderlying89 fo_89_3 rfl) rfl rfl ?_
    refine tr_e (f_store (vs := [(.int .i64 (IntKind.wrap .i64 (y28 - 1)))]) Try.sizeOf3 rfl rfl rfl rfl (one1 rfl) H) rfl rfl ?_
    rintro _ h32 ⟨rfl, H⟩
    refine tr_nil ?_
    refine tr_thenN ?_
    refine tr_seq ?_
    refine tr_region ?_
    refine tr_p (y_move rfl) rfl rfl ?_
    refine tr_p (y_assign rfl) rfl rfl ?_
    refine tr_p (y_assign rfl) rfl rfl ?_
    refine tr_nil ?_
    refine tr_thenN ?_
    refine tr_ret ?_
    refine tr_thenR ?_
    exact tr_ret2 rfl rfl rfl ⟨_, _, rfl, H⟩
  · replace H := H.2 g10
    refine tr_skip ?_
    refine tr_thenN ?_
    refine tr_seq ?_
    refine tr_region ?_
    refine tr_p (y_move rfl) rfl rfl ?_
    obtain ⟨a33, e34, H⟩ := H
    refine tr_p (f_nn rfl e34) rfl rfl ?_
    refine tr_p (y_fa (off := 0) Try.runUnderlying89 fo_89_0 rfl) rfl rfl ?_
    obtain ⟨y35, k36, H⟩ := H
    refine tr_h (y_ld Try.isAgg87 rfl) k36 rfl rfl ?_
    refine tr_p (y_move rfl) rfl rfl ?_
    refine tr_e (e_call Try.call54 rfl (F.table_find_Slint_ok H)) rfl rfl ?_
    rintro _ h37 ⟨r38, r39, rfl, H⟩
    refine tr_p (y_move rfl) rfl rfl ?_
    refine tr_p (y_ext rfl rfl) rfl rfl ?_
    refine tr_p (y_ext rfl rfl) rfl rfl ?_
    refine tr_p (y_assign rfl) rfl rfl ?_
    refine tr_p (y_assign rfl) rfl rfl ?_
    refine tr_nil ?_
    refine tr_thenN ?_
    refine tr_seq ?_
    refine tr_seq ?_
    refine tr_region ?_
    refine tr_p (y_move rfl) rfl rfl ?_
    refine tr_p (y_not rfl) rfl rfl ?_
    refine tr_nil ?_
    refine tr_thenN ?_
    refine tr_cond rfl (fun g40 => ?_) (fun g40 => ?_)
    · replace H := H.1 g40
      refine tr_seq ?_
      refine tr_region ?_
      refine tr_p (y_move rfl) rfl rfl ?_
      refine tr_p (y_assign rfl) rfl rfl ?_
      refine tr_p (y_assign rfl) rfl rfl ?_
      refine tr_nil ?_
      refine tr_thenN ?_
      refine tr_ret ?_
      refine tr_thenR ?_
      exact tr_ret2 rfl rfl rfl ⟨_, _, rfl, H⟩
    · replace H := H.2 g40
      refine tr_skip ?_
      refine tr_thenN ?_
      refine tr_seq ?_
      refine tr_region ?_
      refine tr_p (y_move rfl) rfl rfl ?_
      obtain ⟨a41, e42, H⟩ := H
      refine tr_p (f_nn rfl e42) rfl rfl ?_
      refine tr_p (y_fa (off := 0) Try.runUnderlying89 fo_89_0 rfl) rfl rfl ?_
      obtain ⟨y43, k44, H⟩ := H
      refine tr_h (y_ld Try.isAgg87 rfl) k44 rfl rfl ?_
      refine tr_p (y_move rfl) rfl rfl ?_
      obtain ⟨a45, e46, H⟩ := H
      refine tr_p (f_idx (s := y43) Try.runUnderlying87 Try.sizeOf93 rfl rfl e46) rfl rfl ?_
      refine tr_p (y_fa (off := 2) Try.runUnderlying93 fo_93_2 rfl) rfl rfl ?_
      obtain ⟨y47, k48, H⟩ := H
      refine tr_h (y_ld Try.isAgg38 rfl) k48 rfl rfl ?_
      refine tr_p (y_assign rfl) rfl rfl ?_
      refine tr_nil ?_
      refine tr_thenN ?_
      refine tr_seq ?_
      refine tr_region ?_
      refine tr_p (y_move rfl) rfl rfl ?_
      obtain ⟨a49, e50, H⟩ := H
      refine tr_p (f_nn rfl e50) rfl rfl ?_
      refine tr_p (y_fa (off := 3) Try.runUnderlying89 fo_89_3 rfl) rfl rfl ?_
      obtain ⟨y51, k52, H⟩ := H
      refine tr_h (y_ld Try.isAgg3 rfl) k52 rfl rfl ?_
      refine tr_p (y_sub rfl rfl) rfl rfl ?_
      obtain ⟨a53, e54, H⟩ := H
      refine tr_p (f_nn rfl e54) rfl rfl ?_
      refine tr_p (y_fa (off := 3) Try.runUnderlying89 fo_89_3 rfl) rfl rfl ?_
      refine tr_e (f_store (vs := [(.int .i64 (IntKind.wrap .i64 (y51 - 1)))]) Try.sizeOf3 rfl rfl rfl rfl (one1 rfl) H) rfl rfl ?_
      rintro _ h55 ⟨rfl, H⟩
      refine tr_nil ?_
      refine tr_thenN ?_
      refine tr_seq ?_
      refine tr_region ?_
      refine tr_p (y_move rfl) rfl rfl ?_
      obtain ⟨a56, e57, H⟩ := H
      refine tr_p (f_nn rfl e57) rfl rfl ?_
      refine tr_p (y_fa (off := 0) Try.runUnderlying89 fo_89_0 rfl) rfl rfl ?_
      obtain ⟨y58, k59, H⟩ := H
      refine tr_h (y_ld Try.isAgg87 rfl) k59 rfl rfl ?_
      refine tr_p (y_len (ts := #[]) Try.runUnderlying87 (o := y58.ptr) (n := y58.len) (cap := y58.cap) rfl) rfl rfl ?_
      refine tr_p (y_assign rfl) rfl rfl ?_
      refine tr_nil ?_
      refine tr_thenN ?_
      refine tr_seq ?_
      refine tr_seq ?_
      refine tr_region ?_
      refine tr_p (y_move rfl) rfl rfl ?_
      refine tr_p (y_add rfl rfl) rfl rfl ?_
      refine tr_p (y_move rfl) rfl rfl ?_
      obtain ⟨e60, H⟩ := H
      refine tr_p (y_rem rfl rfl e60) rfl rfl ?_
      refine tr_p (y_assign rfl) rfl rfl ?_
      refine tr_nil ?_
      refine tr_thenN ?_
      refine tr_block ?_
      obtain ⟨m110, H⟩ := H
      refine tr_sub [(0, (.pointer p0)), (4, y47.enc), (8, (.int .i64 r38)), (10, (.int .i64 (y58.len : Int))), (11, (.int .i64 (Int.tmod (IntKind.wrap .i64 (r38 + 1)) (y58.len : Int))))] ⟨rfl, rfl, rfl, rfl, rfl, trivial⟩ ?_
      refine tr_loop_j (fun m L' h => ∃ (x0 : Option Addr) (x4 : Sl) (x8 : Int) (x10 : Int) (x11 : Int), L' = [(0, (.pointer x0)), (4, x4.enc), (8, (.int .i64 x8)), (10, (.int .i64 x10)), (11, (.int .i64 x11))] ∧ F.table_Table_Slint_Drop.l1 Q m x0 x4 x8 x10 x11 h) ?_ ?_ m110 ⟨_, _, _, _, _, rfl, H⟩
      · rintro L' h ⟨_, _, _, _, _, _, H⟩; exact H
      · rintro q1 L' h ⟨x0, x4, x8, x10, x11, rfl, H⟩
        unfold F.table_Table_Slint_Drop.l1 at H
        refine tr_seq ?_
        refine tr_seq ?_
        refine tr_region ?_
        refine tr_p (y_move rfl) rfl rfl ?_
        obtain ⟨a61, e62, H⟩ := H
        refine tr_p (f_nn rfl e62) rfl rfl ?_
        refine tr_p (y_fa (off := 0) Try.runUnderlying89 fo_89_0 rfl) rfl rfl ?_
        obtain ⟨y63, k64, H⟩ := H
        refine tr_h (y_ld Try.isAgg87 rfl) k64 rfl rfl ?_
        refine tr_p (y_move rfl) rfl rfl ?_
        obtain ⟨a65, e66, H⟩ := H
        refine tr_p (f_idx (s := y63) Try.runUnderlying87 Try.sizeOf93 rfl rfl e66) rfl rfl ?_
        refine tr_p (y_fa (off := 0) Try.runUnderlying93 fo_93_0 rfl) rfl rfl ?_
        obtain ⟨y67, k68, H⟩ := H
        refine tr_h (y_ld Try.isAgg5 rfl) k68 rfl rfl ?_
        refine tr_p (y_neq rfl rfl) rfl rfl ?_
        refine tr_nil ?_
        refine tr_thenN ?_
        refine tr_cond rfl (fun g69 => ?_) (fun g69 => ?_)
        · replace H := H.1 g69
          refine tr_skip ?_
          refine tr_thenN ?_
          refine tr_seq_j (fun L' h => ∃ (x0 : Option Addr) (x4 : Sl) (x8 : Int) (x10 : Int) (x11 : Int), L' = [(0, (.pointer x0)), (4, x4.enc), (8, (.int .i64 x8)), (10, (.int .i64 x10)), (11, (.int .i64 x11))] ∧ F.table_Table_Slint_Drop.j2 Q (F.table_Table_Slint_Drop.l1 Q q1) x0 x4 x8 x10 x11 h) ?_ ?_
          · rintro L' h ⟨x0, x4, x8, x10, x11, rfl, H⟩
            unfold F.table_Table_Slint_Drop.j2 at H
            refine tr_region ?_
            refine tr_p (y_move rfl) rfl rfl ?_
            refine tr_p (y_add rfl rfl) rfl rfl ?_
            refine tr_p (y_move rfl) rfl rfl ?_
            obtain ⟨e70, H⟩ := H
            refine tr_p (y_rem rfl rfl e70) rfl rfl ?_
            refine tr_p (y_assign rfl) rfl rfl ?_
            refine tr_nil ?_
            refine tr_thenN ?_
            exact tr_join [(0, (.pointer x0)), (4, x4.enc), (8, (.int .i64 x8)), (10, (.int .i64 x10)), (11, (.int .i64 (Int.tmod (IntKind.wrap .i64 (x11 + 1)) x10)))] ⟨rfl, rfl, rfl, rfl, rfl, trivial⟩ ⟨_, _, _, _, _, rfl, H⟩
          · refine tr_block ?_
            refine tr_seq ?_
            refine tr_draw mixed [0, 1, 3, 7, 0, 16, 48, 112, 0, 496, 1008, 2032, 4095, 8191] (by kernel_rfl) ?_
            refine g_p 0 1 rfl (by kernel_rfl) (y_move rfl) rfl rfl ?_
            obtain ⟨a71, e72, H⟩ := H
            refine g_p 1 3 rfl (by kernel_rfl) (f_nn rfl e72) rfl rfl ?_
            refine g_p 2 7 rfl (by kernel_rfl) (y_fa (off := 0) Try.runUnderlying89 fo_89_0 rfl) rfl rfl ?_
            obtain ⟨y73, k74, H⟩ := H
            refine g_h 3 15 rfl (by kernel_rfl) (y_ld Try.isAgg87 rfl) k74 rfl rfl ?_
            refine g_p 4 31 rfl (by kernel_rfl) (y_move rfl) rfl rfl ?_
            obtain ⟨a75, e76, H⟩ := H
            refine g_p 5 63 rfl (by kernel_rfl) (f_nn rfl e76) rfl rfl ?_
            refine g_p 6 127 rfl (by kernel_rfl) (y_fa (off := 0) Try.runUnderlying89 fo_89_0 rfl) rfl rfl ?_
            obtain ⟨y77, k78, H⟩ := H
            refine g_h 7 255 rfl (by kernel_rfl) (y_ld Try.isAgg87 rfl) k78 rfl rfl ?_
            refine g_p 8 511 rfl (by kernel_rfl) (y_move rfl) rfl rfl ?_
            obtain ⟨a79, e80, H⟩ := H
            refine g_p 9 1023 rfl (by kernel_rfl) (f_idx (s := y77) Try.runUnderlying87 Try.sizeOf93 rfl rfl e80) rfl rfl ?_
            refine g_p 10 2047 rfl (by kernel_rfl) (y_fa (off := 1) Try.runUnderlying93 fo_93_1 rfl) rfl rfl ?_
            obtain ⟨y81, k82, H⟩ := H
            refine g_h 11 4095 rfl (by kernel_rfl) (y_ld Try.isAgg9 rfl) k82 rfl rfl ?_
            refine g_e 12 8191 [] (by kernel_rfl) rfl (by kernel_rfl) (e_call Try.call55 rfl (F.table_home_Slint_ok H)) rfl rfl ?_
            rintro _ h83 ⟨r84, rfl, H⟩
            refine ⟨trivial, ?_⟩
            refine g_p 13 16383 rfl (by kernel_rfl) (y_assign rfl) rfl rfl ?_
            refine g_d (by kernel_rfl) ?_
            refine tr_thenN ?_
            refine tr_seq ?_
            refine tr_draw mixed [0, 0, 3, 0, 15, 0, 63, 0, 0, 384, 0, 1920, 0, 8064, 16383] (by kernel_rfl) ?_
            refine g_p 0 1 rfl (by kernel_rfl) (y_move rfl) rfl rfl ?_
            refine g_p 1 3 rfl (by kernel_rfl) (y_move rfl) rfl rfl ?_
            refine g_p 2 7 rfl (by kernel_rfl) (y_sub rfl rfl) rfl rfl ?_
            refine g_p 3 15 rfl (by kernel_rfl) (y_move rfl) rfl rfl ?_
            refine g_p 4 31 rfl (by kernel_rfl) (y_add rfl rfl) rfl rfl ?_
            refine g_p 5 63 rfl (by kernel_rfl) (y_move rfl) rfl rfl ?_
            obtain ⟨e85, H⟩ := H
            refine g_p 6 127 rfl (by kernel_rfl) (y_rem rfl rfl e85) rfl rfl ?_
            refine g_p 7 255 rfl (by kernel_rfl) (y_move rfl) rfl rfl ?_
            refine g_p 8 511 rfl (by kernel_rfl) (y_move rfl) rfl rfl ?_
            refine g_p 9 1023 rfl (by kernel_rfl) (y_sub rfl rfl) rfl rfl ?_
            refine g_p 10 2047 rfl (by kernel_rfl) (y_move rfl) rfl rfl ?_
            refine g_p 11 4095 rfl (by kernel_rfl) (y_add rfl rfl) rfl rfl ?_
            refine g_p 12 8191 rfl (by kernel_rfl) (y_move rfl) rfl rfl ?_
            obtain ⟨e86, H⟩ := H
            refine g_p 13 16383 rfl (by kernel_rfl) (y_rem rfl rfl e86) rfl rfl ?_
            refine g_p 14 32767 rfl (by kernel_rfl) (y_geq rfl rfl) rfl rfl ?_
            refine g_d (by kernel_rfl) ?_
            refine tr_thenN ?_
            refine tr_cond rfl (fun g87 => ?_) (fun g87 => ?_)
            · replace H := H.1 g87
              refine tr_draw mixed [0, 1, 3, 7, 0, 0, 32, 96, 224, 0, 992, 2016, 0, 4095, 12287, 32767] (by kernel_rfl) ?_
              refine g_p 0 1 rfl (by kernel_rfl) (y_move rfl) rfl rfl ?_
              obtain ⟨a88, e89, H⟩ := H
              refine g_p 1 3 rfl (by kernel_rfl) (f_nn rfl e89) rfl rfl ?_
              refine g_p 2 7 rfl (by kernel_rfl) (y_fa (off := 0) Try.runUnderlying89 fo_89_0 rfl) rfl rfl ?_
              obtain ⟨y90, k91, H⟩ := H
              refine g_h 3 15 rfl (by kernel_rfl) (y_ld Try.isAgg87 rfl) k91 rfl rfl ?_
              refine g_p 4 31 rfl (by kernel_rfl) (y_move rfl) rfl rfl ?_
              refine g_p 5 63 rfl (by kernel_rfl) (y_move rfl) rfl rfl ?_
              obtain ⟨a92, e93, H⟩ := H
              refine g_p 6 127 rfl (by kernel_rfl) (f_nn rfl e93) rfl rfl ?_
              refine g_p 7 255 rfl (by kernel_rfl) (y_fa (off := 0) Try.runUnderlying89 fo_89_0 rfl) rfl rfl ?_
              obtain ⟨y94, k95, H⟩ := H
              refine g_h 8 511 rfl (by kernel_rfl) (y_ld Try.isAgg87 rfl) k95 rfl rfl ?_
              refine g_p 9 1023 rfl (by kernel_rfl) (y_move rfl) rfl rfl ?_
              obtain ⟨a96, e97, H⟩ := H
              refine g_p 10 2047 rfl (by kernel_rfl) (f_idx (s := y94) Try.runUnderlying87 Try.sizeOf93 rfl rfl e97) rfl rfl ?_
              obtain ⟨y98, k99, H⟩ := H
              refine g_h 11 4095 rfl (by kernel_rfl) (y_ldS Try.isAgg93 Try.sizeOf93 rfl rfl) k99 rfl rfl ?_
              refine g_p 12 8191 rfl (by kernel_rfl) (y_move rfl) rfl rfl ?_
              obtain ⟨a100, e101, H⟩ := H
              refine g_p 13 16383 rfl (by kernel_rfl) (f_idx (s := y90) Try.runUnderlying87 Try.sizeOf93 rfl rfl e101) rfl rfl ?_
              refine g_e 14 32767 [] (by kernel_rfl) rfl (by kernel_rfl) (f_store (vs := y98.cells) Try.sizeOf93 rfl rfl cellsOfStruct rfl (by intro v hv; exact ones_S_table_place_Slint _ v hv) H) rfl rfl ?_
              rintro _ h102 ⟨rfl, H⟩
              refine ⟨trivial, ?_⟩
              refine g_e 15 65535 [] (by kernel_rfl) rfl (by kernel_rfl) (yp_ev (y_assign rfl)) rfl rfl ?_
              rintro _ _ ⟨rfl, rfl⟩
              refine ⟨trivial, ?_⟩
              refine g_d (by kernel_rfl) ?_
              refine tr_blockN ?_
              refine tr_thenN ?_
              exact tr_join [(0, (.pointer x0)), (4, x4.enc), (8, (.int .i64 x11)), (10, (.int .i64 x10)), (11, (.int .i64 x11))] ⟨rfl, rfl, rfl, rfl, rfl, trivial⟩ ⟨_, _, _, _, _, rfl, H⟩
            · replace H := H.2 g87
              refine tr_skip ?_
              refine tr_blockN ?_
              refine tr_thenN ?_
              exact tr_join [(0, (.pointer x0)), (4, x4.enc), (8, (.int .i64 x8)), (10, (.int .i64 x10)), (11, (.int .i64 x11))] ⟨rfl, rfl, rfl, rfl, rfl, trivial⟩ ⟨_, _, _, _, _, rfl, H⟩
        · replace H := H.2 g69
          refine tr_exit ?_
          refine tr_thenE ?_
          refine tr_thenE ?_
          refine tr_hit ?_
          refine tr_thenN ?_
          refine tr_seq ?_
          refine tr_region ?_
          refine tr_p (y_move rfl) rfl rfl ?_
          obtain ⟨a103, e104, H⟩ := H
          refine tr_p (f_nn rfl e104) rfl rfl ?_
          refine tr_p (y_fa (off := 0) Try.runUnderlying89 fo_89_0 rfl) rfl rfl ?_
          obtain ⟨y105, k106, H⟩ := H
          refine tr_h (y_ld Try.isAgg87 rfl) k106 rfl rfl ?_
          refine tr_p (y_move rfl) rfl rfl ?_
          refine tr_p (f_build rfl (bd_93_ )) rfl rfl ?_
          obtain ⟨a107, e108, H⟩ := H
          refine tr_p (f_idx (s := y105) Try.runUnderlying87 Try.sizeOf93 rfl rfl e108) rfl rfl ?_
          refine tr_e (f_store (vs := (⟨0, (⟨#[]⟩ : ByteArray), (⟨none, 0, 0⟩ : Sl)⟩ : S_table_place_Slint).cells) Try.sizeOf93 rfl rfl cellsOfStruct rfl (by intro v hv; exact ones_S_table_place_Slint _ v hv) H) rfl rfl ?_
          rintro _ h109 ⟨rfl, H⟩
          refine tr_nil ?_
          refine tr_thenN ?_
          refine tr_seq ?_
          refine tr_region ?_
          refine tr_p (y_move rfl) rfl rfl ?_
          refine tr_p (y_assign rfl) rfl rfl ?_
          refine tr_p (y_assign rfl) rfl rfl ?_
          refine tr_nil ?_
          refine tr_thenN ?_
          refine tr_ret ?_
          exact tr_ret2 rfl rfl rfl ⟨_, _, rfl, H⟩

/-- (*spate/table.Table[[]int]).Get -/
def F.table_Table_Slint_Get (p0 : Option Addr) (p1 : ByteArray) (h : H) (Q : Sl → Bool → H → Prop) : Prop :=
  F.table_Table_Slint_where p0 p1 h fun r2 h1 =>
  ((!r2.isNone) = true →
  nn r2 fun a4 =>
  ldL h1 (a4.add 2) fun y6 =>
  Q y6 true h1) ∧
  ((!r2.isNone) = false →
  Q (⟨none, 0, 0⟩ : Sl) false h1)
theorem F.table_Table_Slint_Get_ok {p0 : Option Addr} {p1 : ByteArray} {h : H} {Q : Sl → Bool → H → Prop} (H : F.table_Table_Slint_Get p0 p1 h Q) : Fn PP 37 ([(.pointer p0), (.string p1)] : List Value).toArray h fun r h' => ∃ r0 r1, r = .tuple #[r0.enc, (.bool r1)] ∧ Q r0 r1 h' := by
  unfold F.table_Table_Slint_Get at H
  refine fn_of Try.func37 Try.ntmps37 rfl rfl fun w0 => ?_
  refine tr_sub [(0, (.pointer p0)), (1, (.string p1))] ⟨rfl, rfl, trivial⟩ ?_
  refine tr_seq ?_
  refine tr_region ?_
  refine tr_p (y_assign rfl) rfl rfl ?_
  refine tr_p (y_assign rfl) rfl rfl ?_
  refine tr_nil ?_
  refine tr_thenN ?_
  refine tr_seq ?_
  refine tr_seq ?_
  refine tr_region ?_
  refine tr_p (y_move rfl) rfl rfl ?_
  refine tr_p (y_move rfl) rfl rfl ?_
  refine tr_e (e_call Try.call53 rfl (F.table_Table_Slint_where_ok H)) rfl rfl ?_
  rintro _ h1 ⟨r2, rfl, H⟩
  refine tr_p (y_assign rfl) rfl rfl ?_
  refine tr_nil ?_
  refine tr_thenN ?_
  refine tr_seq ?_
  refine tr_region ?_
  refine tr_p (y_move rfl) rfl rfl ?_
  refine tr_p (y_pnil_neq Try.runUnderlying90 rfl rfl) rfl rfl ?_
  refine tr_nil ?_
  refine tr_thenN ?_
  refine tr_cond rfl (fun g3 => ?_) (fun g3 => ?_)
  · replace H := H.1 g3
    refine tr_seq ?_
    refine tr_region ?_
    refine tr_p (y_move rfl) rfl rfl ?_
    obtain ⟨a4, e5, H⟩ := H
    refine tr_p (f_nn rfl e5) rfl rfl ?_
    refine tr_p (y_fa (off := 2) Try.runUnderlying93 fo_93_2 rfl) rfl rfl ?_
    obtain ⟨y6, k7, H⟩ := H
    refine tr_h (y_ld Try.isAgg38 rfl) k7 rfl rfl ?_
    refine tr_p (y_assign rfl) rfl rfl ?_
    refine tr_p (y_assign rfl) rfl rfl ?_
    refine tr_nil ?_
    refine tr_thenN ?_
    refine tr_ret ?_
    refine tr_thenR ?_
    exact tr_ret2 rfl rfl rfl ⟨_, _, rfl, H⟩
  · replace H := H.2 g3
    refine tr_skip ?_
    refine tr_thenN ?_
    refine tr_seq ?_
    refine tr_region ?_
    refine tr_p (y_move rfl) rfl rfl ?_
    refine tr_p (y_assign rfl) rfl rfl ?_
    refine tr_p (y_assign rfl) rfl rfl ?_
    refine tr_nil ?_
    refine tr_thenN ?_
    refine tr_ret ?_
    exact tr_ret2 rfl rfl rfl ⟨_, _, rfl, H⟩

def F.maps_Keys_map_string_Slint_string_Slint_1.l1 (Q : H → Prop) : Nat → Value → Addr → H → Prop
  | 0, _, _, _ => False
  | q1 + 1, x0, x5, h =>
    RunS PP (Instr.next (.pointer (some x5)) false 0) h fun u h5 => ∃ (b6 : Bool) (t7 : Array Value), u = (.tuple (#[.bool b6] ++ t7)) ∧
    (b6 = true →
    RunS PP (Instr.entry (.pointer (some x5))) h5 fun u h9 => ∃ (r10 : ByteArray) (r11 : Sl), u = (.tuple #[(.string r10), r11.enc]) ∧
    CV PP x0 [(.string r10)] h9 fun u h12 => ∃ (r13 : Bool), u = (.bool r13) ∧
    ((!r13) = true →
    Q h12) ∧
    ((!r13) = false →
    (F.maps_Keys_map_string_Slint_string_Slint_1.l1 Q q1) x0 x5 h12)) ∧
    (b6 = false →
    Q h5)
/-- maps.Keys[map[string][]int,string,[]int]$1 -/
def F.maps_Keys_map_string_Slint_string_Slint_1 (p0 : Value) (p1 : Addr) (h : H) (Q : H → Prop) : Prop :=
  ldV h p1 fun y1 =>
  RunS PP (Instr.range 109 y1) h fun u h3 => ∃ a4 : Addr, u = (.pointer (some a4)) ∧
  ∃ m, F.maps_Keys_map_string_Slint_string_Slint_1.l1 Q m p0 a4 h3
theorem F.maps_Keys_map_string_Slint_string_Slint_1_ok {p0 : Value} {p1 : Addr} {h : H} {Q : H → Prop} (H : F.maps_Keys_map_string_Slint_string_Slint_1 p0 p1 h Q) : Fn PP 79 ([p0, (.pointer (some p1))] : List Value).toArray h fun r h' => r = .tuple #[] ∧ Q  h' := by
  unfold F.maps_Keys_map_string_Slint_string_Slint_1 at H
  refine fn_of Try.func79 Try.ntmps79 rfl rfl fun w0 => ?_
  refine tr_sub [(0, p0), (1, (.pointer (some p1)))] ⟨rfl, rfl, trivial⟩ ?_
  refine tr_seq ?_
  refine tr_region ?_
  obtain ⟨y1, k2, H⟩ := H
  refine tr_h (y_ld Try.isAgg109 rfl) k2 rfl rfl ?_
  refine tr_e (f_rg rfl H) rfl rfl ?_
  rintro _ h3 ⟨a4, rfl, H⟩
  refine tr_nil ?_
  refine tr_thenN ?_
  refine tr_block ?_
  obtain ⟨m15, H⟩ := H
  refine tr_sub [(0, p0), (5, (.pointer (some a4)))] ⟨rfl, rfl, trivial⟩ ?_
  refine tr_loop_j (fun m L' h => ∃ (x0 : Value) (x5 : Addr), L' = [(0, x0), (5, (.pointer (some x5)))] ∧ F.maps_Keys_map_string_Slint_string_Slint_1.l1 Q m x0 x5 h) ?_ ?_ m15 ⟨_, _, rfl, H⟩
  · rintro L' h ⟨_, _, _, H⟩; exact H
  · rintro q1 L' h ⟨x0, x5, rfl, H⟩
    unfold F.maps_Keys_map_string_Slint_string_Slint_1.l1 at H
    refine tr_seq ?_
    refine tr_region ?_
    refine tr_e (f_nx rfl H) rfl rfl ?_
    rintro _ h5 ⟨b6, t7, rfl, H⟩
    refine tr_p (y_ext0 (t := t7) rfl) rfl rfl ?_
    refine tr_nil ?_
    refine tr_thenN ?_
    refine tr_seq ?_
    refine tr_cond rfl (fun g8 => ?_) (fun g8 => ?_)
    · replace H := H.1 g8
      refine tr_skip ?_
      refine tr_thenN ?_
      refine tr_block ?_
      refine tr_seq ?_
      refine tr_region ?_
      refine tr_e (f_en rfl H) rfl rfl ?_
      rintro _ h9 ⟨r10, r11, rfl, H⟩
      refine tr_p (y_ext rfl rfl) rfl rfl ?_
      refine tr_p (y_assign rfl) rfl rfl ?_
      refine tr_nil ?_
      refine tr_thenN ?_
      refine tr_seq ?_
      refine tr_region ?_
      refine tr_p (y_move rfl) rfl rfl ?_
      refine tr_p (y_move rfl) rfl rfl ?_
      refine tr_e (e_callD rfl rfl H) rfl rfl ?_
      rintro _ h12 ⟨r13, rfl, H⟩
      refine tr_p (y_not rfl) rfl rfl ?_
      refine tr_nil ?_
      refine tr_thenN ?_
      refine tr_cond rfl (fun g14 => ?_) (fun g14 => ?_)
      · replace H := H.1 g14
        refine tr_ret ?_
        refine tr_blockR ?_
        refine tr_thenR ?_
        refine tr_blockR ?_
        exact tr_ret0 rfl ⟨rfl, H⟩
      · replace H := H.2 g14
        refine tr_skip ?_
        refine tr_blockN ?_
        refine tr_thenN ?_
        exact tr_join [(0, x0), (5, (.pointer (some x5)))] ⟨rfl, rfl, trivial⟩ ⟨_, _, rfl, H⟩
    · replace H := H.2 g8
      refine tr_exit ?_
      refine tr_thenE ?_
      refine tr_thenE ?_
      refine tr_hit ?_
      exact tr_end0 rfl ⟨rfl, H⟩

/-- maps.Keys[map[string][]int,string,[]int] -/
def F.maps_Keys_map_string_Slint_string_Slint (p0 : Value) (h : H) (Q : Value → H → Prop) : Prop :=
  p0.cells = #[p0] ∧
  new h #[p0] ty_109 fun a2 h1 =>
  Q (.func (.func 79) #[] #[(.pointer (some a2))]) h1
theorem F.maps_Keys_map_string_Slint_string_Slint_ok {p0 : Value} {h : H} {Q : Value → H → Prop} (H : F.maps_Keys_map_string_Slint_string_Slint p0 h Q) : Fn PP 70 ([p0] : List Value).toArray h fun r h' => ∃ r0, r = r0 ∧ Q r0 h' := by
  unfold F.maps_Keys_map_string_Slint_string_Slint at H
  refine fn_of Try.func70 Try.ntmps70 rfl rfl fun w0 => ?_
  refine tr_sub [(0, p0)] ⟨rfl, trivial⟩ ?_
  refine tr_seq ?_
  refine tr_region ?_
  refine tr_e (f_box (cs := #[p0]) rfl H.1 H.2) rfl rfl ?_
  rintro _ h1 ⟨a2, rfl, H⟩
  refine tr_p (y_assign rfl) rfl rfl ?_
  refine tr_nil ?_
  refine tr_thenN ?_
  refine tr_seq ?_
  refine tr_region ?_
  refine tr_p (y_fn rfl rfl) rfl rfl ?_
  refine tr_p (y_assign rfl) rfl rfl ?_
  refine tr_nil ?_
  refine tr_thenN ?_
  refine tr_ret ?_
  exact tr_ret1 rfl rfl ⟨_, rfl, H⟩

def F.table_Table_Slint_All_1.l1 (Q : H → Prop) : Nat → Value → Addr → Sl → Int → Int → H → Prop
  | 0, _, _, _, _, _, _ => False
  | q1 + 1, x0, x2, x6, x7, x8, h =>
    ((decide (x8 < x7)) = true →
    idxA x6 x8 1 fun a4 =>
    ldS h a4 fun y6 =>
    ldV h x2 fun y8 =>
    RunS PP (Instr.lookup 109 y8 (.string y6) false) h fun u h10 => ∃ r11 : Sl, u = r11.enc ∧
    CV PP x0 [(.string y6), r11.enc] h10 fun u h12 => ∃ (r13 : Bool), u = (.bool r13) ∧
    ((!r13) = true →
    Q h12) ∧
    ((!r13) = false →
    (F.table_Table_Slint_All_1.l1 Q q1) x0 x2 x6 x7 (IntKind.wrap .i64 (x8 + 1)) h12)) ∧
    ((decide (x8 < x7)) = false →
    Q h)
/-- (*spate/table.Table[[]int]).All$1 -/
def F.table_Table_Slint_All_1 (p0 : Value) (p1 : Addr) (p2 : Addr) (h : H) (Q : H → Prop) : Prop :=
  ldL h p1 fun y1 =>
  ∃ m, F.table_Table_Slint_All_1.l1 Q m p0 p2 y1 (y1.len : Int) 0 h
theorem F.table_Table_Slint_All_1_ok {p0 : Value} {p1 : Addr} {p2 : Addr} {h : H} {Q : H → Prop} (H : F.table_Table_Slint_All_1 p0 p1 p2 h Q) : Fn PP 71 ([p0, (.pointer (some p1)), (.pointer (some p2))] : List Value).toArray h fun r h' => r = .tuple #[] ∧ Q  h' := by
  unfold F.table_Table_Slint_All_1 at H
  refine fn_of Try.func71 Try.ntmps71 rfl rfl fun w0 => ?_
  refine tr_sub [(0, p0), (1, (.pointer (some p1))), (2, (.pointer (some p2)))] ⟨rfl, rfl, rfl, trivial⟩ ?_
  refine tr_seq ?_
  refine tr_region ?_
  obtain ⟨y1, k2, H⟩ := H
  refine tr_h (y_ld Try.isAgg37 rfl) k2 rfl rfl ?_
  refine tr_p (y_len (ts := #[]) Try.runUnderlying37 (o := y1.ptr) (n := y1.len) (cap := y1.cap) rfl) rfl rfl ?_
  refine tr_p (y_move rfl) rfl rfl ?_
  refine tr_nil ?_
  refine tr_thenN ?_
  refine tr_block ?_
  obtain ⟨m15, H⟩ := H
  refine tr_sub [(0, p0), (2, (.pointer (some p2))), (6, y1.enc), (7, (.int .i64 (y1.len : Int))), (8, (.int .i64 0))] ⟨rfl, rfl, rfl, rfl, rfl, trivial⟩ ?_
  refine tr_loop_j (fun m L' h => ∃ (x0 : Value) (x2 : Addr) (x6 : Sl) (x7 : Int) (x8 : Int), L' = [(0, x0), (2, (.pointer (some x2))), (6, x6.enc), (7, (.int .i64 x7)), (8, (.int .i64 x8))] ∧ F.table_Table_Slint_All_1.l1 Q m x0 x2 x6 x7 x8 h) ?_ ?_ m15 ⟨_, _, _, _, _, rfl, H⟩
  · rintro L' h ⟨_, _, _, _, _, _, H⟩; exact H
  · rintro q1 L' h ⟨x0, x2, x6, x7, x8, rfl, H⟩
    unfold F.table_Table_Slint_All_1.l1 at H
    refine tr_seq ?_
    refine tr_region ?_
    refine tr_p (y_lss rfl rfl) rfl rfl ?_
    refine tr_nil ?_
    refine tr_thenN ?_
    refine tr_seq ?_
    refine tr_cond rfl (fun g3 => ?_) (fun g3 => ?_)
    · replace H := H.1 g3
      refine tr_skip ?_
      refine tr_thenN ?_
      refine tr_seq ?_
      refine tr_block ?_
      refine tr_seq ?_
      refine tr_region ?_
      obtain ⟨a4, e5, H⟩ := H
      refine tr_p (f_idx (s := x6) Try.runUnderlying37 Try.sizeOf9 rfl rfl e5) rfl rfl ?_
      obtain ⟨y6, k7, H⟩ := H
      refine tr_h (y_ld Try.isAgg9 rfl) k7 rfl rfl ?_
      refine tr_p (y_assign rfl) rfl rfl ?_
      refine tr_nil ?_
      refine tr_thenN ?_
      refine tr_seq ?_
      refine tr_region ?_
      refine tr_p (y_move rfl) rfl rfl ?_
      refine tr_p (y_move rfl) rfl rfl ?_
      obtain ⟨y8, k9, H⟩ := H
      refine tr_h (y_ld Try.isAgg109 rfl) k9 rfl rfl ?_
      refine tr_p (y_move rfl) rfl rfl ?_
      refine tr_e (f_lk rfl rfl H) rfl rfl ?_
      rintro _ h10 ⟨r11, rfl, H⟩
      refine tr_e (e_callD rfl rfl H) rfl rfl ?_
      rintro _ h12 ⟨r13, rfl, H⟩
      refine tr_p (y_not rfl) rfl rfl ?_
      refine tr_nil ?_
      refine tr_thenN ?_
      refine tr_cond rfl (fun g14 => ?_) (fun g14 => ?_)
      · replace H := H.1 g14
        refine tr_ret ?_
        refine tr_blockR ?_
        refine tr_thenR ?_
        refine tr_thenR ?_
        refine tr_blockR ?_
        exact tr_ret0 rfl ⟨rfl, H⟩
      · replace H := H.2 g14
        refine tr_skip ?_
        refine tr_blockN ?_
        refine tr_thenN ?_
        refine tr_region ?_
        refine tr_p (y_add rfl rfl) rfl rfl ?_
        refine tr_p (y_move rfl) rfl rfl ?_
        refine tr_nil ?_
        refine tr_thenN ?_
        exact tr_join [(0, x0), (2, (.pointer (some x2))), (6, x6.enc), (7, (.int .i64 x7)), (8, (.int .i64 (IntKind.wrap .i64 (x8 + 1))))] ⟨rfl, rfl, rfl, rfl, rfl, trivial⟩ ⟨_, _, _, _, _, rfl, H⟩
    · replace H := H.2 g3
      refine tr_exit ?_
      refine tr_thenE ?_
      refine tr_thenE ?_
      refine tr_hit ?_
      exact tr_end0 rfl ⟨rfl, H⟩

def F.table_Table_Slint_All.l2 (Q : Value → H → Prop) (C1 : Addr → Sl → Int → Int → H → Prop) : Nat → Addr → Sl → Int → Int → Sl → Int → Int → H → Prop
  | 0, _, _, _, _, _, _, _, _ => False
  | q2 + 1, x3, x22, x23, x24, x28, x29, x30, h =>
    ((decide (x30 < x29)) = true →
    idxA x28 x30 3 fun a26 =>
    ld_S_table_place_Slint h a26 fun y28 =>
    new h (((⟨0, (⟨#[]⟩ : ByteArray), (⟨none, 0, 0⟩ : Sl)⟩ : S_table_place_Slint) : S_table_place_Slint).cells.toArray) ty_93 fun a31 h30 =>
    stH h30 a31 y28.cells fun h32 =>
    ldI .u8 h32 (a31.add 0) fun y33 =>
    (((y33 == 1)) = true →
    ldV h32 x3 fun y36 =>
    ldS h32 (a31.add 1) fun y38 =>
    ldL h32 (a31.add 2) fun y40 =>
    RunS PP (Instr.mapUpdate 109 y36 (.string y38) y40.enc) h32 fun _ h42 =>
    (F.table_Table_Slint_All.l2 Q C1 q2) x3 x22 x23 x24 x28 x29 (IntKind.wrap .i64 (x30 + 1)) h42) ∧
    (((y33 == 1)) = false →
    (F.table_Table_Slint_All.l2 Q C1 q2) x3 x22 x23 x24 x28 x29 (IntKind.wrap .i64 (x30 + 1)) h32)) ∧
    ((decide (x30 < x29)) = false →
    C1 x3 x22 x23 (IntKind.wrap .i64 (x24 + 1)) h)
def F.table_Table_Slint_All.l1 (Q : Value → H → Prop) : Nat → Addr → Sl → Int → Int → H → Prop
  | 0, _, _, _, _, _ => False
  | q1 + 1, x3, x22, x23, x24, h =>
    ((decide (x24 < x23)) = true →
    idxA x22 x24 1 fun a21 =>
    ldL h a21 fun y23 =>
    ∃ m, F.table_Table_Slint_All.l2 Q (F.table_Table_Slint_All.l1 Q q1) m x3 x22 x23 x24 y23 (y23.len : Int) 0 h) ∧
    ((decide (x24 < x23)) = false →
    ldV h x3 fun y44 =>
    F.maps_Keys_map_string_Slint_string_Slint y44 h fun r47 h46 =>
    F.slices_Sorted_string r47 h46 fun r49 h48 =>
    new h48 #[(⟨none, 0, 0⟩ : Sl).enc] ty_37 fun a51 h50 =>
    stH h50 a51 [r49.enc] fun h52 =>
    Q (.func (.func 71) #[] #[(.pointer (some a51)), (.pointer (some x3))]) h52)
/-- (*spate/table.Table[[]int]).All -/
def F.table_Table_Slint_All (p0 : Option Addr) (h : H) (Q : Value → H → Prop) : Prop :=
  nn p0 fun a1 =>
  ldI .i64 h (a1.add 3) fun y3 =>
  RunS PP (Instr.makeMap 109 (some (.int .i64 y3))) h fun m6 h5 =>
  new h5 #[(.map none)] ty_109 fun a8 h7 =>
  m6.cells = #[m6] ∧
  m6.oneCell' = true ∧
  stH h7 a8 [m6] fun h9 =>
  nn p0 fun a10 =>
  ldL h9 (a10.add 0) fun y12 =>
  nn p0 fun a14 =>
  ldL h9 (a14.add 1) fun y16 =>
  newL h9 #[y12.enc, y16.enc] ty_87 2 fun s19 h18 =>
  ∃ m, F.table_Table_Slint_All.l1 Q m a8 s19 (s19.len : Int) 0 h18
theorem F.table_Table_Slint_All_ok {p0 : Option Addr} {h : H} {Q : Value → H → Prop} (H : F.table_Table_Slint_All p0 h Q) : Fn PP 56 ([(.pointer p0)] : List Value).toArray h fun r h' => ∃ r0, r = r0 ∧ Q r0 h' := by
  unfold F.table_Table_Slint_All at H
  refine fn_of Try.func56 Try.ntmps56 rfl rfl fun w0 => ?_
  refine tr_sub [(0, (.pointer p0))] ⟨rfl, trivial⟩ ?_
  refine tr_seq ?_
  refine tr_region ?_
  refine tr_p (y_assign rfl) rfl rfl ?_
  refine tr_nil ?_
  refine tr_thenN ?_
  refine tr_seq ?_
  refine tr_region ?_
  refine tr_p (y_move rfl) rfl rfl ?_
  obtain ⟨a1, e2, H⟩ := H
  refine tr_p (f_nn rfl e2) rfl rfl ?_
  refine tr_p (y_fa (off := 3) Try.runUnderlying89 fo_89_3 rfl) rfl rfl ?_
  obtain ⟨y3, k4, H⟩ := H
  refine tr_h (y_ld Try.isAgg3 rfl) k4 rfl rfl ?_
  refine tr_e (f_mkS rfl H) rfl rfl ?_
  rintro m6 h5 H
  refine tr_e (f_alloc (cs := #[(.map none)]) Try.zeroValue109 rfl H) rfl rfl ?_
  rintro _ h7 ⟨a8, rfl, H⟩
  refine tr_e (f_store (vs := [m6]) Try.sizeOf109 rfl rfl (congrArg Array.toList H.1) rfl (one1 H.2.1) H.2.2) rfl rfl ?_
  rintro _ h9 ⟨rfl, H⟩
  refine tr_nil ?_
  refine tr_thenN ?_
  refine tr_seq ?_
  refine tr_seq ?_
  refine tr_draw mixed [0, 1, 3, 7, 0, 16, 48, 112, 255, 511, 0] (by kernel_rfl) ?_
  refine g_p 0 1 rfl (by kernel_rfl) (y_move rfl) rfl rfl ?_
  obtain ⟨a10, e11, H⟩ := H
  refine g_p 1 3 rfl (by kernel_rfl) (f_nn rfl e11) rfl rfl ?_
  refine g_p 2 7 rfl (by kernel_rfl) (y_fa (off := 0) Try.runUnderlying89 fo_89_0 rfl) rfl rfl ?_
  obtain ⟨y12, k13, H⟩ := H
  refine g_h 3 15 rfl (by kernel_rfl) (y_ld Try.isAgg87 rfl) k13 rfl rfl ?_
  refine g_p 4 31 rfl (by kernel_rfl) (y_move rfl) rfl rfl ?_
  obtain ⟨a14, e15, H⟩ := H
  refine g_p 5 63 rfl (by kernel_rfl) (f_nn rfl e15) rfl rfl ?_
  refine g_p 6 127 rfl (by kernel_rfl) (y_fa (off := 1) Try.runUnderlying89 fo_89_1 rfl) rfl rfl ?_
  obtain ⟨y16, k17, H⟩ := H
  refine g_h 7 255 rfl (by kernel_rfl) (y_ld Try.isAgg87 rfl) k17 rfl rfl ?_
  refine g_p 10 1279 rfl (by kernel_rfl) (y_move rfl) rfl rfl ?_
  refine g_e 8 1535 [] (by kernel_rfl) rfl (by kernel_rfl) (f_buildL (cs := #[y12.enc, y16.enc]) rfl rfl (bl_110_2_0_1 y12 y16) H) rfl rfl ?_
  rintro _ h18 ⟨s19, rfl, H⟩
  refine ⟨trivial, ?_⟩
  refine g_p 9 2047 rfl (by kernel_rfl) (y_len (ts := #[]) Try.runUnderlying110 (o := s19.ptr) (n := s19.len) (cap := s19.cap) rfl) rfl rfl ?_
  refine g_d (by kernel_rfl) ?_
  refine tr_thenN ?_
  refine tr_block ?_
  obtain ⟨m53, H⟩ := H
  refine tr_sub [(3, (.pointer (some a8))), (22, s19.enc), (23, (.int .i64 (s19.len : Int))), (24, (.int .i64 0))] ⟨rfl, rfl, rfl, rfl, trivial⟩ ?_
  refine tr_loop_j (fun m L' h => ∃ (x3 : Addr) (x22 : Sl) (x23 : Int) (x24 : Int), L' = [(3, (.pointer (some x3))), (22, x22.enc), (23, (.int .i64 x23)), (24, (.int .i64 x24))] ∧ F.table_Table_Slint_All.l1 Q m x3 x22 x23 x24 h) ?_ ?_ m53 ⟨_, _, _, _, rfl, H⟩
  · rintro L' h ⟨_, _, _, _, _, H⟩; exact H
  · rintro q1 L' h ⟨x3, x22, x23, x24, rfl, H⟩
    unfold F.table_Table_Slint_All.l1 at H
    refine tr_seq ?_
    refine tr_region ?_
    refine tr_p (y_lss rfl rfl) rfl rfl ?_
    refine tr_nil ?_
    refine tr_thenN ?_
    refine tr_seq ?_
    refine tr_cond rfl (fun g20 => ?_) (fun g20 => ?_)
    · replace H := H.1 g20
      refine tr_skip ?_
      refine tr_thenN ?_
      refine tr_seq ?_
      refine tr_block ?_
      refine tr_seq ?_
      refine tr_region ?_
      obtain ⟨a21, e22, H⟩ := H
      refine tr_p (f_idx (s := x22) Try.runUnderlying110 Try.sizeOf87 rfl rfl e22) rfl rfl ?_
      obtain ⟨y23, k24, H⟩ := H
      refine tr_h (y_ld Try.isAgg87 rfl) k24 rfl rfl ?_
      refine tr_p (y_assign rfl) rfl rfl ?_
      refine tr_nil ?_
      refine tr_thenN ?_
      refine tr_seq ?_
      refine tr_region ?_
      refine tr_p (y_move rfl) rfl rfl ?_
      refine tr_p (y_len (ts := #[]) Try.runUnderlying87 (o := y23.ptr) (n := y23.len) (cap := y23.cap) rfl) rfl rfl ?_
      refine tr_p (y_move rfl) rfl rfl ?_
      refine tr_nil ?_
      refine tr_thenN ?_
      refine tr_block ?_
      obtain ⟨m43, H⟩ := H
      refine tr_sub [(3, (.pointer (some x3))), (22, x22.enc), (23, (.int .i64 x23)), (24, (.int .i64 x24)), (28, y23.enc), (29, (.int .i64 (y23.len : Int))), (30, (.int .i64 0))] ⟨rfl, rfl, rfl, rfl, rfl, rfl, rfl, trivial⟩ ?_
      refine tr_loop_j (fun m L' h => ∃ (x3 : Addr) (x22 : Sl) (x23 : Int) (x24 : Int) (x28 : Sl) (x29 : Int) (x30 : Int), L' = [(3, (.pointer (some x3))), (22, x22.enc), (23, (.int .i64 x23)), (24, (.int .i64 x24)), (28, x28.enc), (29, (.int .i64 x29)), (30, (.int .i64 x30))] ∧ F.table_Table_Slint_All.l2 Q (F.table_Table_Slint_All.l1 Q q1) m x3 x22 x23 x24 x28 x29 x30 h) ?_ ?_ m43 ⟨_, _, _, _, _, _, _, rfl, H⟩
      · rintro L' h ⟨_, _, _, _, _, _, _, _, H⟩; exact H
      · rintro q2 L' h ⟨x3, x22, x23, x24, x28, x29, x30, rfl, H⟩
        unfold F.table_Table_Slint_All.l2 at H
        refine tr_seq ?_
        refine tr_region ?_
        refine tr_p (y_lss rfl rfl) rfl rfl ?_
        refine tr_nil ?_
        refine tr_thenN ?_
        refine tr_seq ?_
        refine tr_cond rfl (fun g25 => ?_) (fun g25 => ?_)
        · replace H := H.1 g25
          refine tr_skip ?_
          refine tr_thenN ?_
          refine tr_seq ?_
          refine tr_block ?_
          refine tr_seq ?_
          refine tr_region ?_
          obtain ⟨a26, e27, H⟩ := H
          refine tr_p (f_idx (s := x28) Try.runUnderlying87 Try.sizeOf93 rfl rfl e27) rfl rfl ?_
          obtain ⟨y28, k29, H⟩ := H
          refine tr_h (y_ldS Try.isAgg93 Try.sizeOf93 rfl rfl) k29 rfl rfl ?_
          refine tr_e (f_alloc (cs := ((⟨0, (⟨#[]⟩ : ByteArray), (⟨none, 0, 0⟩ : Sl)⟩ : S_table_place_Slint) : S_table_place_Slint).cells.toArray) Try.zeroValue93 rfl H) rfl rfl ?_
          rintro _ h30 ⟨a31, rfl, H⟩
          refine tr_e (f_store (vs := y28.cells) Try.sizeOf93 rfl rfl cellsOfStruct rfl (by intro v hv; exact ones_S_table_place_Slint _ v hv) H) rfl rfl ?_
          rintro _ h32 ⟨rfl, H⟩
          refine tr_nil ?_
          refine tr_thenN ?_
          refine tr_seq ?_
          refine tr_region ?_
          refine tr_p (y_fa (off := 0) Try.runUnderlying93 fo_93_0 rfl) rfl rfl ?_
          obtain ⟨y33, k34, H⟩ := H
          refine tr_h (y_ld Try.isAgg5 rfl) k34 rfl rfl ?_
          refine tr_p (y_eql rfl rfl) rfl rfl ?_
          refine tr_nil ?_
          refine tr_thenN ?_
          refine tr_cond rfl (fun g35 => ?_) (fun g35 => ?_)
          · replace H := H.1 g35
            refine tr_region ?_
            obtain ⟨y36, k37, H⟩ := H
            refine tr_h (y_ld Try.isAgg109 rfl) k37 rfl rfl ?_
            refine tr_p (y_fa (off := 1) Try.runUnderlying93 fo_93_1 rfl) rfl rfl ?_
            obtain ⟨y38, k39, H⟩ := H
            refine tr_h (y_ld Try.isAgg9 rfl) k39 rfl rfl ?_
            refine tr_p (y_fa (off := 2) Try.runUnderlying93 fo_93_2 rfl) rfl rfl ?_
            obtain ⟨y40, k41, H⟩ := H
            refine tr_h (y_ld Try.isAgg38 rfl) k41 rfl rfl ?_
            refine tr_e (f_mu rfl rfl rfl H) rfl rfl ?_
            rintro _ h42 ⟨rfl, H⟩
            refine tr_nil ?_
            refine tr_blockN ?_
            refine tr_thenN ?_
            refine tr_region ?_
            refine tr_p (y_add rfl rfl) rfl rfl ?_
            refine tr_p (y_move rfl) rfl rfl ?_
            refine tr_nil ?_
            refine tr_thenN ?_
            exact tr_join [(3, (.pointer (some x3))), (22, x22.enc), (23, (.int .i64 x23)), (24, (.int .i64 x24)), (28, x28.enc), (29, (.int .i64 x29)), (30, (.int .i64 (IntKind.wrap .i64 (x30 + 1))))] ⟨rfl, rfl, rfl, rfl, rfl, rfl, rfl, trivial⟩ ⟨_, _, _, _, _, _, _, rfl, H⟩
          · replace H := H.2 g35
            refine tr_skip ?_
            refine tr_blockN ?_
            refine tr_thenN ?_
            refine tr_region ?_
            refine tr_p (y_add rfl rfl) rfl rfl ?_
            refine tr_p (y_move rfl) rfl rfl ?_
            refine tr_nil ?_
            refine tr_thenN ?_
            exact tr_join [(3, (.pointer (some x3))), (22, x22.enc), (23, (.int .i64 x23)), (24, (.int .i64 x24)), (28, x28.enc), (29, (.int .i64 x29)), (30, (.int .i64 (IntKind.wrap .i64 (x30 + 1))))] ⟨rfl, rfl, rfl, rfl, rfl, rfl, rfl, trivial⟩ ⟨_, _, _, _, _, _, _, rfl, H⟩
        · replace H := H.2 g25
          refine tr_exit ?_
          refine tr_thenE ?_
          refine tr_thenE ?_
          refine tr_hit ?_
          refine tr_blockN ?_
          refine tr_thenN ?_
          refine tr_region ?_
          refine tr_p (y_add rfl rfl) rfl rfl ?_
          refine tr_p (y_move rfl) rfl rfl ?_
          refine tr_nil ?_
          refine tr_thenN ?_
          exact tr_join [(3, (.pointer (some x3))), (22, x22.enc), (23, (.int .i64 x23)), (24, (.int .i64 (IntKind.wrap .i64 (x24 + 1))))] ⟨rfl, rfl, rfl, rfl, trivial⟩ ⟨_, _, _, _, rfl, H⟩
    · replace H := H.2 g20
      refine tr_exit ?_
      refine tr_thenE ?_
      refine tr_thenE ?_
      refine tr_hit ?_
      refine tr_thenN ?_
      refine tr_seq ?_
      refine tr_region ?_
      obtain ⟨y44, k45, H⟩ := H
      refine tr_h (y_ld Try.isAgg109 rfl) k45 rfl rfl ?_
      refine tr_e (e_call Try.call70 rfl (F.maps_Keys_map_string_Slint_string_Slint_ok H)) rfl rfl ?_
      rintro r47 h46 ⟨_, rfl, H⟩
      refine tr_e (e_call Try.call50 rfl (F.slices_Sorted_string_ok H)) rfl rfl ?_
      rintro _ h48 ⟨r49, rfl, H⟩
      refine tr_e (f_alloc (cs := #[(⟨none, 0, 0⟩ : Sl).enc]) Try.zeroValue37 rfl H) rfl rfl ?_
      rintro _ h50 ⟨a51, rfl, H⟩
      refine tr_e (f_store (vs := [r49.enc]) Try.sizeOf37 rfl rfl rfl rfl (one1 rfl) H) rfl rfl ?_
      rintro _ h52 ⟨rfl, H⟩
      refine tr_nil ?_
      refine tr_thenN ?_
      refine tr_seq ?_
      refine tr_region ?_
      refine tr_p (y_fn rfl rfl) rfl rfl ?_
      refine tr_p (y_assign rfl) rfl rfl ?_
      refine tr_nil ?_
      refine tr_thenN ?_
      refine tr_ret ?_
      exact tr_ret1 rfl rfl ⟨_, rfl, H⟩

/-- (*spate/table.Table[[]int]).Place -/
def F.table_Table_Slint_Place (p0 : Option Addr) (p1 : ByteArray) (h : H) (Q : Int → Bool → Bool → H → Prop) : Prop :=
  nn p0 fun a1 =>
  ldL h (a1.add 0) fun y3 =>
  F.table_find_Slint y3 p1 h fun r6 r7 h5 =>
  (r7 = true →
  Q r6 false true h5) ∧
  (r7 = false →
  nn p0 fun a9 =>
  ldL h5 (a9.add 1) fun y11 =>
  F.table_find_Slint y11 p1 h5 fun r14 r15 h13 =>
  (r15 = true →
  Q r14 true true h13) ∧
  (r15 = false →
  Q 0 false false h13))
theorem F.table_Table_Slint_Place_ok {p0 : Option Addr} {p1 : ByteArray} {h : H} {Q : Int → Bool → Bool → H → Prop} (H : F.table_Table_Slint_Place p0 p1 h Q) : Fn PP 57 ([(.pointer p0), (.string p1)] : List Value).toArray h fun r h' => ∃ r0 r1 r2, r = .tuple #[(.int .i64 r0), (.bool r1), (.bool r2)] ∧ Q r0 r1 r2 h' := by
  unfold F.table_Table_Slint_Place at H
  refine fn_of Try.func57 Try.ntmps57 rfl rfl fun w0 => ?_
  refine tr_sub [(0, (.pointer p0)), (1, (.string p1))] ⟨rfl, rfl, trivial⟩ ?_
  refine tr_seq ?_
  refine tr_region ?_
  refine tr_p (y_assign rfl) rfl rfl ?_
  refine tr_p (y_assign rfl) rfl rfl ?_
  refine tr_p (y_assign rfl) rfl rfl ?_
  refine tr_nil ?_
  refine tr_thenN ?_
  refine tr_seq ?_
  refine tr_seq ?_
  refine tr_region ?_
  refine tr_p (y_move rfl) rfl rfl ?_
  obtain ⟨a1, e2, H⟩ := H
  refine tr_p (f_nn rfl e2) rfl rfl ?_
  refine tr_p (y_fa (off := 0) Try.runUnderlying89 fo_89_0 rfl) rfl rfl ?_
  obtain ⟨y3, k4, H⟩ := H
  refine tr_h (y_ld Try.isAgg87 rfl) k4 rfl rfl ?_
  refine tr_p (y_move rfl) rfl rfl ?_
  refine tr_e (e_call Try.call54 rfl (F.table_find_Slint_ok H)) rfl rfl ?_
  rintro _ h5 ⟨r6, r7, rfl, H⟩
  refine tr_p (y_move rfl) rfl rfl ?_
  refine tr_p (y_ext rfl rfl) rfl rfl ?_
  refine tr_p (y_ext rfl rfl) rfl rfl ?_
  refine tr_p (y_assign rfl) rfl rfl ?_
  refine tr_p (y_assign rfl) rfl rfl ?_
  refine tr_nil ?_
  refine tr_thenN ?_
  refine tr_seq ?_
  refine tr_region ?_
  refine tr_p (y_move rfl) rfl rfl ?_
  refine tr_nil ?_
  refine tr_thenN ?_
  refine tr_cond rfl (fun g8 => ?_) (fun g8 => ?_)
  · replace H := H.1 g8
    refine tr_seq ?_
    refine tr_region ?_
    refine tr_p (y_move rfl) rfl rfl ?_
    refine tr_p (y_assign rfl) rfl rfl ?_
    refine tr_p (y_assign rfl) rfl rfl ?_
    refine tr_p (y_assign rfl) rfl rfl ?_
    refine tr_nil ?_
    refine tr_thenN ?_
    refine tr_ret ?_
    refine tr_thenR ?_
    exact tr_ret3 rfl rfl rfl rfl ⟨_, _, _, rfl, H⟩
  · replace H := H.2 g8
    refine tr_skip ?_
    refine tr_thenN ?_
    refine tr_seq ?_
    refine tr_seq ?_
    refine tr_region ?_
    refine tr_p (y_move rfl) rfl rfl ?_
    obtain ⟨a9, e10, H⟩ := H
    refine tr_p (f_nn rfl e10) rfl rfl ?_
    refine tr_p (y_fa (off := 1) Try.runUnderlying89 fo_89_1 rfl) rfl rfl ?_
    obtain ⟨y11, k12, H⟩ := H
    refine tr_h (y_ld Try.isAgg87 rfl) k12 rfl rfl ?_
    refine tr_p (y_move rfl) rfl rfl ?_
    refine tr_e (e_call Try.call54 rfl (F.table_find_Slint_ok H)) rfl rfl ?_
    rintro _ h13 ⟨r14, r15, rfl, H⟩
    refine tr_p (y_move rfl) rfl rfl ?_
    refine tr_p (y_ext rfl rfl) rfl rfl ?_
    refine tr_p (y_ext rfl rfl) rfl rfl ?_
    refine tr_p (y_assign rfl) rfl rfl ?_
    refine tr_p (y_assign rfl) rfl rfl ?_
    refine tr_nil ?_
    refine tr_thenN ?_
    refine tr_seq ?_
    refine tr_region ?_
    refine tr_p (y_move rfl) rfl rfl ?_
    refine tr_nil ?_
    refine tr_thenN ?_
    refine tr_cond rfl (fun g16 => ?_) (fun g16 => ?_)
    · replace H := H.1 g16
      refine tr_seq ?_
      refine tr_region ?_
      refine tr_p (y_move rfl) rfl rfl ?_
      refine tr_p (y_assign rfl) rfl rfl ?_
      refine tr_p (y_assign rfl) rfl rfl ?_
      refine tr_p (y_assign rfl) rfl rfl ?_
      refine tr_nil ?_
      refine tr_thenN ?_
      refine tr_ret ?_
      refine tr_thenR ?_
      exact tr_ret3 rfl rfl rfl rfl ⟨_, _, _, rfl, H⟩
    · replace H := H.2 g16
      refine tr_skip ?_
      refine tr_thenN ?_
      refine tr_seq ?_
      refine tr_region ?_
      refine tr_p (y_assign rfl) rfl rfl ?_
      refine tr_p (y_assign rfl) rfl rfl ?_
      refine tr_p (y_assign rfl) rfl rfl ?_
      refine tr_nil ?_
      refine tr_thenN ?_
      refine tr_ret ?_
      exact tr_ret3 rfl rfl rfl rfl ⟨_, _, _, rfl, H⟩

end Go.Proofs.Ytkedkajdiclmjaa.V
