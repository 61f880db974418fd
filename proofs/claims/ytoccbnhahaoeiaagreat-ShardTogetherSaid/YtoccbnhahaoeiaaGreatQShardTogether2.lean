/- Parts of the proof of ShardTogether; no condition. -/
import Derived.Test.YtoccbnhahaoeiaaGreatQShardTogether1
namespace Go.Proofs.YtoccbnhahaoeiaaGreat.V
open Go
set_option linter.unusedVariables false
set_option maxRecDepth 100000
/-- (*spate/chain.Chain[spate/api.Agg]).Put -/
def F.chain_Chain_api_Agg_Put (p0 : Option Addr) (p1 : Int) (p2 : S_api_Agg) (h : H) (Q : Int → Int → H → Prop) : Prop :=
  new h p2.cells.toArray ty_34 fun a2 h1 =>
  F.chain_Chain_api_Agg_may p0 p1 h1 fun r4 h3 =>
  (((r4 != 0)) = true →
  Q 0 r4 h3) ∧
  (((r4 != 0)) = false →
  ld_S_api_Agg h3 a2 fun y6 =>
  F.chain_Chain_api_Agg_lay p0 (⟨p1, y6, false⟩ : S_chain_version_api_Agg) h3 fun r9 h8 =>
  Q r9 0 h8)
theorem F.chain_Chain_api_Agg_Put_ok {p0 : Option Addr} {p1 : Int} {p2 : S_api_Agg} {h : H} {Q : Int → Int → H → Prop} (H : F.chain_Chain_api_Agg_Put p0 p1 p2 h Q) : Fn PP 45 ([(.pointer p0), (.int .i64 p1), (.agg p2.cells.toArray)] : List Value).toArray h fun r h' => ∃ r0 r1, r = .tuple #[(.int .i64 r0), (.int .i64 r1)] ∧ Q r0 r1 h' := by
  unfold F.chain_Chain_api_Agg_Put at H
  refine fn_of Tryz.func45 Tryz.ntmps45 rfl rfl fun w0 => ?_
  refine tr_sub [(0, (.pointer p0)), (1, (.int .i64 p1)), (2, (.agg p2.cells.toArray))] ⟨rfl, rfl, rfl, trivial⟩ ?_
  refine tr_seq ?_
  refine tr_region ?_
  refine tr_e (f_box (cs := p2.cells.toArray) rfl rfl H) rfl rfl ?_
  rintro _ h1 ⟨a2, rfl, H⟩
  refine tr_p (y_assign rfl) rfl rfl ?_
  refine tr_p (y_assign rfl) rfl rfl ?_
  refine tr_nil ?_
  refine tr_thenN ?_
  refine tr_seq ?_
  refine tr_seq ?_
  refine tr_region ?_
  refine tr_p (y_move rfl) rfl rfl ?_
  refine tr_p (y_move rfl) rfl rfl ?_
  refine tr_e (e_call Tryz.call83 rfl (F.chain_Chain_api_Agg_may_ok H)) rfl rfl ?_
  rintro _ h3 ⟨r4, rfl, H⟩
  refine tr_p (y_assign rfl) rfl rfl ?_
  refine tr_nil ?_
  refine tr_thenN ?_
  refine tr_seq ?_
  refine tr_region ?_
  refine tr_p (y_move rfl) rfl rfl ?_
  refine tr_p (y_neq rfl rfl) rfl rfl ?_
  refine tr_nil ?_
  refine tr_thenN ?_
  refine tr_cond rfl (fun g5 => ?_) (fun g5 => ?_)
  · replace H := H.1 g5
    refine tr_seq ?_
    refine tr_region ?_
    refine tr_p (y_move rfl) rfl rfl ?_
    refine tr_p (y_assign rfl) rfl rfl ?_
    refine tr_p (y_assign rfl) rfl rfl ?_
    refine tr_nil ?_
    refine tr_thenN ?_
    refine tr_ret ?_
    refine tr_thenR ?_
    exact tr_ret2 rfl rfl rfl ⟨_, _, rfl, H⟩
  · replace H := H.2 g5
    refine tr_skip ?_
    refine tr_thenN ?_
    refine tr_seq ?_
    refine tr_region ?_
    refine tr_p (y_move rfl) rfl rfl ?_
    refine tr_p (y_move rfl) rfl rfl ?_
    obtain ⟨y6, k7, H⟩ := H
    refine tr_h (y_ldS Tryz.isAgg34 Tryz.sizeOf34 rfl rfl) k7 rfl rfl ?_
    refine tr_p (f_build rfl (bd_135_0_1 p1 y6)) rfl rfl ?_
    refine tr_e (e_call Tryz.call84 rfl (F.chain_Chain_api_Agg_lay_ok H)) rfl rfl ?_
    rintro _ h8 ⟨r9, rfl, H⟩
    refine tr_p (y_assign rfl) rfl rfl ?_
    refine tr_p (y_assign rfl) rfl rfl ?_
    refine tr_nil ?_
    refine tr_thenN ?_
    refine tr_ret ?_
    exact tr_ret2 rfl rfl rfl ⟨_, _, rfl, H⟩
/-- spate/chain.New[spate/api.Agg] -/
def F.chain_New_api_Agg  (h : H) (Q : (Option Addr) → H → Prop) : Prop :=
  new h ((⟨(⟨none, 0, 0⟩ : Sl)⟩ : S_chain_Chain_api_Agg).cells.toArray) ty_133 fun a2 h1 =>
  Q (some a2) h1
theorem F.chain_New_api_Agg_ok  {h : H} {Q : (Option Addr) → H → Prop} (H : F.chain_New_api_Agg  h Q) : Fn PP 43 ([] : List Value).toArray h fun r h' => ∃ r0, r = (.pointer r0) ∧ Q r0 h' := by
  unfold F.chain_New_api_Agg at H
  refine fn_of Tryz.func43 Tryz.ntmps43 rfl rfl fun w0 => ?_
  refine tr_sub [] trivial ?_
  refine tr_seq ?_
  refine tr_region ?_
  refine tr_p (y_assign rfl) rfl rfl ?_
  refine tr_nil ?_
  refine tr_thenN ?_
  refine tr_seq ?_
  refine tr_region ?_
  refine tr_p (f_build rfl (bd_133_ )) rfl rfl ?_
  refine tr_e (f_box (cs := (⟨(⟨none, 0, 0⟩ : Sl)⟩ : S_chain_Chain_api_Agg).cells.toArray) rfl rfl H) rfl rfl ?_
  rintro _ h1 ⟨a2, rfl, H⟩
  refine tr_p (y_assign rfl) rfl rfl ?_
  refine tr_nil ?_
  refine tr_thenN ?_
  refine tr_ret ?_
  exact tr_ret1 rfl rfl ⟨_, rfl, H⟩
def F.table_Table_chain_Chain_api_Agg_Put.j1 (Q : H → Prop) (x0 : Option Addr) (x1 : ByteArray) (x2 : Option Addr) (h : H) : Prop :=
  nn x0 fun a9 =>
  ldL h (a9.add 0) fun y11 =>
  F.table_find_chain_Chain_api_Agg y11 x1 h fun r14 r15 h13 =>
  nn x0 fun a16 =>
  ldL h13 (a16.add 0) fun y18 =>
  idxA y18 r14 3 fun a20 =>
  stH h13 a20 ((⟨1, x1, x2⟩ : S_table_place_chain_Chain_api_Agg).cells) fun h22 =>
  nn x0 fun a23 =>
  ldI .i64 h22 (a23.add 3) fun y25 =>
  nn x0 fun a27 =>
  stH h22 (a27.add 3) [(.int .i64 (IntKind.wrap .i64 (y25 + 1)))] fun h29 =>
  Q h29
/-- (*spate/table.Table[*spate/chain.Chain[spate/api.Agg]]).Put -/
def F.table_Table_chain_Chain_api_Agg_Put (p0 : Option Addr) (p1 : ByteArray) (p2 : Option Addr) (h : H) (Q : H → Prop) : Prop :=
  F.table_Table_chain_Chain_api_Agg_Move p0 4 h fun r2 h1 =>
  F.table_Table_chain_Chain_api_Agg_where p0 p1 h1 fun r4 h3 =>
  ((!r4.isNone) = true →
  nn r4 fun a6 =>
  stH h3 (a6.add 2) [(.pointer p2)] fun h8 =>
  Q h8) ∧
  ((!r4.isNone) = false →
  nn p0 fun a30 =>
  ldI .i64 h3 (a30.add 3) fun y32 =>
  nn p0 fun a34 =>
  ldL h3 (a34.add 0) fun y36 =>
  ((decide ((IntKind.wrap .i64 (4 * (IntKind.wrap .i64 (y32 + 1)))) > (IntKind.wrap .i64 (3 * (y36.len : Int))))) = true →
  nn p0 fun a39 =>
  ldL h3 (a39.add 1) fun y41 =>
  F.table_Table_chain_Chain_api_Agg_Move p0 (y41.len : Int) h3 fun r44 h43 =>
  nn p0 fun a45 =>
  ldL h43 (a45.add 0) fun y47 =>
  nn p0 fun a49 =>
  ldL h43 (a49.add 0) fun y51 =>
  runL PP (Instr.makeSlice 110 (.int .i64 (IntKind.wrap .i64 (2 * (y47.len : Int)))) (.int .i64 (IntKind.wrap .i64 (2 * (y47.len : Int))))) h43 fun s54 h53 =>
  cellH h53 (a49.add 0) = some y51.enc ∧
  nn p0 fun a56 =>
  stH h53 (a56.add 0) [s54.enc] fun h58 =>
  nn p0 fun a59 =>
  stH h58 (a59.add 1) [y51.enc] fun h61 =>
  nn p0 fun a62 =>
  stH h61 (a62.add 2) [(.int .i64 0)] fun h64 =>
  F.table_Table_chain_Chain_api_Agg_Put.j1 Q p0 p1 p2 h64) ∧
  ((decide ((IntKind.wrap .i64 (4 * (IntKind.wrap .i64 (y32 + 1)))) > (IntKind.wrap .i64 (3 * (y36.len : Int))))) = false →
  F.table_Table_chain_Chain_api_Agg_Put.j1 Q p0 p1 p2 h3))
theorem F.table_Table_chain_Chain_api_Agg_Put_ok {p0 : Option Addr} {p1 : ByteArray} {p2 : Option Addr} {h : H} {Q : H → Prop} (H : F.table_Table_chain_Chain_api_Agg_Put p0 p1 p2 h Q) : Fn PP 44 ([(.pointer p0), (.string p1), (.pointer p2)] : List Value).toArray h fun r h' => r = .tuple #[] ∧ Q  h' := by
  unfold F.table_Table_chain_Chain_api_Agg_Put at H
  refine fn_of Tryz.func44 Tryz.ntmps44 rfl rfl fun w0 => ?_
  refine tr_sub [(0, (.pointer p0)), (1, (.string p1)), (2, (.pointer p2))] ⟨rfl, rfl, rfl, trivial⟩ ?_
  refine tr_seq ?_
  refine tr_region ?_
  refine tr_p (y_move rfl) rfl rfl ?_
  refine tr_e (e_call Tryz.call81 rfl (F.table_Table_chain_Chain_api_Agg_Move_ok H)) rfl rfl ?_
  rintro _ h1 ⟨r2, rfl, H⟩
  refine tr_nil ?_
  refine tr_thenN ?_
  refine tr_seq ?_
  refine tr_seq ?_
  refine tr_region ?_
  refine tr_p (y_move rfl) rfl rfl ?_
  refine tr_p (y_move rfl) rfl rfl ?_
  refine tr_e (e_call Tryz.call80 rfl (F.table_Table_chain_Chain_api_Agg_where_ok H)) rfl rfl ?_
  rintro _ h3 ⟨r4, rfl, H⟩
  refine tr_p (y_assign rfl) rfl rfl ?_
  refine tr_nil ?_
  refine tr_thenN ?_
  refine tr_seq ?_
  refine tr_region ?_
  refine tr_p (y_move rfl) rfl rfl ?_
  refine tr_p (y_pnil_neq Tryz.runUnderlying127 rfl rfl) rfl rfl ?_
  refine tr_nil ?_
  refine tr_thenN ?_
  refine tr_cond rfl (fun g5 => ?_) (fun g5 => ?_)
  · replace H := H.1 g5
    refine tr_seq ?_
    refine tr_region ?_
    refine tr_p (y_move rfl) rfl rfl ?_
    refine tr_p (y_move rfl) rfl rfl ?_
    obtain ⟨a6, e7, H⟩ := H
    refine tr_p (f_nn rfl e7) rfl rfl ?_
    refine tr_p (y_fa (off := 2) Tryz.runUnderlying130 fo_130_2 rfl) rfl rfl ?_
    refine tr_e (f_store (vs := [(.pointer p2)]) Tryz.sizeOf70 rfl rfl rfl rfl (one1 rfl) H) rfl rfl ?_
    rintro _ h8 ⟨rfl, H⟩
    refine tr_nil ?_
    refine tr_thenN ?_
    refine tr_ret ?_
    refine tr_thenR ?_
    exact tr_ret0 rfl ⟨rfl, H⟩
  · replace H := H.2 g5
    refine tr_skip ?_
    refine tr_thenN ?_
    refine tr_seq_j (fun L' h => ∃ (x0 : Option Addr) (x1 : ByteArray) (x2 : Option Addr), L' = [(0, (.pointer x0)), (1, (.string x1)), (2, (.pointer x2))] ∧ F.table_Table_chain_Chain_api_Agg_Put.j1 Q x0 x1 x2 h) ?_ ?_
    · rintro L' h ⟨x0, x1, x2, rfl, H⟩
      unfold F.table_Table_chain_Chain_api_Agg_Put.j1 at H
      refine tr_seq ?_
      refine tr_region ?_
      refine tr_p (y_move rfl) rfl rfl ?_
      obtain ⟨a9, e10, H⟩ := H
      refine tr_p (f_nn rfl e10) rfl rfl ?_
      refine tr_p (y_fa (off := 0) Tryz.runUnderlying112 fo_112_0 rfl) rfl rfl ?_
      obtain ⟨y11, k12, H⟩ := H
      refine tr_h (y_ld Tryz.isAgg110 rfl) k12 rfl rfl ?_
      refine tr_p (y_move rfl) rfl rfl ?_
      refine tr_e (e_call Tryz.call82 rfl (F.table_find_chain_Chain_api_Agg_ok H)) rfl rfl ?_
      rintro _ h13 ⟨r14, r15, rfl, H⟩
      refine tr_p (y_move rfl) rfl rfl ?_
      refine tr_p (y_ext rfl rfl) rfl rfl ?_
      refine tr_p (y_ext rfl rfl) rfl rfl ?_
      refine tr_p (y_assign rfl) rfl rfl ?_
      refine tr_p (y_assign rfl) rfl rfl ?_
      refine tr_nil ?_
      refine tr_thenN ?_
      refine tr_seq ?_
      refine tr_region ?_
      refine tr_p (y_move rfl) rfl rfl ?_
      obtain ⟨a16, e17, H⟩ := H
      refine tr_p (f_nn rfl e17) rfl rfl ?_
      refine tr_p (y_fa (off := 0) Tryz.runUnderlying112 fo_112_0 rfl) rfl rfl ?_
      obtain ⟨y18, k19, H⟩ := H
      refine tr_h (y_ld Tryz.isAgg110 rfl) k19 rfl rfl ?_
      refine tr_p (y_move rfl) rfl rfl ?_
      refine tr_p (y_move rfl) rfl rfl ?_
      refine tr_p (y_move rfl) rfl rfl ?_
      refine tr_p (f_build rfl (bd_130_0_1_2 1 x1 x2)) rfl rfl ?_
      obtain ⟨a20, e21, H⟩ := H
      refine tr_p (f_idx (s := y18) Tryz.runUnderlying110 Tryz.sizeOf130 rfl rfl e21) rfl rfl ?_
      refine tr_e (f_store (vs := (⟨1, x1, x2⟩ : S_table_place_chain_Chain_api_Agg).cells) Tryz.sizeOf130 rfl rfl cellsOfStruct rfl (by intro v hv; exact ones_S_table_place_chain_Chain_api_Agg _ v hv) H) rfl rfl ?_
      rintro _ h22 ⟨rfl, H⟩
      refine tr_nil ?_
      refine tr_thenN ?_
      refine tr_region ?_
      refine tr_p (y_move rfl) rfl rfl ?_
      obtain ⟨a23, e24, H⟩ := H
      refine tr_p (f_nn rfl e24) rfl rfl ?_
      refine tr_p (y_fa (off := 3) Tryz.runUnderlying112 fo_112_3 rfl) rfl rfl ?_
      obtain ⟨y25, k26, H⟩ := H
      refine tr_h (y_ld Tryz.isAgg3 rfl) k26 rfl rfl ?_
      refine tr_p (y_add rfl rfl) rfl rfl ?_
      obtain ⟨a27, e28, H⟩ := H
      refine tr_p (f_nn rfl e28) rfl rfl ?_
      refine tr_p (y_fa (off := 3) Tryz.runUnderlying112 fo_112_3 rfl) rfl rfl ?_
      refine tr_e (f_store (vs := [(.int .i64 (IntKind.wrap .i64 (y25 + 1)))]) Tryz.sizeOf3 rfl rfl rfl rfl (one1 rfl) H) rfl rfl ?_
      rintro _ h29 ⟨rfl, H⟩
      refine tr_nil ?_
      exact tr_end0 rfl ⟨rfl, H⟩
    · refine tr_seq ?_
      refine tr_draw mixed [0, 1, 3, 7, 15, 31, 0, 64, 192, 448, 960, 1984, 4095] (by kernel_rfl) ?_
      refine g_p 0 1 rfl (by kernel_rfl) (y_move rfl) rfl rfl ?_
      obtain ⟨a30, e31, H⟩ := H
      refine g_p 1 3 rfl (by kernel_rfl) (f_nn rfl e31) rfl rfl ?_
      refine g_p 2 7 rfl (by kernel_rfl) (y_fa (off := 3) Tryz.runUnderlying112 fo_112_3 rfl) rfl rfl ?_
      obtain ⟨y32, k33, H⟩ := H
      refine g_h 3 15 rfl (by kernel_rfl) (y_ld Tryz.isAgg3 rfl) k33 rfl rfl ?_
      refine g_p 4 31 rfl (by kernel_rfl) (y_add rfl rfl) rfl rfl ?_
      refine g_p 5 63 rfl (by kernel_rfl) (y_mul rfl rfl) rfl rfl ?_
      refine g_p 6 127 rfl (by kernel_rfl) (y_move rfl) rfl rfl ?_
      obtain ⟨a34, e35, H⟩ := H
      refine g_p 7 255 rfl (by kernel_rfl) (f_nn rfl e35) rfl rfl ?_
      refine g_p 8 511 rfl (by kernel_rfl) (y_fa (off := 0) Tryz.runUnderlying112 fo_112_0 rfl) rfl rfl ?_
      obtain ⟨y36, k37, H⟩ := H
      refine g_h 9 1023 rfl (by kernel_rfl) (y_ld Tryz.isAgg110 rfl) k37 rfl rfl ?_
      refine g_p 10 2047 rfl (by kernel_rfl) (y_len (ts := #[]) Tryz.runUnderlying110 (o := y36.ptr) (n := y36.len) (cap := y36.cap) rfl) rfl rfl ?_
      refine g_p 11 4095 rfl (by kernel_rfl) (y_mul rfl rfl) rfl rfl ?_
      refine g_p 12 8191 rfl (by kernel_rfl) (y_gtr rfl rfl) rfl rfl ?_
      refine g_d (by kernel_rfl) ?_
      refine tr_thenN ?_
      refine tr_cond rfl (fun g38 => ?_) (fun g38 => ?_)
      · replace H := H.1 g38
        refine tr_seq ?_
        refine tr_region ?_
        refine tr_p (y_move rfl) rfl rfl ?_
        refine tr_p (y_move rfl) rfl rfl ?_
        obtain ⟨a39, e40, H⟩ := H
        refine tr_p (f_nn rfl e40) rfl rfl ?_
        refine tr_p (y_fa (off := 1) Tryz.runUnderlying112 fo_112_1 rfl) rfl rfl ?_
        obtain ⟨y41, k42, H⟩ := H
        refine tr_h (y_ld Tryz.isAgg110 rfl) k42 rfl rfl ?_
        refine tr_p (y_len (ts := #[]) Tryz.runUnderlying110 (o := y41.ptr) (n := y41.len) (cap := y41.cap) rfl) rfl rfl ?_
        refine tr_e (e_call Tryz.call81 rfl (F.table_Table_chain_Chain_api_Agg_Move_ok H)) rfl rfl ?_
        rintro _ h43 ⟨r44, rfl, H⟩
        refine tr_nil ?_
        refine tr_thenN ?_
        refine tr_draw mixed [0, 0, 0, 0, 8, 24, 56, 120, 248, 504, 0, 1024, 3072, 7168, 16377, 32761, 65529, 131067, 262139, 524283, 1048575, 2097151, 4194303] (by kernel_rfl) ?_
        refine g_p 0 1 rfl (by kernel_rfl) (y_move rfl) rfl rfl ?_
        refine g_p 1 3 rfl (by kernel_rfl) (y_move rfl) rfl rfl ?_
        refine g_p 2 7 rfl (by kernel_rfl) (y_move rfl) rfl rfl ?_
        refine g_p 3 15 rfl (by kernel_rfl) (y_move rfl) rfl rfl ?_
        obtain ⟨a45, e46, H⟩ := H
        refine g_p 4 31 rfl (by kernel_rfl) (f_nn rfl e46) rfl rfl ?_
        refine g_p 5 63 rfl (by kernel_rfl) (y_fa (off := 0) Tryz.runUnderlying112 fo_112_0 rfl) rfl rfl ?_
        obtain ⟨y47, k48, H⟩ := H
        refine g_h 6 127 rfl (by kernel_rfl) (y_ld Tryz.isAgg110 rfl) k48 rfl rfl ?_
        refine g_p 7 255 rfl (by kernel_rfl) (y_len (ts := #[]) Tryz.runUnderlying110 (o := y47.ptr) (n := y47.len) (cap := y47.cap) rfl) rfl rfl ?_
        refine g_p 8 511 rfl (by kernel_rfl) (y_mul rfl rfl) rfl rfl ?_
        refine g_p 10 1535 rfl (by kernel_rfl) (y_move rfl) rfl rfl ?_
        obtain ⟨a49, e50, H⟩ := H
        refine g_p 11 3583 rfl (by kernel_rfl) (f_nn rfl e50) rfl rfl ?_
        refine g_p 12 7679 rfl (by kernel_rfl) (y_fa (off := 0) Tryz.runUnderlying112 fo_112_0 rfl) rfl rfl ?_
        obtain ⟨y51, k52, H⟩ := H
        refine g_h 13 15871 rfl (by kernel_rfl) (y_ld Tryz.isAgg110 rfl) k52 rfl rfl ?_
        refine g_e 9 16383 [(13, fun h => cellH h (a49.add 0) = some y51.enc)] (by kernel_rfl) rfl (by kernel_rfl) (f_make rfl rfl H) rfl rfl ?_
        rintro _ h53 ⟨s54, rfl, H⟩
        obtain ⟨k55, H⟩ := H
        refine ⟨And.intro k55 trivial, ?_⟩
        obtain ⟨a56, e57, H⟩ := H
        refine g_p 14 32767 rfl (by kernel_rfl) (f_nn rfl e57) rfl rfl ?_
        refine g_p 15 65535 rfl (by kernel_rfl) (y_fa (off := 0) Tryz.runUnderlying112 fo_112_0 rfl) rfl rfl ?_
        refine g_e 16 131071 [] (by kernel_rfl) rfl (by kernel_rfl) (f_store (vs := [s54.enc]) Tryz.sizeOf110 rfl rfl rfl rfl (one1 rfl) H) rfl rfl ?_
        rintro _ h58 ⟨rfl, H⟩
        refine ⟨trivial, ?_⟩
        obtain ⟨a59, e60, H⟩ := H
        refine g_p 17 262143 rfl (by kernel_rfl) (f_nn rfl e60) rfl rfl ?_
        refine g_p 18 524287 rfl (by kernel_rfl) (y_fa (off := 1) Tryz.runUnderlying112 fo_112_1 rfl) rfl rfl ?_
        refine g_e 19 1048575 [] (by kernel_rfl) rfl (by kernel_rfl) (f_store (vs := [y51.enc]) Tryz.sizeOf110 rfl rfl rfl rfl (one1 rfl) H) rfl rfl ?_
        rintro _ h61 ⟨rfl, H⟩
        refine ⟨trivial, ?_⟩
        obtain ⟨a62, e63, H⟩ := H
        refine g_p 20 2097151 rfl (by kernel_rfl) (f_nn rfl e63) rfl rfl ?_
        refine g_p 21 4194303 rfl (by kernel_rfl) (y_fa (off := 2) Tryz.runUnderlying112 fo_112_2 rfl) rfl rfl ?_
        refine g_e 22 8388607 [] (by kernel_rfl) rfl (by kernel_rfl) (f_store (vs := [(.int .i64 0)]) Tryz.sizeOf3 rfl rfl rfl rfl (one1 rfl) H) rfl rfl ?_
        rintro _ h64 ⟨rfl, H⟩
        refine ⟨trivial, ?_⟩
        refine g_d (by kernel_rfl) ?_
        refine tr_thenN ?_
        exact tr_join [(0, (.pointer p0)), (1, (.string p1)), (2, (.pointer p2))] ⟨rfl, rfl, rfl, trivial⟩ ⟨_, _, _, rfl, H⟩
      · replace H := H.2 g38
        refine tr_skip ?_
        refine tr_thenN ?_
        exact tr_join [(0, (.pointer p0)), (1, (.string p1)), (2, (.pointer p2))] ⟨rfl, rfl, rfl, trivial⟩ ⟨_, _, _, rfl, H⟩
/-- math/bits.Mul64 -/
def F.math_bits_Mul64 (p0 : Int) (p1 : Int) (h : H) (Q : Int → Int → H → Prop) : Prop :=
  0 ≤ (32 : Int) ∧
  0 ≤ (32 : Int) ∧
  0 ≤ (32 : Int) ∧
  0 ≤ (32 : Int) ∧
  0 ≤ (32 : Int) ∧
  Q (IntKind.wrap .u64 ((IntKind.wrap .u64 ((IntKind.wrap .u64 ((Int.fdiv p0 (2 ^ (min (32 : Int).toNat (IntKind.bits .u64)) : Int)) * (Int.fdiv p1 (2 ^ (min (32 : Int).toNat (IntKind.bits .u64)) : Int)))) + (Int.fdiv (IntKind.wrap .u64 ((IntKind.wrap .u64 ((Int.fdiv p0 (2 ^ (min (32 : Int).toNat (IntKind.bits .u64)) : Int)) * (bitsOf .and .u64 p1 4294967295))) + (Int.fdiv (IntKind.wrap .u64 ((bitsOf .and .u64 p0 4294967295) * (bitsOf .and .u64 p1 4294967295))) (2 ^ (min (32 : Int).toNat (IntKind.bits .u64)) : Int)))) (2 ^ (min (32 : Int).toNat (IntKind.bits .u64)) : Int)))) + (Int.fdiv (IntKind.wrap .u64 ((bitsOf .and .u64 (IntKind.wrap .u64 ((IntKind.wrap .u64 ((Int.fdiv p0 (2 ^ (min (32 : Int).toNat (IntKind.bits .u64)) : Int)) * (bitsOf .and .u64 p1 4294967295))) + (Int.fdiv (IntKind.wrap .u64 ((bitsOf .and .u64 p0 4294967295) * (bitsOf .and .u64 p1 4294967295))) (2 ^ (min (32 : Int).toNat (IntKind.bits .u64)) : Int)))) 4294967295) + (IntKind.wrap .u64 ((bitsOf .and .u64 p0 4294967295) * (Int.fdiv p1 (2 ^ (min (32 : Int).toNat (IntKind.bits .u64)) : Int)))))) (2 ^ (min (32 : Int).toNat (IntKind.bits .u64)) : Int)))) (IntKind.wrap .u64 (p0 * p1)) h
theorem F.math_bits_Mul64_ok {p0 : Int} {p1 : Int} {h : H} {Q : Int → Int → H → Prop} (H : F.math_bits_Mul64 p0 p1 h Q) : Fn PP 114 ([(.int .u64 p0), (.int .u64 p1)] : List Value).toArray h fun r h' => ∃ r0 r1, r = .tuple #[(.int .u64 r0), (.int .u64 r1)] ∧ Q r0 r1 h' := by
  unfold F.math_bits_Mul64 at H
  refine fn_of Tryz.func114 Tryz.ntmps114 rfl rfl fun w0 => ?_
  refine tr_sub [(0, (.int .u64 p0)), (1, (.int .u64 p1))] ⟨rfl, rfl, trivial⟩ ?_
  refine tr_seq ?_
  refine tr_region ?_
  refine tr_p (y_assign rfl) rfl rfl ?_
  refine tr_p (y_assign rfl) rfl rfl ?_
  refine tr_nil ?_
  refine tr_thenN ?_
  refine tr_seq ?_
  refine tr_region ?_
  refine tr_p (y_move rfl) rfl rfl ?_
  refine tr_p (y_and rfl rfl) rfl rfl ?_
  refine tr_p (y_assign rfl) rfl rfl ?_
  refine tr_nil ?_
  refine tr_thenN ?_
  refine tr_seq ?_
  refine tr_region ?_
  refine tr_p (y_move rfl) rfl rfl ?_
  obtain ⟨e1, H⟩ := H
  refine tr_p (y_shr rfl rfl e1) rfl rfl ?_
  refine tr_p (y_assign rfl) rfl rfl ?_
  refine tr_nil ?_
  refine tr_thenN ?_
  refine tr_seq ?_
  refine tr_region ?_
  refine tr_p (y_move rfl) rfl rfl ?_
  refine tr_p (y_and rfl rfl) rfl rfl ?_
  refine tr_p (y_assign rfl) rfl rfl ?_
  refine tr_nil ?_
  refine tr_thenN ?_
  refine tr_seq ?_
  refine tr_region ?_
  refine tr_p (y_move rfl) rfl rfl ?_
  obtain ⟨e2, H⟩ := H
  refine tr_p (y_shr rfl rfl e2) rfl rfl ?_
  refine tr_p (y_assign rfl) rfl rfl ?_
  refine tr_nil ?_
  refine tr_thenN ?_
  refine tr_seq ?_
  refine tr_region ?_
  refine tr_p (y_move rfl) rfl rfl ?_
  refine tr_p (y_move rfl) rfl rfl ?_
  refine tr_p (y_mul rfl rfl) rfl rfl ?_
  refine tr_p (y_assign rfl) rfl rfl ?_
  refine tr_nil ?_
  refine tr_thenN ?_
  refine tr_seq ?_
  refine tr_region ?_
  refine tr_p (y_move rfl) rfl rfl ?_
  refine tr_p (y_move rfl) rfl rfl ?_
  refine tr_p (y_mul rfl rfl) rfl rfl ?_
  refine tr_p (y_move rfl) rfl rfl ?_
  obtain ⟨e3, H⟩ := H
  refine tr_p (y_shr rfl rfl e3) rfl rfl ?_
  refine tr_p (y_add rfl rfl) rfl rfl ?_
  refine tr_p (y_assign rfl) rfl rfl ?_
  refine tr_nil ?_
  refine tr_thenN ?_
  refine tr_seq ?_
  refine tr_region ?_
  refine tr_p (y_move rfl) rfl rfl ?_
  refine tr_p (y_and rfl rfl) rfl rfl ?_
  refine tr_p (y_assign rfl) rfl rfl ?_
  refine tr_nil ?_
  refine tr_thenN ?_
  refine tr_seq ?_
  refine tr_region ?_
  refine tr_p (y_move rfl) rfl rfl ?_
  obtain ⟨e4, H⟩ := H
  refine tr_p (y_shr rfl rfl e4) rfl rfl ?_
  refine tr_p (y_assign rfl) rfl rfl ?_
  refine tr_nil ?_
  refine tr_thenN ?_
  refine tr_seq ?_
  refine tr_region ?_
  refine tr_p (y_move rfl) rfl rfl ?_
  refine tr_p (y_move rfl) rfl rfl ?_
  refine tr_p (y_move rfl) rfl rfl ?_
  refine tr_p (y_mul rfl rfl) rfl rfl ?_
  refine tr_p (y_add rfl rfl) rfl rfl ?_
  refine tr_p (y_assign rfl) rfl rfl ?_
  refine tr_nil ?_
  refine tr_thenN ?_
  refine tr_seq ?_
  refine tr_region ?_
  refine tr_p (y_move rfl) rfl rfl ?_
  refine tr_p (y_move rfl) rfl rfl ?_
  refine tr_p (y_mul rfl rfl) rfl rfl ?_
  refine tr_p (y_move rfl) rfl rfl ?_
  refine tr_p (y_add rfl rfl) rfl rfl ?_
  refine tr_p (y_move rfl) rfl rfl ?_
  obtain ⟨e5, H⟩ := H
  refine tr_p (y_shr rfl rfl e5) rfl rfl ?_
  refine tr_p (y_add rfl rfl) rfl rfl ?_
  refine tr_p (y_assign rfl) rfl rfl ?_
  refine tr_nil ?_
  refine tr_thenN ?_
  refine tr_seq ?_
  refine tr_region ?_
  refine tr_p (y_move rfl) rfl rfl ?_
  refine tr_p (y_move rfl) rfl rfl ?_
  refine tr_p (y_mul rfl rfl) rfl rfl ?_
  refine tr_p (y_assign rfl) rfl rfl ?_
  refine tr_nil ?_
  refine tr_thenN ?_
  refine tr_ret ?_
  exact tr_ret2 rfl rfl rfl ⟨_, _, rfl, H⟩
def F.agg_product.j1 (Q : S_agg_wide → H → Prop) (x4 : Addr) (x5 : Int) (x6 : Int) (h : H) : Prop :=
  stH h x4 ((⟨(IntKind.wrap .i64 x5), x6⟩ : S_agg_wide).cells) fun h6 =>
  ld_S_agg_wide h6 x4 fun y7 =>
  Q y7 h6
/-- spate/agg.product -/
def F.agg_product (p0 : Int) (p1 : Int) (h : H) (Q : S_agg_wide → H → Prop) : Prop :=
  new h (((⟨0, 0⟩ : S_agg_wide) : S_agg_wide).cells.toArray) ty_123 fun a2 h1 =>
  F.math_bits_Mul64 (IntKind.wrap .u64 p0) (IntKind.wrap .u64 p1) h1 fun r4 r5 h3 =>
  ((decide (p1 < 0)) = true →
  F.agg_product.j1 Q a2 (IntKind.wrap .u64 (r4 - (IntKind.wrap .u64 p0))) r5 h3) ∧
  ((decide (p1 < 0)) = false →
  F.agg_product.j1 Q a2 r4 r5 h3)
theorem F.agg_product_ok {p0 : Int} {p1 : Int} {h : H} {Q : S_agg_wide → H → Prop} (H : F.agg_product p0 p1 h Q) : Fn PP 77 ([(.int .i64 p0), (.int .i64 p1)] : List Value).toArray h fun r h' => ∃ r0, r = (.agg r0.cells.toArray) ∧ Q r0 h' := by
  unfold F.agg_product at H
  refine fn_of Tryz.func77 Tryz.ntmps77 rfl rfl fun w0 => ?_
  refine tr_sub [(0, (.int .i64 p0)), (1, (.int .i64 p1))] ⟨rfl, rfl, trivial⟩ ?_
  refine tr_seq ?_
  refine tr_region ?_
  refine tr_e (f_alloc (cs := ((⟨0, 0⟩ : S_agg_wide) : S_agg_wide).cells.toArray) Tryz.zeroValue123 rfl H) rfl rfl ?_
  rintro _ h1 ⟨a2, rfl, H⟩
  refine tr_nil ?_
  refine tr_thenN ?_
  refine tr_seq ?_
  refine tr_region ?_
  refine tr_p (y_move rfl) rfl rfl ?_
  refine tr_p (y_cvt Tryz.runUnderlying2 Tryz.runUnderlying121 rfl) rfl rfl ?_
  refine tr_p (y_move rfl) rfl rfl ?_
  refine tr_p (y_cvt Tryz.runUnderlying2 Tryz.runUnderlying121 rfl) rfl rfl ?_
  refine tr_e (e_call Tryz.call114 rfl (F.math_bits_Mul64_ok H)) rfl rfl ?_
  rintro _ h3 ⟨r4, r5, rfl, H⟩
  refine tr_p (y_move rfl) rfl rfl ?_
  refine tr_p (y_ext rfl rfl) rfl rfl ?_
  refine tr_p (y_ext rfl rfl) rfl rfl ?_
  refine tr_p (y_assign rfl) rfl rfl ?_
  refine tr_p (y_assign rfl) rfl rfl ?_
  refine tr_nil ?_
  refine tr_thenN ?_
  refine tr_seq_j (fun L' h => ∃ (x4 : Addr) (x5 : Int) (x6 : Int), L' = [(4, (.pointer (some x4))), (5, (.int .u64 x5)), (6, (.int .u64 x6))] ∧ F.agg_product.j1 Q x4 x5 x6 h) ?_ ?_
  · rintro L' h ⟨x4, x5, x6, rfl, H⟩
    unfold F.agg_product.j1 at H
    refine tr_seq ?_
    refine tr_region ?_
    refine tr_p (y_move rfl) rfl rfl ?_
    refine tr_p (y_cvt Tryz.runUnderlying121 Tryz.runUnderlying2 rfl) rfl rfl ?_
    refine tr_p (y_move rfl) rfl rfl ?_
    refine tr_p (f_build rfl (bd_123_0_1 (IntKind.wrap .i64 x5) x6)) rfl rfl ?_
    refine tr_e (f_store (vs := (⟨(IntKind.wrap .i64 x5), x6⟩ : S_agg_wide).cells) Tryz.sizeOf123 rfl rfl cellsOfStruct rfl (by intro v hv; exact ones_S_agg_wide _ v hv) H) rfl rfl ?_
    rintro _ h6 ⟨rfl, H⟩
    refine tr_nil ?_
    refine tr_thenN ?_
    refine tr_ret ?_
    obtain ⟨y7, k8, H⟩ := H
    exact tr_rv1 rfl (rv_cellS Tryz.isAgg123 Tryz.sizeOf123 rfl rfl k8) ⟨_, rfl, H⟩
  · refine tr_seq ?_
    refine tr_region ?_
    refine tr_p (y_move rfl) rfl rfl ?_
    refine tr_p (y_lss rfl rfl) rfl rfl ?_
    refine tr_nil ?_
    refine tr_thenN ?_
    refine tr_cond rfl (fun g9 => ?_) (fun g9 => ?_)
    · replace H := H.1 g9
      refine tr_region ?_
      refine tr_p (y_move rfl) rfl rfl ?_
      refine tr_p (y_move rfl) rfl rfl ?_
      refine tr_p (y_cvt Tryz.runUnderlying2 Tryz.runUnderlying121 rfl) rfl rfl ?_
      refine tr_p (y_sub rfl rfl) rfl rfl ?_
      refine tr_p (y_assign rfl) rfl rfl ?_
      refine tr_nil ?_
      refine tr_thenN ?_
      exact tr_join [(4, (.pointer (some a2))), (5, (.int .u64 (IntKind.wrap .u64 (r4 - (IntKind.wrap .u64 p0))))), (6, (.int .u64 r5))] ⟨rfl, rfl, rfl, trivial⟩ ⟨_, _, _, rfl, H⟩
    · replace H := H.2 g9
      refine tr_skip ?_
      refine tr_thenN ?_
      exact tr_join [(4, (.pointer (some a2))), (5, (.int .u64 r4)), (6, (.int .u64 r5))] ⟨rfl, rfl, rfl, trivial⟩ ⟨_, _, _, rfl, H⟩
/-- (spate/agg.wide).plus -/
def F.agg_wide_plus (p0 : S_agg_wide) (p1 : S_agg_wide) (h : H) (Q : S_agg_wide → H → Prop) : Prop :=
  new h p0.cells.toArray ty_123 fun a2 h1 =>
  new h1 p1.cells.toArray ty_123 fun a4 h3 =>
  new h3 (((⟨0, 0⟩ : S_agg_wide) : S_agg_wide).cells.toArray) ty_123 fun a6 h5 =>
  ldI .u64 h5 (a2.add 1) fun y7 =>
  ldI .u64 h5 (a4.add 1) fun y9 =>
  ldI .i64 h5 (a2.add 0) fun y11 =>
  ldI .i64 h5 (a4.add 0) fun y13 =>
  stH h5 a6 ((⟨(IntKind.wrap .i64 ((IntKind.wrap .i64 (y11 + y13)) + (IntKind.wrap .i64 (a64c y7 y9)))), (a64s y7 y9)⟩ : S_agg_wide).cells) fun h15 =>
  ld_S_agg_wide h15 a6 fun y16 =>
  Q y16 h15
theorem F.agg_wide_plus_ok {p0 : S_agg_wide} {p1 : S_agg_wide} {h : H} {Q : S_agg_wide → H → Prop} (H : F.agg_wide_plus p0 p1 h Q) : Fn PP 78 ([(.agg p0.cells.toArray), (.agg p1.cells.toArray)] : List Value).toArray h fun r h' => ∃ r0, r = (.agg r0.cells.toArray) ∧ Q r0 h' := by
  unfold F.agg_wide_plus at H
  refine fn_of Tryz.func78 Tryz.ntmps78 rfl rfl fun w0 => ?_
  refine tr_sub [(0, (.agg p0.cells.toArray)), (1, (.agg p1.cells.toArray))] ⟨rfl, rfl, trivial⟩ ?_
  refine tr_seq ?_
  refine tr_region ?_
  refine tr_e (f_box (cs := p0.cells.toArray) rfl rfl H) rfl rfl ?_
  rintro _ h1 ⟨a2, rfl, H⟩
  refine tr_e (f_box (cs := p1.cells.toArray) rfl rfl H) rfl rfl ?_
  rintro _ h3 ⟨a4, rfl, H⟩
  refine tr_e (f_alloc (cs := ((⟨0, 0⟩ : S_agg_wide) : S_agg_wide).cells.toArray) Tryz.zeroValue123 rfl H) rfl rfl ?_
  rintro _ h5 ⟨a6, rfl, H⟩
  refine tr_nil ?_
  refine tr_thenN ?_
  refine tr_seq ?_
  refine tr_region ?_
  refine tr_p (y_fa (off := 1) Tryz.runUnderlying123 fo_123_1 rfl) rfl rfl ?_
  obtain ⟨y7, k8, H⟩ := H
  refine tr_h (y_ld Tryz.isAgg121 rfl) k8 rfl rfl ?_
  refine tr_p (y_fa (off := 1) Tryz.runUnderlying123 fo_123_1 rfl) rfl rfl ?_
  obtain ⟨y9, k10, H⟩ := H
  refine tr_h (y_ld Tryz.isAgg121 rfl) k10 rfl rfl ?_
  refine tr_p (y_add64 add64S_115 rfl) rfl rfl ?_
  refine tr_p (y_move rfl) rfl rfl ?_
  refine tr_p (y_ext rfl rfl) rfl rfl ?_
  refine tr_p (y_ext rfl rfl) rfl rfl ?_
  refine tr_p (y_assign rfl) rfl rfl ?_
  refine tr_p (y_assign rfl) rfl rfl ?_
  refine tr_nil ?_
  refine tr_thenN ?_
  refine tr_seq ?_
  refine tr_region ?_
  refine tr_p (y_fa (off := 0) Tryz.runUnderlying123 fo_123_0 rfl) rfl rfl ?_
  obtain ⟨y11, k12, H⟩ := H
  refine tr_h (y_ld Tryz.isAgg2 rfl) k12 rfl rfl ?_
  refine tr_p (y_fa (off := 0) Tryz.runUnderlying123 fo_123_0 rfl) rfl rfl ?_
  obtain ⟨y13, k14, H⟩ := H
  refine tr_h (y_ld Tryz.isAgg2 rfl) k14 rfl rfl ?_
  refine tr_p (y_add rfl rfl) rfl rfl ?_
  refine tr_p (y_move rfl) rfl rfl ?_
  refine tr_p (y_cvt Tryz.runUnderlying121 Tryz.runUnderlying2 rfl) rfl rfl ?_
  refine tr_p (y_add rfl rfl) rfl rfl ?_
  refine tr_p (y_move rfl) rfl rfl ?_
  refine tr_p (f_build rfl (bd_123_0_1 (IntKind.wrap .i64 ((IntKind.wrap .i64 (y11 + y13)) + (IntKind.wrap .i64 (a64c y7 y9)))) (a64s y7 y9))) rfl rfl ?_
  refine tr_e (f_store (vs := (⟨(IntKind.wrap .i64 ((IntKind.wrap .i64 (y11 + y13)) + (IntKind.wrap .i64 (a64c y7 y9)))), (a64s y7 y9)⟩ : S_agg_wide).cells) Tryz.sizeOf123 rfl rfl cellsOfStruct rfl (by intro v hv; exact ones_S_agg_wide _ v hv) H) rfl rfl ?_
  rintro _ h15 ⟨rfl, H⟩
  refine tr_nil ?_
  refine tr_thenN ?_
  refine tr_ret ?_
  obtain ⟨y16, k17, H⟩ := H
  exact tr_rv1 rfl (rv_cellS Tryz.isAgg123 Tryz.sizeOf123 rfl rfl k17) ⟨_, rfl, H⟩
/-- (spate/agg.wide).upto -/
def F.agg_wide_upto (p0 : S_agg_wide) (p1 : S_agg_wide) (h : H) (Q : Bool → H → Prop) : Prop :=
  new h p0.cells.toArray ty_123 fun a2 h1 =>
  new h1 p1.cells.toArray ty_123 fun a4 h3 =>
  ldI .i64 h3 (a2.add 0) fun y5 =>
  ldI .i64 h3 (a4.add 0) fun y7 =>
  ((decide (y5 < y7)) = true →
  Q true h3) ∧
  ((decide (y5 < y7)) = false →
  ldI .i64 h3 (a2.add 0) fun y10 =>
  ldI .i64 h3 (a4.add 0) fun y12 =>
  (((y10 == y12)) = true →
  ldI .u64 h3 (a2.add 1) fun y15 =>
  ldI .u64 h3 (a4.add 1) fun y17 =>
  Q (decide (y15 ≤ y17)) h3) ∧
  (((y10 == y12)) = false →
  Q false h3))
theorem F.agg_wide_upto_ok {p0 : S_agg_wide} {p1 : S_agg_wide} {h : H} {Q : Bool → H → Prop} (H : F.agg_wide_upto p0 p1 h Q) : Fn PP 79 ([(.agg p0.cells.toArray), (.agg p1.cells.toArray)] : List Value).toArray h fun r h' => ∃ r0, r = (.bool r0) ∧ Q r0 h' := by
  unfold F.agg_wide_upto at H
  refine fn_of Tryz.func79 Tryz.ntmps79 rfl rfl fun w0 => ?_
  refine tr_sub [(0, (.agg p0.cells.toArray)), (1, (.agg p1.cells.toArray))] ⟨rfl, rfl, trivial⟩ ?_
  refine tr_seq ?_
  refine tr_region ?_
  refine tr_e (f_box (cs := p0.cells.toArray) rfl rfl H) rfl rfl ?_
  rintro _ h1 ⟨a2, rfl, H⟩
  refine tr_e (f_box (cs := p1.cells.toArray) rfl rfl H) rfl rfl ?_
  rintro _ h3 ⟨a4, rfl, H⟩
  refine tr_p (y_assign rfl) rfl rfl ?_
  refine tr_nil ?_
  refine tr_thenN ?_
  refine tr_seq ?_
  refine tr_region ?_
  refine tr_p (y_fa (off := 0) Tryz.runUnderlying123 fo_123_0 rfl) rfl rfl ?_
  obtain ⟨y5, k6, H⟩ := H
  refine tr_h (y_ld Tryz.isAgg2 rfl) k6 rfl rfl ?_
  refine tr_p (y_fa (off := 0) Tryz.runUnderlying123 fo_123_0 rfl) rfl rfl ?_
  obtain ⟨y7, k8, H⟩ := H
  refine tr_h (y_ld Tryz.isAgg2 rfl) k8 rfl rfl ?_
  refine tr_p (y_lss rfl rfl) rfl rfl ?_
  refine tr_p (y_move rfl) rfl rfl ?_
  refine tr_split (t := 10) rfl (fun g9 => ?_) (fun g9 => ?_)
  · replace H := H.1 g9
    refine tr_s rfl rfl ?_
    refine tr_s rfl rfl ?_
    refine tr_s rfl rfl ?_
    refine tr_s rfl rfl ?_
    refine tr_s rfl rfl ?_
    refine tr_s rfl rfl ?_
    refine tr_s rfl rfl ?_
    refine tr_s rfl rfl ?_
    refine tr_s rfl rfl ?_
    refine tr_s rfl rfl ?_
    refine tr_s rfl rfl ?_
    refine tr_s rfl rfl ?_
    refine tr_p (y_pick_t rfl rfl) rfl rfl ?_
    refine tr_p (y_assign rfl) rfl rfl ?_
    refine tr_nil ?_
    refine tr_thenN ?_
    refine tr_ret ?_
    exact tr_ret1 rfl rfl ⟨_, rfl, H⟩
  · replace H := H.2 g9
    refine tr_p (y_fa (off := 0) Tryz.runUnderlying123 fo_123_0 rfl) rfl rfl ?_
    obtain ⟨y10, k11, H⟩ := H
    refine tr_h (y_ld Tryz.isAgg2 rfl) k11 rfl rfl ?_
    refine tr_p (y_fa (off := 0) Tryz.runUnderlying123 fo_123_0 rfl) rfl rfl ?_
    obtain ⟨y12, k13, H⟩ := H
    refine tr_h (y_ld Tryz.isAgg2 rfl) k13 rfl rfl ?_
    refine tr_p (y_eql rfl rfl) rfl rfl ?_
    refine tr_p (y_move rfl) rfl rfl ?_
    refine tr_split (t := 16) rfl (fun g14 => ?_) (fun g14 => ?_)
    · replace H := H.1 g14
      refine tr_p (y_fa (off := 1) Tryz.runUnderlying123 fo_123_1 rfl) rfl rfl ?_
      obtain ⟨y15, k16, H⟩ := H
      refine tr_h (y_ld Tryz.isAgg121 rfl) k16 rfl rfl ?_
      refine tr_p (y_fa (off := 1) Tryz.runUnderlying123 fo_123_1 rfl) rfl rfl ?_
      obtain ⟨y17, k18, H⟩ := H
      refine tr_h (y_ld Tryz.isAgg121 rfl) k18 rfl rfl ?_
      refine tr_p (y_leq rfl rfl) rfl rfl ?_
      refine tr_p (y_pick_t rfl rfl) rfl rfl ?_
      refine tr_p (y_pick_f rfl rfl) rfl rfl ?_
      refine tr_p (y_assign rfl) rfl rfl ?_
      refine tr_nil ?_
      refine tr_thenN ?_
      refine tr_ret ?_
      exact tr_ret1 rfl rfl ⟨_, rfl, H⟩
    · replace H := H.2 g14
      refine tr_s rfl rfl ?_
      refine tr_s rfl rfl ?_
      refine tr_s rfl rfl ?_
      refine tr_s rfl rfl ?_
      refine tr_s rfl rfl ?_
      refine tr_p (y_pick_f rfl rfl) rfl rfl ?_
      refine tr_p (y_pick_f rfl rfl) rfl rfl ?_
      refine tr_p (y_assign rfl) rfl rfl ?_
      refine tr_nil ?_
      refine tr_thenN ?_
      refine tr_ret ?_
      exact tr_ret1 rfl rfl ⟨_, rfl, H⟩
def F.agg_Right.j1 (Q : Bool → H → Prop) (x1 : Addr) (x3 : Addr) (h : H) : Prop :=
  ldI .i64 h (x1.add 1) fun y25 =>
  F.agg_product 1 y25 h fun r28 h27 =>
  new h27 (((⟨0, 0⟩ : S_agg_wide) : S_agg_wide).cells.toArray) ty_123 fun a30 h29 =>
  stH h29 a30 r28.cells fun h31 =>
  ld_S_agg_wide h31 x3 fun y32 =>
  ldI .i64 h31 (x1.add 0) fun y34 =>
  ldI .i64 h31 (x1.add 2) fun y36 =>
  ld_S_agg_wide h31 a30 fun y38 =>
  F.agg_product (IntKind.wrap .i64 (y34 - 2)) y36 h31 fun r41 h40 =>
  Cells h40 a30 y38.cells ∧
  Cells h40 x3 y32.cells ∧
  F.agg_wide_plus y32 r41 h40 fun r45 h44 =>
  Cells h44 a30 y38.cells ∧
  F.agg_wide_upto r45 y38 h44 fun r48 h47 =>
  (r48 = true →
  ld_S_agg_wide h47 a30 fun y50 =>
  ld_S_agg_wide h47 x3 fun y52 =>
  ldI .i64 h47 (x1.add 0) fun y54 =>
  ldI .i64 h47 (x1.add 3) fun y56 =>
  F.agg_product (IntKind.wrap .i64 (y54 - 2)) y56 h47 fun r59 h58 =>
  Cells h58 x3 y52.cells ∧
  Cells h58 a30 y50.cells ∧
  F.agg_wide_plus y52 r59 h58 fun r63 h62 =>
  Cells h62 a30 y50.cells ∧
  F.agg_wide_upto y50 r63 h62 fun r66 h65 =>
  Q r66 h65) ∧
  (r48 = false →
  Q false h47)
/-- spate/agg.Right -/
def F.agg_Right (p0 : S_api_Agg) (h : H) (Q : Bool → H → Prop) : Prop :=
  new h p0.cells.toArray ty_34 fun a2 h1 =>
  ldI .i64 h1 (a2.add 0) fun y3 =>
  ((decide (y3 ≤ 0)) = true →
  ld_S_api_Agg h1 a2 fun y6 =>
  Q ((y6.Count == (⟨0, 0, 0, 0⟩ : S_api_Agg).Count) && ((y6.Sum == (⟨0, 0, 0, 0⟩ : S_api_Agg).Sum) && ((y6.Min == (⟨0, 0, 0, 0⟩ : S_api_Agg).Min) && ((y6.Max == (⟨0, 0, 0, 0⟩ : S_api_Agg).Max) && true)))) h1) ∧
  ((decide (y3 ≤ 0)) = false →
  ldI .i64 h1 (a2.add 0) fun y8 =>
  (((y8 == 1)) = true →
  ldI .i64 h1 (a2.add 2) fun y11 =>
  ldI .i64 h1 (a2.add 1) fun y13 =>
  (((y11 == y13)) = true →
  ldI .i64 h1 (a2.add 3) fun y16 =>
  ldI .i64 h1 (a2.add 1) fun y18 =>
  Q ((y16 == y18)) h1) ∧
  (((y11 == y13)) = false →
  Q false h1)) ∧
  (((y8 == 1)) = false →
  ldI .i64 h1 (a2.add 2) fun y20 =>
  ldI .i64 h1 (a2.add 3) fun y22 =>
  ((decide (y20 > y22)) = true →
  Q false h1) ∧
  ((decide (y20 > y22)) = false →
  ldI .i64 h1 (a2.add 2) fun y67 =>
  ldI .i64 h1 (a2.add 3) fun y69 =>
  (F.agg_product 1 y67 h1 fun r72 h71 =>
  cellH h71 (a2.add 3) = some (.int .i64 y69) ∧
  (F.agg_product 1 y69 h71 fun r75 h74 =>
  (F.agg_wide_plus r72 r75 h74 fun r77 h76 =>
  new h76 (((⟨0, 0⟩ : S_agg_wide) : S_agg_wide).cells.toArray) ty_123 fun a79 h78 =>
  stH h78 a79 r77.cells fun h80 =>
  F.agg_Right.j1 Q a2 a79 h80) ∧
  (new h74 (((⟨0, 0⟩ : S_agg_wide) : S_agg_wide).cells.toArray) ty_123 fun a82 h81 =>
  F.agg_wide_plus r72 r75 h81 fun r84 h83 =>
  stH h83 a82 r84.cells fun h85 =>
  F.agg_Right.j1 Q a2 a82 h85)) ∧
  (new h71 (((⟨0, 0⟩ : S_agg_wide) : S_agg_wide).cells.toArray) ty_123 fun a87 h86 =>
  cellH h86 (a2.add 3) = some (.int .i64 y69) ∧
  F.agg_product 1 y69 h86 fun r90 h89 =>
  F.agg_wide_plus r72 r90 h89 fun r92 h91 =>
  stH h91 a87 r92.cells fun h93 =>
  F.agg_Right.j1 Q a2 a87 h93)) ∧
  (new h1 (((⟨0, 0⟩ : S_agg_wide) : S_agg_wide).cells.toArray) ty_123 fun a95 h94 =>
  cellH h94 (a2.add 3) = some (.int .i64 y69) ∧
  cellH h94 (a2.add 2) = some (.int .i64 y67) ∧
  F.agg_product 1 y67 h94 fun r99 h98 =>
  cellH h98 (a2.add 3) = some (.int .i64 y69) ∧
  F.agg_product 1 y69 h98 fun r102 h101 =>
  F.agg_wide_plus r99 r102 h101 fun r104 h103 =>
  stH h103 a95 r104.cells fun h105 =>
  F.agg_Right.j1 Q a2 a95 h105))))
theorem F.agg_Right_ok {p0 : S_api_Agg} {h : H} {Q : Bool → H → Prop} (H : F.agg_Right p0 h Q) : Fn PP 40 ([(.agg p0.cells.toArray)] : List Value).toArray h fun r h' => ∃ r0, r = (.bool r0) ∧ Q r0 h' := by
  unfold F.agg_Right at H
  refine fn_of Tryz.func40 Tryz.ntmps40 rfl rfl fun w0 => ?_
  refine tr_sub [(0, (.agg p0.cells.toArray))] ⟨rfl, trivial⟩ ?_
  refine tr_seq ?_
  refine tr_region ?_
  refine tr_e (f_box (cs := p0.cells.toArray) rfl rfl H) rfl rfl ?_
  rintro _ h1 ⟨a2, rfl, H⟩
  refine tr_p (y_assign rfl) rfl rfl ?_
  refine tr_nil ?_
  refine tr_thenN ?_
  refine tr_seq ?_
  refine tr_block ?_
  refine tr_seq ?_
  refine tr_region ?_
  refine tr_p (y_fa (off := 0) Tryz.runUnderlying34 fo_34_0 rfl) rfl rfl ?_
  obtain ⟨y3, k4, H⟩ := H
  refine tr_h (y_ld Tryz.isAgg2 rfl) k4 rfl rfl ?_
  refine tr_p (y_leq rfl rfl) rfl rfl ?_
  refine tr_p (y_assign rfl) rfl rfl ?_
  refine tr_nil ?_
  refine tr_thenN ?_
  refine tr_cond rfl (fun g5 => ?_) (fun g5 => ?_)
  · replace H := H.1 g5
    refine tr_seq ?_
    refine tr_region ?_
    obtain ⟨y6, k7, H⟩ := H
    refine tr_h (y_ldS Tryz.isAgg34 Tryz.sizeOf34 rfl rfl) k7 rfl rfl ?_
    refine tr_p (f_build rfl (bd_34_ )) rfl rfl ?_
    refine tr_p (st_eql (b := ((y6.Count == (⟨0, 0, 0, 0⟩ : S_api_Agg).Count) && ((y6.Sum == (⟨0, 0, 0, 0⟩ : S_api_Agg).Sum) && ((y6.Min == (⟨0, 0, 0, 0⟩ : S_api_Agg).Min) && ((y6.Max == (⟨0, 0, 0, 0⟩ : S_api_Agg).Max) && true))))) eqg_34 (fun w => eqst_34 y6 (⟨0, 0, 0, 0⟩ : S_api_Agg) 9998 w) rfl rfl) rfl rfl ?_
    refine tr_p (y_assign rfl) rfl rfl ?_
    refine tr_nil ?_
    refine tr_thenN ?_
    refine tr_ret ?_
    refine tr_blockR ?_
    refine tr_thenR ?_
    exact tr_ret1 rfl rfl ⟨_, rfl, H⟩
  · replace H := H.2 g5
    refine tr_seq ?_
    refine tr_region ?_
    refine tr_p (y_fa (off := 0) Tryz.runUnderlying34 fo_34_0 rfl) rfl rfl ?_
    obtain ⟨y8, k9, H⟩ := H
    refine tr_h (y_ld Tryz.isAgg2 rfl) k9 rfl rfl ?_
    refine tr_p (y_eql rfl rfl) rfl rfl ?_
    refine tr_p (y_assign rfl) rfl rfl ?_
    refine tr_nil ?_
    refine tr_thenN ?_
    refine tr_cond rfl (fun g10 => ?_) (fun g10 => ?_)
    · replace H := H.1 g10
      refine tr_seq ?_
      refine tr_region ?_
      refine tr_p (y_fa (off := 2) Tryz.runUnderlying34 fo_34_2 rfl) rfl rfl ?_
      obtain ⟨y11, k12, H⟩ := H
      refine tr_h (y_ld Tryz.isAgg2 rfl) k12 rfl rfl ?_
      refine tr_p (y_fa (off := 1) Tryz.runUnderlying34 fo_34_1 rfl) rfl rfl ?_
      obtain ⟨y13, k14, H⟩ := H
      refine tr_h (y_ld Tryz.isAgg2 rfl) k14 rfl rfl ?_
      refine tr_p (y_eql rfl rfl) rfl rfl ?_
      refine tr_p (y_move rfl) rfl rfl ?_
      refine tr_split (t := 21) rfl (fun g15 => ?_) (fun g15 => ?_)
      · replace H := H.1 g15
        refine tr_p (y_fa (off := 3) Tryz.runUnderlying34 fo_34_3 rfl) rfl rfl ?_
        obtain ⟨y16, k17, H⟩ := H
        refine tr_h (y_ld Tryz.isAgg2 rfl) k17 rfl rfl ?_
        refine tr_p (y_fa (off := 1) Tryz.runUnderlying34 fo_34_1 rfl) rfl rfl ?_
        obtain ⟨y18, k19, H⟩ := H
        refine tr_h (y_ld Tryz.isAgg2 rfl) k19 rfl rfl ?_
        refine tr_p (y_eql rfl rfl) rfl rfl ?_
        refine tr_p (y_pick_t rfl rfl) rfl rfl ?_
        refine tr_p (y_assign rfl) rfl rfl ?_
        refine tr_nil ?_
        refine tr_thenN ?_
        refine tr_ret ?_
        refine tr_blockR ?_
        refine tr_thenR ?_
        exact tr_ret1 rfl rfl ⟨_, rfl, H⟩
      · replace H := H.2 g15
        refine tr_s rfl rfl ?_
        refine tr_s rfl rfl ?_
        refine tr_s rfl rfl ?_
        refine tr_s rfl rfl ?_
        refine tr_s rfl rfl ?_
        refine tr_p (y_pick_f rfl rfl) rfl rfl ?_
        refine tr_p (y_assign rfl) rfl rfl ?_
        refine tr_nil ?_
        refine tr_thenN ?_
        refine tr_ret ?_
        refine tr_blockR ?_
        refine tr_thenR ?_
        exact tr_ret1 rfl rfl ⟨_, rfl, H⟩
    · replace H := H.2 g10
      refine tr_seq ?_
      refine tr_region ?_
      refine tr_p (y_fa (off := 2) Tryz.runUnderlying34 fo_34_2 rfl) rfl rfl ?_
      obtain ⟨y20, k21, H⟩ := H
      refine tr_h (y_ld Tryz.isAgg2 rfl) k21 rfl rfl ?_
      refine tr_p (y_fa (off := 3) Tryz.runUnderlying34 fo_34_3 rfl) rfl rfl ?_
      obtain ⟨y22, k23, H⟩ := H
      refine tr_h (y_ld Tryz.isAgg2 rfl) k23 rfl rfl ?_
      refine tr_p (y_gtr rfl rfl) rfl rfl ?_
      refine tr_p (y_assign rfl) rfl rfl ?_
      refine tr_nil ?_
      refine tr_thenN ?_
      refine tr_cond rfl (fun g24 => ?_) (fun g24 => ?_)
      · replace H := H.1 g24
        refine tr_seq ?_
        refine tr_region ?_
        refine tr_p (y_assign rfl) rfl rfl ?_
        refine tr_nil ?_
        refine tr_thenN ?_
        refine tr_ret ?_
        refine tr_blockR ?_
        refine tr_thenR ?_
        exact tr_ret1 rfl rfl ⟨_, rfl, H⟩
      · replace H := H.2 g24
        refine tr_skip ?_
        refine tr_blockN ?_
        refine tr_thenN ?_
        refine tr_seq_j (fun L' h => ∃ (x1 : Addr) (x3 : Addr), L' = [(1, (.pointer (some x1))), (3, (.pointer (some x3)))] ∧ F.agg_Right.j1 Q x1 x3 h) ?_ ?_
        · rintro L' h ⟨x1, x3, rfl, H⟩
          unfold F.agg_Right.j1 at H
          refine tr_seq ?_
          refine tr_region ?_
          refine tr_p (y_fa (off := 1) Tryz.runUnderlying34 fo_34_1 rfl) rfl rfl ?_
          obtain ⟨y25, k26, H⟩ := H
          refine tr_h (y_ld Tryz.isAgg2 rfl) k26 rfl rfl ?_
          refine tr_e (e_call Tryz.call77 rfl (F.agg_product_ok H)) rfl rfl ?_
          rintro _ h27 ⟨r28, rfl, H⟩
          refine tr_e (f_alloc (cs := ((⟨0, 0⟩ : S_agg_wide) : S_agg_wide).cells.toArray) Tryz.zeroValue123 rfl H) rfl rfl ?_
          rintro _ h29 ⟨a30, rfl, H⟩
          refine tr_e (f_store (vs := r28.cells) Tryz.sizeOf123 rfl rfl cellsOfStruct rfl (by intro v hv; exact ones_S_agg_wide _ v hv) H) rfl rfl ?_
          rintro _ h31 ⟨rfl, H⟩
          refine tr_nil ?_
          refine tr_thenN ?_
          refine tr_seq ?_
          refine tr_draw mixed [0, 0, 2, 6, 0, 16, 62, 127, 0, 511, 1023, 2047, 2047, 2047, 10239, 26623, 2047, 67583, 255999, 522239, 1048575, 2097151, 4194303] (by kernel_rfl) ?_
          obtain ⟨y32, k33, H⟩ := H
          refine g_h 0 1 rfl (by kernel_rfl) (y_ldS Tryz.isAgg123 Tryz.sizeOf123 rfl rfl) k33 rfl rfl ?_
          refine g_p 1 3 rfl (by kernel_rfl) (y_fa (off := 0) Tryz.runUnderlying34 fo_34_0 rfl) rfl rfl ?_
          obtain ⟨y34, k35, H⟩ := H
          refine g_h 2 7 rfl (by kernel_rfl) (y_ld Tryz.isAgg2 rfl) k35 rfl rfl ?_
          refine g_p 3 15 rfl (by kernel_rfl) (y_sub rfl rfl) rfl rfl ?_
          refine g_p 4 31 rfl (by kernel_rfl) (y_fa (off := 2) Tryz.runUnderlying34 fo_34_2 rfl) rfl rfl ?_
          obtain ⟨y36, k37, H⟩ := H
          refine g_h 5 63 rfl (by kernel_rfl) (y_ld Tryz.isAgg2 rfl) k37 rfl rfl ?_
          obtain ⟨y38, k39, H⟩ := H
          refine g_h 8 319 rfl (by kernel_rfl) (y_ldS Tryz.isAgg123 Tryz.sizeOf123 rfl rfl) k39 rfl rfl ?_
          refine g_e 6 383 [(8, fun h => Cells h a30 y38.cells), (0, fun h => Cells h x3 y32.cells)] (by kernel_rfl) rfl (by kernel_rfl) (e_call Tryz.call77 rfl (F.agg_product_ok H)) rfl rfl ?_
          rintro _ h40 ⟨r41, rfl, H⟩
          obtain ⟨k42, k43, H⟩ := H
          refine ⟨And.intro k42 (And.intro k43 trivial), ?_⟩
          refine g_e 7 511 [(8, fun h => Cells h a30 y38.cells)] (by kernel_rfl) rfl (by kernel_rfl) (e_call Tryz.call78 rfl (F.agg_wide_plus_ok H)) rfl rfl ?_
          rintro _ h44 ⟨r45, rfl, H⟩
          obtain ⟨k46, H⟩ := H
          refine ⟨And.intro k46 trivial, ?_⟩
          refine g_e 9 1023 [] (by kernel_rfl) rfl (by kernel_rfl) (e_call Tryz.call79 rfl (F.agg_wide_upto_ok H)) rfl rfl ?_
          rintro _ h47 ⟨r48, rfl, H⟩
          refine ⟨trivial, ?_⟩
          refine g_p 10 2047 rfl (by kernel_rfl) (y_move rfl) rfl rfl ?_
          refine g_split (t := 54) rfl (fun g49 => ?_) (fun g49 => ?_)
          · replace H := H.1 g49
            obtain ⟨y50, k51, H⟩ := H
            refine g_h 11 4095 rfl (by kernel_rfl) (y_ldS Tryz.isAgg123 Tryz.sizeOf123 rfl rfl) k51 rfl rfl ?_
            obtain ⟨y52, k53, H⟩ := H
            refine g_h 12 8191 rfl (by kernel_rfl) (y_ldS Tryz.isAgg123 Tryz.sizeOf123 rfl rfl) k53 rfl rfl ?_
            refine g_p 13 16383 rfl (by kernel_rfl) (y_fa (off := 0) Tryz.runUnderlying34 fo_34_0 rfl) rfl rfl ?_
            obtain ⟨y54, k55, H⟩ := H
            refine g_h 14 32767 rfl (by kernel_rfl) (y_ld Tryz.isAgg2 rfl) k55 rfl rfl ?_
            refine g_p 15 65535 rfl (by kernel_rfl) (y_sub rfl rfl) rfl rfl ?_
            refine g_p 16 131071 rfl (by kernel_rfl) (y_fa (off := 3) Tryz.runUnderlying34 fo_34_3 rfl) rfl rfl ?_
            obtain ⟨y56, k57, H⟩ := H
            refine g_h 17 262143 rfl (by kernel_rfl) (y_ld Tryz.isAgg2 rfl) k57 rfl rfl ?_
            refine g_e 18 524287 [(12, fun h => Cells h x3 y52.cells), (11, fun h => Cells h a30 y50.cells)] (by kernel_rfl) rfl (by kernel_rfl) (e_call Tryz.call77 rfl (F.agg_product_ok H)) rfl rfl ?_
            rintro _ h58 ⟨r59, rfl, H⟩
            obtain ⟨k60, k61, H⟩ := H
            refine ⟨And.intro k60 (And.intro k61 trivial), ?_⟩
            refine g_e 19 1048575 [(11, fun h => Cells h a30 y50.cells)] (by kernel_rfl) rfl (by kernel_rfl) (e_call Tryz.call78 rfl (F.agg_wide_plus_ok H)) rfl rfl ?_
            rintro _ h62 ⟨r63, rfl, H⟩
            obtain ⟨k64, H⟩ := H
            refine ⟨And.intro k64 trivial, ?_⟩
            refine g_e 20 2097151 [] (by kernel_rfl) rfl (by kernel_rfl) (e_call Tryz.call79 rfl (F.agg_wide_upto_ok H)) rfl rfl ?_
            rintro _ h65 ⟨r66, rfl, H⟩
            refine ⟨trivial, ?_⟩
            refine g_p 21 4194303 rfl (by kernel_rfl) (y_pick_t rfl rfl) rfl rfl ?_
            refine g_p 22 8388607 rfl (by kernel_rfl) (y_assign rfl) rfl rfl ?_
            refine g_d (by kernel_rfl) ?_
            refine tr_thenN ?_
            refine tr_ret ?_
            exact tr_ret1 rfl rfl ⟨_, rfl, H⟩
          · replace H := H.2 g49
            refine g_s 11 4095 rfl (by kernel_rfl) rfl rfl ?_
            refine g_s 12 8191 rfl (by kernel_rfl) rfl rfl ?_
            refine g_s 13 16383 rfl (by kernel_rfl) rfl rfl ?_
            refine g_s 14 32767 rfl (by kernel_rfl) rfl rfl ?_
            refine g_s 15 65535 rfl (by kernel_rfl) rfl rfl ?_
            refine g_s 16 131071 rfl (by kernel_rfl) rfl rfl ?_
            refine g_s 17 262143 rfl (by kernel_rfl) rfl rfl ?_
            refine g_s 18 524287 rfl (by kernel_rfl) rfl rfl ?_
            refine g_s 19 1048575 rfl (by kernel_rfl) rfl rfl ?_
            refine g_s 20 2097151 rfl (by kernel_rfl) rfl rfl ?_
            refine g_p 21 4194303 rfl (by kernel_rfl) (y_pick_f rfl rfl) rfl rfl ?_
            refine g_p 22 8388607 rfl (by kernel_rfl) (y_assign rfl) rfl rfl ?_
            refine g_d (by kernel_rfl) ?_
            refine tr_thenN ?_
            refine tr_ret ?_
            exact tr_ret1 rfl rfl ⟨_, rfl, H⟩
        · refine tr_draw mixed [0, 1, 3, 0, 8, 31, 63, 0, 255] (by kernel_rfl) ?_
          refine g_p 0 1 rfl (by kernel_rfl) (y_fa (off := 2) Tryz.runUnderlying34 fo_34_2 rfl) rfl rfl ?_
          obtain ⟨y67, k68, H⟩ := H
          refine g_h 1 3 rfl (by kernel_rfl) (y_ld Tryz.isAgg2 rfl) k68 rfl rfl ?_
          refine g_p 3 11 rfl (by kernel_rfl) (y_fa (off := 3) Tryz.runUnderlying34 fo_34_3 rfl) rfl rfl ?_
          obtain ⟨y69, k70, H⟩ := H
          refine g_h 4 27 rfl (by kernel_rfl) (y_ld Tryz.isAgg2 rfl) k70 rfl rfl ?_
          refine g_e2 2 31 7 155 [(4, fun h => cellH h (a2.add 3) = some (.int .i64 y69))] [(4, fun h => cellH h (a2.add 3) = some (.int .i64 y69)), (1, fun h => cellH h (a2.add 2) = some (.int .i64 y67))] (by kernel_rfl) (by kernel_rfl) (by kernel_rfl) (by kernel_rfl) (by kernel_rfl) rfl rfl rfl rfl rfl rfl ?_ ?_
          · replace H := H.1
            refine ⟨_, (e_call Tryz.call77 rfl (F.agg_product_ok H)), ?_⟩
            rintro _ h71 ⟨r72, rfl, H⟩
            obtain ⟨k73, H⟩ := H
            refine ⟨And.intro k73 trivial, ?_⟩
            refine g_e2 5 63 7 159 [] [(4, fun h => cellH h (a2.add 3) = some (.int .i64 y69))] (by kernel_rfl) (by kernel_rfl) (by kernel_rfl) (by kernel_rfl) (by kernel_rfl) rfl rfl rfl rfl rfl rfl ?_ ?_
            · replace H := H.1
              refine ⟨_, (e_call Tryz.call77 rfl (F.agg_product_ok H)), ?_⟩
              rintro _ h74 ⟨r75, rfl, H⟩
              refine ⟨trivial, ?_⟩
              refine g_e2 6 127 7 191 [] [] (by kernel_rfl) (by kernel_rfl) (by kernel_rfl) (by kernel_rfl) (by kernel_rfl) rfl rfl rfl rfl rfl rfl ?_ ?_
              · replace H := H.1
                refine ⟨_, (e_call Tryz.call78 rfl (F.agg_wide_plus_ok H)), ?_⟩
                rintro _ h76 ⟨r77, rfl, H⟩
                refine ⟨trivial, ?_⟩
                refine g_e 7 255 [] (by kernel_rfl) rfl (by kernel_rfl) (f_alloc (cs := ((⟨0, 0⟩ : S_agg_wide) : S_agg_wide).cells.toArray) Tryz.zeroValue123 rfl H) rfl rfl ?_
                rintro _ h78 ⟨a79, rfl, H⟩
                refine ⟨trivial, ?_⟩
                refine g_e 8 511 [] (by kernel_rfl) rfl (by kernel_rfl) (f_store (vs := r77.cells) Tryz.sizeOf123 rfl rfl cellsOfStruct rfl (by intro v hv; exact ones_S_agg_wide _ v hv) H) rfl rfl ?_
                rintro _ h80 ⟨rfl, H⟩
                refine ⟨trivial, ?_⟩
                refine g_d (by kernel_rfl) ?_
                refine tr_thenN ?_
                exact tr_join [(1, (.pointer (some a2))), (3, (.pointer (some a79)))] ⟨rfl, rfl, trivial⟩ ⟨_, _, rfl, H⟩
              · replace H := H.2
                refine ⟨_, (f_alloc (cs := ((⟨0, 0⟩ : S_agg_wide) : S_agg_wide).cells.toArray) Tryz.zeroValue123 rfl H), ?_⟩
                rintro _ h81 ⟨a82, rfl, H⟩
                refine ⟨trivial, ?_⟩
                refine g_e 6 255 [] (by kernel_rfl) rfl (by kernel_rfl) (e_call Tryz.call78 rfl (F.agg_wide_plus_ok H)) rfl rfl ?_
                rintro _ h83 ⟨r84, rfl, H⟩
                refine ⟨trivial, ?_⟩
                refine g_e 8 511 [] (by kernel_rfl) rfl (by kernel_rfl) (f_store (vs := r84.cells) Tryz.sizeOf123 rfl rfl cellsOfStruct rfl (by intro v hv; exact ones_S_agg_wide _ v hv) H) rfl rfl ?_
                rintro _ h85 ⟨rfl, H⟩
                refine ⟨trivial, ?_⟩
                refine g_d (by kernel_rfl) ?_
                refine tr_thenN ?_
                exact tr_join [(1, (.pointer (some a2))), (3, (.pointer (some a82)))] ⟨rfl, rfl, trivial⟩ ⟨_, _, rfl, H⟩
            · replace H := H.2
              refine ⟨_, (f_alloc (cs := ((⟨0, 0⟩ : S_agg_wide) : S_agg_wide).cells.toArray) Tryz.zeroValue123 rfl H), ?_⟩
              rintro _ h86 ⟨a87, rfl, H⟩
              obtain ⟨k88, H⟩ := H
              refine ⟨And.intro k88 trivial, ?_⟩
              refine g_e 5 191 [] (by kernel_rfl) rfl (by kernel_rfl) (e_call Tryz.call77 rfl (F.agg_product_ok H)) rfl rfl ?_
              rintro _ h89 ⟨r90, rfl, H⟩
              refine ⟨trivial, ?_⟩
              refine g_e 6 255 [] (by kernel_rfl) rfl (by kernel_rfl) (e_call Tryz.call78 rfl (F.agg_wide_plus_ok H)) rfl rfl ?_
              rintro _ h91 ⟨r92, rfl, H⟩
              refine ⟨trivial, ?_⟩
              refine g_e 8 511 [] (by kernel_rfl) rfl (by kernel_rfl) (f_store (vs := r92.cells) Tryz.sizeOf123 rfl rfl cellsOfStruct rfl (by intro v hv; exact ones_S_agg_wide _ v hv) H) rfl rfl ?_
              rintro _ h93 ⟨rfl, H⟩
              refine ⟨trivial, ?_⟩
              refine g_d (by kernel_rfl) ?_
              refine tr_thenN ?_
              exact tr_join [(1, (.pointer (some a2))), (3, (.pointer (some a87)))] ⟨rfl, rfl, trivial⟩ ⟨_, _, rfl, H⟩
          · replace H := H.2
            refine ⟨_, (f_alloc (cs := ((⟨0, 0⟩ : S_agg_wide) : S_agg_wide).cells.toArray) Tryz.zeroValue123 rfl H), ?_⟩
            rintro _ h94 ⟨a95, rfl, H⟩
            obtain ⟨k96, k97, H⟩ := H
            refine ⟨And.intro k96 (And.intro k97 trivial), ?_⟩
            refine g_e 2 159 [(4, fun h => cellH h (a2.add 3) = some (.int .i64 y69))] (by kernel_rfl) rfl (by kernel_rfl) (e_call Tryz.call77 rfl (F.agg_product_ok H)) rfl rfl ?_
            rintro _ h98 ⟨r99, rfl, H⟩
            obtain ⟨k100, H⟩ := H
            refine ⟨And.intro k100 trivial, ?_⟩
            refine g_e 5 191 [] (by kernel_rfl) rfl (by kernel_rfl) (e_call Tryz.call77 rfl (F.agg_product_ok H)) rfl rfl ?_
            rintro _ h101 ⟨r102, rfl, H⟩
            refine ⟨trivial, ?_⟩
            refine g_e 6 255 [] (by kernel_rfl) rfl (by kernel_rfl) (e_call Tryz.call78 rfl (F.agg_wide_plus_ok H)) rfl rfl ?_
            rintro _ h103 ⟨r104, rfl, H⟩
            refine ⟨trivial, ?_⟩
            refine g_e 8 511 [] (by kernel_rfl) rfl (by kernel_rfl) (f_store (vs := r104.cells) Tryz.sizeOf123 rfl rfl cellsOfStruct rfl (by intro v hv; exact ones_S_agg_wide _ v hv) H) rfl rfl ?_
            rintro _ h105 ⟨rfl, H⟩
            refine ⟨trivial, ?_⟩
            refine g_d (by kernel_rfl) ?_
            refine tr_thenN ?_
            exact tr_join [(1, (.pointer (some a2))), (3, (.pointer (some a95)))] ⟨rfl, rfl, trivial⟩ ⟨_, _, rfl, H⟩
def F.shard_Shard_Put.j3 (Q : Int → H → Prop) (x0 : Option Addr) (x1 : Int) (x5 : Addr) (x9 : Option Addr) (x11 : Bool) (h : H) : Prop :=
  ld_S_api_Agg h (x5.add 3) fun y31 =>
  F.chain_Chain_api_Agg_Put x9 x1 y31 h fun r34 r35 h33 =>
  nn x0 fun a36 =>
  ldI .i64 h33 ((a36.add 0).add 0) fun y38 =>
  nn x0 fun a40 =>
  stH h33 ((a40.add 0).add 0) [(.int .i64 (IntKind.wrap .i64 (y38 + r34)))] fun h42 =>
  ((!x11) = true →
  nn x0 fun a44 =>
  ldI .i64 h42 ((a44.add 0).add 0) fun y46 =>
  nn x0 fun a48 =>
  stH h42 ((a48.add 0).add 0) [(.int .i64 (IntKind.wrap .i64 (y46 + 1)))] fun h50 =>
  nn x0 fun a51 =>
  ldI .i64 h50 ((a51.add 0).add 1) fun y53 =>
  nn x0 fun a55 =>
  stH h50 ((a55.add 0).add 1) [(.int .i64 (IntKind.wrap .i64 (y53 + 1)))] fun h57 =>
  Q 0 h57) ∧
  ((!x11) = false →
  Q 0 h42)
def F.shard_Shard_Put.j2 (Q : Int → H → Prop) (x0 : Option Addr) (x1 : Int) (x5 : Addr) (x7 : ByteArray) (x9 : Option Addr) (x10 : Bool) (x11 : Bool) (h : H) : Prop :=
  nn x0 fun a16 =>
  ldI .i64 h ((a16.add 0).add 0) fun y18 =>
  ld_S_api_Cell h (x5.add 0) fun y20 =>
  nn x0 fun a22 =>
  ldI .i64 h ((a22.add 0).add 2) fun y24 =>
  F.shard_Shard_need x0 x1 y20 h fun r27 h26 =>
  cellH h26 ((a22.add 0).add 2) = some (.int .i64 y24) ∧
  cellH h26 ((a16.add 0).add 0) = some (.int .i64 y18) ∧
  ((decide ((IntKind.wrap .i64 (y18 + r27)) > y24)) = true →
  Q 31 h26) ∧
  ((decide ((IntKind.wrap .i64 (y18 + r27)) > y24)) = false →
  ((!x10) = true →
  F.chain_New_api_Agg  h26 fun r60 h59 =>
  nn x0 fun a61 =>
  ldP h59 (a61.add 3) fun y63 =>
  F.table_Table_chain_Chain_api_Agg_Put y63 x7 r60 h59 fun h65 =>
  F.shard_Shard_Put.j3 Q x0 x1 x5 r60 x11 h65) ∧
  ((!x10) = false →
  F.shard_Shard_Put.j3 Q x0 x1 x5 x9 x11 h26))
def F.shard_Shard_Put.j1 (Q : Int → H → Prop) (x0 : Option Addr) (x1 : Int) (x5 : Addr) (x7 : ByteArray) (h : H) : Prop :=
  nn x0 fun a9 =>
  ldP h (a9.add 3) fun y11 =>
  F.table_Table_chain_Chain_api_Agg_Get y11 x7 h fun r14 r15 h13 =>
  (r15 = true →
  F.chain_Chain_api_Agg_Newest r14 h13 fun r68 r69 r70 h67 =>
  ((decide (r69 > x1)) = true →
  Q 32 h67) ∧
  ((decide (r69 > x1)) = false →
  F.shard_Shard_Put.j2 Q x0 x1 x5 x7 r14 r15 r70 h67)) ∧
  (r15 = false →
  F.shard_Shard_Put.j2 Q x0 x1 x5 x7 r14 r15 false h13)
def F.shard_Shard_Put.j4 (Q : Int → H → Prop) (x0 : Option Addr) (x1 : Int) (x5 : Addr) (x7 : ByteArray) (x41 : Bool) (h : H) : Prop :=
  (x41 = true →
  Q 1 h) ∧
  (x41 = false →
  F.shard_Shard_Put.j1 Q x0 x1 x5 x7 h)
/-- (*spate/shard.Shard).Put -/
def F.shard_Shard_Put (p0 : Option Addr) (p1 : Int) (p2 : S_api_Row) (h : H) (Q : Int → H → Prop) : Prop :=
  new h p2.cells.toArray ty_51 fun a2 h1 =>
  ld_S_api_Cell h1 (a2.add 0) fun y3 =>
  F.shard_key y3 h1 fun r6 r7 h5 =>
  (((r7 != 0)) = true →
  Q r7 h5) ∧
  (((r7 != 0)) = false →
  ((decide (p1 < 1)) = true →
  F.shard_Shard_Put.j4 Q p0 p1 a2 r6 true h5) ∧
  ((decide (p1 < 1)) = false →
  ((decide (p1 > 1099511627776)) = true →
  F.shard_Shard_Put.j4 Q p0 p1 a2 r6 true h5) ∧
  ((decide (p1 > 1099511627776)) = false →
  ldI .i64 h5 ((a2.add 3).add 0) fun y75 =>
  (((y75 == 0)) = true →
  F.shard_Shard_Put.j4 Q p0 p1 a2 r6 true h5) ∧
  (((y75 == 0)) = false →
  ld_S_api_Agg h5 (a2.add 3) fun y78 =>
  F.agg_Right y78 h5 fun r81 h80 =>
  F.shard_Shard_Put.j4 Q p0 p1 a2 r6 (!r81) h80))))
theorem F.shard_Shard_Put_ok {p0 : Option Addr} {p1 : Int} {p2 : S_api_Row} {h : H} {Q : Int → H → Prop} (H : F.shard_Shard_Put p0 p1 p2 h Q) : Fn PP 16 ([(.pointer p0), (.int .i64 p1), (.agg p2.cells.toArray)] : List Value).toArray h fun r h' => ∃ r0, r = (.int .i64 r0) ∧ Q r0 h' := by
  unfold F.shard_Shard_Put at H
  refine fn_of Tryz.func16 Tryz.ntmps16 rfl rfl fun w0 => ?_
  refine tr_sub [(0, (.pointer p0)), (1, (.int .i64 p1)), (2, (.agg p2.cells.toArray))] ⟨rfl, rfl, rfl, trivial⟩ ?_
  refine tr_seq ?_
  refine tr_region ?_
  refine tr_e (f_box (cs := p2.cells.toArray) rfl rfl H) rfl rfl ?_
  rintro _ h1 ⟨a2, rfl, H⟩
  refine tr_p (y_assign rfl) rfl rfl ?_
  refine tr_nil ?_
  refine tr_thenN ?_
  refine tr_seq ?_
  refine tr_region ?_
  refine tr_p (y_fa (off := 0) Tryz.runUnderlying51 fo_51_0 rfl) rfl rfl ?_
  obtain ⟨y3, k4, H⟩ := H
  refine tr_h (y_ldS Tryz.isAgg32 Tryz.sizeOf32 rfl rfl) k4 rfl rfl ?_
  refine tr_e (e_call Tryz.call39 rfl (F.shard_key_ok H)) rfl rfl ?_
  rintro _ h5 ⟨r6, r7, rfl, H⟩
  refine tr_p (y_move rfl) rfl rfl ?_
  refine tr_p (y_ext rfl rfl) rfl rfl ?_
  refine tr_p (y_ext rfl rfl) rfl rfl ?_
  refine tr_p (y_assign rfl) rfl rfl ?_
  refine tr_p (y_assign rfl) rfl rfl ?_
  refine tr_nil ?_
  refine tr_thenN ?_
  refine tr_seq ?_
  refine tr_seq ?_
  refine tr_region ?_
  refine tr_p (y_move rfl) rfl rfl ?_
  refine tr_p (y_neq rfl rfl) rfl rfl ?_
  refine tr_nil ?_
  refine tr_thenN ?_
  refine tr_cond rfl (fun g8 => ?_) (fun g8 => ?_)
  · replace H := H.1 g8
    refine tr_seq ?_
    refine tr_region ?_
    refine tr_p (y_move rfl) rfl rfl ?_
    refine tr_p (y_assign rfl) rfl rfl ?_
    refine tr_nil ?_
    refine tr_thenN ?_
    refine tr_ret ?_
    refine tr_thenR ?_
    exact tr_ret1 rfl rfl ⟨_, rfl, H⟩
  · replace H := H.2 g8
    refine tr_skip ?_
    refine tr_thenN ?_
    refine tr_seq_j (fun L' h => ∃ (x0 : Option Addr) (x1 : Int) (x5 : Addr) (x7 : ByteArray), L' = [(0, (.pointer x0)), (1, (.int .i64 x1)), (5, (.pointer (some x5))), (7, (.string x7))] ∧ F.shard_Shard_Put.j1 Q x0 x1 x5 x7 h) ?_ ?_
    · rintro L' h ⟨x0, x1, x5, x7, rfl, H⟩
      unfold F.shard_Shard_Put.j1 at H
      refine tr_seq ?_
      refine tr_region ?_
      refine tr_p (y_move rfl) rfl rfl ?_
      obtain ⟨a9, e10, H⟩ := H
      refine tr_p (f_nn rfl e10) rfl rfl ?_
      refine tr_p (y_fa (off := 3) Tryz.runUnderlying46 fo_46_1 rfl) rfl rfl ?_
      obtain ⟨y11, k12, H⟩ := H
      refine tr_h (y_ld Tryz.isAgg44 rfl) k12 rfl rfl ?_
      refine tr_p (y_move rfl) rfl rfl ?_
      refine tr_e (e_call Tryz.call41 rfl (F.table_Table_chain_Chain_api_Agg_Get_ok H)) rfl rfl ?_
      rintro _ h13 ⟨r14, r15, rfl, H⟩
      refine tr_p (y_move rfl) rfl rfl ?_
      refine tr_p (y_ext rfl rfl) rfl rfl ?_
      refine tr_p (y_ext rfl rfl) rfl rfl ?_
      refine tr_p (y_assign rfl) rfl rfl ?_
      refine tr_p (y_assign rfl) rfl rfl ?_
      refine tr_nil ?_
      refine tr_thenN ?_
      refine tr_seq ?_
      refine tr_region ?_
      refine tr_p (y_assign rfl) rfl rfl ?_
      refine tr_nil ?_
      refine tr_thenN ?_
      refine tr_seq_j (fun L' h => ∃ (x0 : Option Addr) (x1 : Int) (x5 : Addr) (x7 : ByteArray) (x9 : Option Addr) (x10 : Bool) (x11 : Bool), L' = [(0, (.pointer x0)), (1, (.int .i64 x1)), (5, (.pointer (some x5))), (7, (.string x7)), (9, (.pointer x9)), (10, (.bool x10)), (11, (.bool x11))] ∧ F.shard_Shard_Put.j2 Q x0 x1 x5 x7 x9 x10 x11 h) ?_ ?_
      · rintro L' h ⟨x0, x1, x5, x7, x9, x10, x11, rfl, H⟩
        unfold F.shard_Shard_Put.j2 at H
        refine tr_seq ?_
        refine tr_seq ?_
        refine tr_draw mixed [0, 1, 3, 7, 15, 0, 0, 0, 128, 480, 1023, 0, 2048, 6144, 14336, 30720, 65535] (by kernel_rfl) ?_
        refine g_p 0 1 rfl (by kernel_rfl) (y_move rfl) rfl rfl ?_
        obtain ⟨a16, e17, H⟩ := H
        refine g_p 1 3 rfl (by kernel_rfl) (f_nn rfl e17) rfl rfl ?_
        refine g_p 2 7 rfl (by kernel_rfl) (y_fa (off := 0) Tryz.runUnderlying46 fo_46_0 rfl) rfl rfl ?_
        refine g_p 3 15 rfl (by kernel_rfl) (y_fa (off := 0) Tryz.runUnderlying43 fo_43_0 rfl) rfl rfl ?_
        obtain ⟨y18, k19, H⟩ := H
        refine g_h 4 31 rfl (by kernel_rfl) (y_ld Tryz.isAgg3 rfl) k19 rfl rfl ?_
        refine g_p 5 63 rfl (by kernel_rfl) (y_move rfl) rfl rfl ?_
        refine g_p 6 127 rfl (by kernel_rfl) (y_move rfl) rfl rfl ?_
        refine g_p 7 255 rfl (by kernel_rfl) (y_fa (off := 0) Tryz.runUnderlying51 fo_51_0 rfl) rfl rfl ?_
        obtain ⟨y20, k21, H⟩ := H
        refine g_h 8 511 rfl (by kernel_rfl) (y_ldS Tryz.isAgg32 Tryz.sizeOf32 rfl rfl) k21 rfl rfl ?_
        refine g_p 11 2559 rfl (by kernel_rfl) (y_move rfl) rfl rfl ?_
        obtain ⟨a22, e23, H⟩ := H
        refine g_p 12 6655 rfl (by kernel_rfl) (f_nn rfl e23) rfl rfl ?_
        refine g_p 13 14847 rfl (by kernel_rfl) (y_fa (off := 0) Tryz.runUnderlying46 fo_46_0 rfl) rfl rfl ?_
        refine g_p 14 31231 rfl (by kernel_rfl) (y_fa (off := 2) Tryz.runUnderlying43 fo_43_2 rfl) rfl rfl ?_
        obtain ⟨y24, k25, H⟩ := H
        refine g_h 15 63999 rfl (by kernel_rfl) (y_ld Tryz.isAgg3 rfl) k25 rfl rfl ?_
        refine g_e 9 64511 [(15, fun h => cellH h ((a22.add 0).add 2) = some (.int .i64 y24)), (4, fun h => cellH h ((a16.add 0).add 0) = some (.int .i64 y18))] (by kernel_rfl) rfl (by kernel_rfl) (e_call Tryz.call38 rfl (F.shard_Shard_need_ok H)) rfl rfl ?_
        rintro _ h26 ⟨r27, rfl, H⟩
        obtain ⟨k28, k29, H⟩ := H
        refine ⟨And.intro k28 (And.intro k29 trivial), ?_⟩
        refine g_p 10 65535 rfl (by kernel_rfl) (y_add rfl rfl) rfl rfl ?_
        refine g_p 16 131071 rfl (by kernel_rfl) (y_gtr rfl rfl) rfl rfl ?_
        refine g_d (by kernel_rfl) ?_
        refine tr_thenN ?_
        refine tr_cond rfl (fun g30 => ?_) (fun g30 => ?_)
        · replace H := H.1 g30
          refine tr_seq ?_
          refine tr_region ?_
          refine tr_p (y_assign rfl) rfl rfl ?_
          refine tr_nil ?_
          refine tr_thenN ?_
          refine tr_ret ?_
          refine tr_thenR ?_
          exact tr_ret1 rfl rfl ⟨_, rfl, H⟩
        · replace H := H.2 g30
          refine tr_skip ?_
          refine tr_thenN ?_
          refine tr_seq_j (fun L' h => ∃ (x0 : Option Addr) (x1 : Int) (x5 : Addr) (x9 : Option Addr) (x11 : Bool), L' = [(0, (.pointer x0)), (1, (.int .i64 x1)), (5, (.pointer (some x5))), (9, (.pointer x9)), (11, (.bool x11))] ∧ F.shard_Shard_Put.j3 Q x0 x1 x5 x9 x11 h) ?_ ?_
          · rintro L' h ⟨x0, x1, x5, x9, x11, rfl, H⟩
            unfold F.shard_Shard_Put.j3 at H
            refine tr_seq ?_
            refine tr_region ?_
            refine tr_p (y_move rfl) rfl rfl ?_
            refine tr_p (y_move rfl) rfl rfl ?_
            refine tr_p (y_fa (off := 3) Tryz.runUnderlying51 fo_51_1 rfl) rfl rfl ?_
            obtain ⟨y31, k32, H⟩ := H
            refine tr_h (y_ldS Tryz.isAgg34 Tryz.sizeOf34 rfl rfl) k32 rfl rfl ?_
            refine tr_e (e_call Tryz.call45 rfl (F.chain_Chain_api_Agg_Put_ok H)) rfl rfl ?_
            rintro _ h33 ⟨r34, r35, rfl, H⟩
            refine tr_p (y_move rfl) rfl rfl ?_
            refine tr_p (y_ext rfl rfl) rfl rfl ?_
            refine tr_p (y_ext rfl rfl) rfl rfl ?_
            refine tr_p (y_assign rfl) rfl rfl ?_
            refine tr_p (y_assign rfl) rfl rfl ?_
            refine tr_nil ?_
            refine tr_thenN ?_
            refine tr_seq ?_
            refine tr_region ?_
            refine tr_p (y_move rfl) rfl rfl ?_
            obtain ⟨a36, e37, H⟩ := H
            refine tr_p (f_nn rfl e37) rfl rfl ?_
            refine tr_p (y_fa (off := 0) Tryz.runUnderlying46 fo_46_0 rfl) rfl rfl ?_
            refine tr_p (y_fa (off := 0) Tryz.runUnderlying43 fo_43_0 rfl) rfl rfl ?_
            obtain ⟨y38, k39, H⟩ := H
            refine tr_h (y_ld Tryz.isAgg3 rfl) k39 rfl rfl ?_
            refine tr_p (y_move rfl) rfl rfl ?_
            refine tr_p (y_add rfl rfl) rfl rfl ?_
            obtain ⟨a40, e41, H⟩ := H
            refine tr_p (f_nn rfl e41) rfl rfl ?_
            refine tr_p (y_fa (off := 0) Tryz.runUnderlying46 fo_46_0 rfl) rfl rfl ?_
            refine tr_p (y_fa (off := 0) Tryz.runUnderlying43 fo_43_0 rfl) rfl rfl ?_
            refine tr_e (f_store (vs := [(.int .i64 (IntKind.wrap .i64 (y38 + r34)))]) Tryz.sizeOf3 rfl rfl rfl rfl (one1 rfl) H) rfl rfl ?_
            rintro _ h42 ⟨rfl, H⟩
            refine tr_nil ?_
            refine tr_thenN ?_
            refine tr_seq ?_
            refine tr_seq ?_
            refine tr_region ?_
            refine tr_p (y_move rfl) rfl rfl ?_
            refine tr_p (y_not rfl) rfl rfl ?_
            refine tr_nil ?_
            refine tr_thenN ?_
            refine tr_cond rfl (fun g43 => ?_) (fun g43 => ?_)
            · replace H := H.1 g43
              refine tr_seq ?_
              refine tr_region ?_
              refine tr_p (y_move rfl) rfl rfl ?_
              obtain ⟨a44, e45, H⟩ := H
              refine tr_p (f_nn rfl e45) rfl rfl ?_
              refine tr_p (y_fa (off := 0) Tryz.runUnderlying46 fo_46_0 rfl) rfl rfl ?_
              refine tr_p (y_fa (off := 0) Tryz.runUnderlying43 fo_43_0 rfl) rfl rfl ?_
              obtain ⟨y46, k47, H⟩ := H
              refine tr_h (y_ld Tryz.isAgg3 rfl) k47 rfl rfl ?_
              refine tr_p (y_add rfl rfl) rfl rfl ?_
              obtain ⟨a48, e49, H⟩ := H
              refine tr_p (f_nn rfl e49) rfl rfl ?_
              refine tr_p (y_fa (off := 0) Tryz.runUnderlying46 fo_46_0 rfl) rfl rfl ?_
              refine tr_p (y_fa (off := 0) Tryz.runUnderlying43 fo_43_0 rfl) rfl rfl ?_
              refine tr_e (f_store (vs := [(.int .i64 (IntKind.wrap .i64 (y46 + 1)))]) Tryz.sizeOf3 rfl rfl rfl rfl (one1 rfl) H) rfl rfl ?_
              rintro _ h50 ⟨rfl, H⟩
              refine tr_nil ?_
              refine tr_thenN ?_
              refine tr_region ?_
              refine tr_p (y_move rfl) rfl rfl ?_
              obtain ⟨a51, e52, H⟩ := H
              refine tr_p (f_nn rfl e52) rfl rfl ?_
              refine tr_p (y_fa (off := 0) Tryz.runUnderlying46 fo_46_0 rfl) rfl rfl ?_
              refine tr_p (y_fa (off := 1) Tryz.runUnderlying43 fo_43_1 rfl) rfl rfl ?_
              obtain ⟨y53, k54, H⟩ := H
              refine tr_h (y_ld Tryz.isAgg3 rfl) k54 rfl rfl ?_
              refine tr_p (y_add rfl rfl) rfl rfl ?_
              obtain ⟨a55, e56, H⟩ := H
              refine tr_p (f_nn rfl e56) rfl rfl ?_
              refine tr_p (y_fa (off := 0) Tryz.runUnderlying46 fo_46_0 rfl) rfl rfl ?_
              refine tr_p (y_fa (off := 1) Tryz.runUnderlying43 fo_43_1 rfl) rfl rfl ?_
              refine tr_e (f_store (vs := [(.int .i64 (IntKind.wrap .i64 (y53 + 1)))]) Tryz.sizeOf3 rfl rfl rfl rfl (one1 rfl) H) rfl rfl ?_
              rintro _ h57 ⟨rfl, H⟩
              refine tr_nil ?_
              refine tr_thenN ?_
              refine tr_seq ?_
              refine tr_region ?_
              refine tr_p (y_assign rfl) rfl rfl ?_
              refine tr_nil ?_
              refine tr_thenN ?_
              refine tr_ret ?_
              exact tr_ret1 rfl rfl ⟨_, rfl, H⟩
            · replace H := H.2 g43
              refine tr_skip ?_
              refine tr_thenN ?_
              refine tr_seq ?_
              refine tr_region ?_
              refine tr_p (y_assign rfl) rfl rfl ?_
              refine tr_nil ?_
              refine tr_thenN ?_
              refine tr_ret ?_
              exact tr_ret1 rfl rfl ⟨_, rfl, H⟩
          · refine tr_seq ?_
            refine tr_region ?_
            refine tr_p (y_move rfl) rfl rfl ?_
            refine tr_p (y_not rfl) rfl rfl ?_
            refine tr_nil ?_
            refine tr_thenN ?_
            refine tr_cond rfl (fun g58 => ?_) (fun g58 => ?_)
            · replace H := H.1 g58
              refine tr_seq ?_
              refine tr_region ?_
              refine tr_e (e_call Tryz.call43 rfl (F.chain_New_api_Agg_ok H)) rfl rfl ?_
              rintro _ h59 ⟨r60, rfl, H⟩
              refine tr_p (y_assign rfl) rfl rfl ?_
              refine tr_nil ?_
              refine tr_thenN ?_
              refine tr_region ?_
              refine tr_p (y_move rfl) rfl rfl ?_
              obtain ⟨a61, e62, H⟩ := H
              refine tr_p (f_nn rfl e62) rfl rfl ?_
              refine tr_p (y_fa (off := 3) Tryz.runUnderlying46 fo_46_1 rfl) rfl rfl ?_
              obtain ⟨y63, k64, H⟩ := H
              refine tr_h (y_ld Tryz.isAgg44 rfl) k64 rfl rfl ?_
              refine tr_p (y_move rfl) rfl rfl ?_
              refine tr_p (y_move rfl) rfl rfl ?_
              refine tr_e (e_call Tryz.call44 rfl (F.table_Table_chain_Chain_api_Agg_Put_ok H)) rfl rfl ?_
              rintro _ h65 ⟨rfl, H⟩
              refine tr_nil ?_
              refine tr_thenN ?_
              exact tr_join [(0, (.pointer x0)), (1, (.int .i64 x1)), (5, (.pointer (some x5))), (9, (.pointer r60)), (11, (.bool x11))] ⟨rfl, rfl, rfl, rfl, rfl, trivial⟩ ⟨_, _, _, _, _, rfl, H⟩
            · replace H := H.2 g58
              refine tr_skip ?_
              refine tr_thenN ?_
              exact tr_join [(0, (.pointer x0)), (1, (.int .i64 x1)), (5, (.pointer (some x5))), (9, (.pointer x9)), (11, (.bool x11))] ⟨rfl, rfl, rfl, rfl, rfl, trivial⟩ ⟨_, _, _, _, _, rfl, H⟩
      · refine tr_seq ?_
        refine tr_region ?_
        refine tr_p (y_move rfl) rfl rfl ?_
        refine tr_nil ?_
        refine tr_thenN ?_
        refine tr_cond rfl (fun g66 => ?_) (fun g66 => ?_)
        · replace H := H.1 g66
          refine tr_seq ?_
          refine tr_region ?_
          refine tr_p (y_assign rfl) rfl rfl ?_
          refine tr_nil ?_
          refine tr_thenN ?_
          refine tr_seq ?_
          refine tr_region ?_
          refine tr_p (y_move rfl) rfl rfl ?_
          refine tr_e (e_call Tryz.call42 rfl (F.chain_Chain_api_Agg_Newest_ok H)) rfl rfl ?_
          rintro _ h67 ⟨r68, r69, r70, rfl, H⟩
          refine tr_p (y_move rfl) rfl rfl ?_
          refine tr_p (y_ext rfl rfl) rfl rfl ?_
          refine tr_p (y_ext rfl rfl) rfl rfl ?_
          refine tr_p (y_ext rfl rfl) rfl rfl ?_
          refine tr_p (y_assign rfl) rfl rfl ?_
          refine tr_p (y_assign rfl) rfl rfl ?_
          refine tr_nil ?_
          refine tr_thenN ?_
          refine tr_seq ?_
          refine tr_region ?_
          refine tr_p (y_move rfl) rfl rfl ?_
          refine tr_p (y_move rfl) rfl rfl ?_
          refine tr_p (y_gtr rfl rfl) rfl rfl ?_
          refine tr_nil ?_
          refine tr_thenN ?_
          refine tr_cond rfl (fun g71 => ?_) (fun g71 => ?_)
          · replace H := H.1 g71
            refine tr_seq ?_
            refine tr_region ?_
            refine tr_p (y_assign rfl) rfl rfl ?_
            refine tr_nil ?_
            refine tr_thenN ?_
            refine tr_ret ?_
            refine tr_thenR ?_
            exact tr_ret1 rfl rfl ⟨_, rfl, H⟩
          · replace H := H.2 g71
            refine tr_skip ?_
            refine tr_thenN ?_
            exact tr_join [(0, (.pointer x0)), (1, (.int .i64 x1)), (5, (.pointer (some x5))), (7, (.string x7)), (9, (.pointer r14)), (10, (.bool r15)), (11, (.bool r70))] ⟨rfl, rfl, rfl, rfl, rfl, rfl, rfl, trivial⟩ ⟨_, _, _, _, _, _, _, rfl, H⟩
        · replace H := H.2 g66
          refine tr_skip ?_
          refine tr_thenN ?_
          exact tr_join [(0, (.pointer x0)), (1, (.int .i64 x1)), (5, (.pointer (some x5))), (7, (.string x7)), (9, (.pointer r14)), (10, (.bool r15)), (11, (.bool false))] ⟨rfl, rfl, rfl, rfl, rfl, rfl, rfl, trivial⟩ ⟨_, _, _, _, _, _, _, rfl, H⟩
    · refine tr_seq_j (fun L' h => ∃ (x0 : Option Addr) (x1 : Int) (x5 : Addr) (x7 : ByteArray) (x41 : Bool), L' = [(0, (.pointer x0)), (1, (.int .i64 x1)), (5, (.pointer (some x5))), (7, (.string x7)), (41, (.bool x41))] ∧ F.shard_Shard_Put.j4 Q x0 x1 x5 x7 x41 h) ?_ ?_
      · rintro L' h ⟨x0, x1, x5, x7, x41, rfl, H⟩
        unfold F.shard_Shard_Put.j4 at H
        refine tr_cond rfl (fun g72 => ?_) (fun g72 => ?_)
        · replace H := H.1 g72
          refine tr_seq ?_
          refine tr_region ?_
          refine tr_p (y_assign rfl) rfl rfl ?_
          refine tr_nil ?_
          refine tr_thenN ?_
          refine tr_ret ?_
          refine tr_thenR ?_
          exact tr_ret1 rfl rfl ⟨_, rfl, H⟩
        · replace H := H.2 g72
          refine tr_skip ?_
          refine tr_thenN ?_
          exact tr_join [(0, (.pointer x0)), (1, (.int .i64 x1)), (5, (.pointer (some x5))), (7, (.string x7))] ⟨rfl, rfl, rfl, rfl, trivial⟩ ⟨_, _, _, _, rfl, H⟩
      · refine tr_region ?_
        refine tr_p (y_move rfl) rfl rfl ?_
        refine tr_p (y_lss rfl rfl) rfl rfl ?_
        refine tr_p (y_move rfl) rfl rfl ?_
        refine tr_split (t := 26) rfl (fun g73 => ?_) (fun g73 => ?_)
        · replace H := H.1 g73
          refine tr_s rfl rfl ?_
          refine tr_s rfl rfl ?_
          refine tr_p (y_pick_t rfl rfl) rfl rfl ?_
          refine tr_p (y_move rfl) rfl rfl ?_
          refine tr_s rfl rfl ?_
          refine tr_s rfl rfl ?_
          refine tr_s rfl rfl ?_
          refine tr_s rfl rfl ?_
          refine tr_p (y_pick_t rfl rfl) rfl rfl ?_
          refine tr_p (y_move rfl) rfl rfl ?_
          refine tr_s rfl rfl ?_
          refine tr_s rfl rfl ?_
          refine tr_s rfl rfl ?_
          refine tr_s rfl rfl ?_
          refine tr_p (y_pick_t rfl rfl) rfl rfl ?_
          refine tr_nil ?_
          refine tr_thenN ?_
          exact tr_join [(0, (.pointer p0)), (1, (.int .i64 p1)), (5, (.pointer (some a2))), (7, (.string r6)), (41, (.bool true))] ⟨rfl, rfl, rfl, rfl, rfl, trivial⟩ ⟨_, _, _, _, _, rfl, H⟩
        · replace H := H.2 g73
          refine tr_p (y_move rfl) rfl rfl ?_
          refine tr_p (y_gtr rfl rfl) rfl rfl ?_
          refine tr_p (y_pick_f rfl rfl) rfl rfl ?_
          refine tr_p (y_move rfl) rfl rfl ?_
          refine tr_split (t := 30) rfl (fun g74 => ?_) (fun g74 => ?_)
          · replace H := H.1 g74
            refine tr_s rfl rfl ?_
            refine tr_s rfl rfl ?_
            refine tr_s rfl rfl ?_
            refine tr_s rfl rfl ?_
            refine tr_p (y_pick_t rfl rfl) rfl rfl ?_
            refine tr_p (y_move rfl) rfl rfl ?_
            refine tr_s rfl rfl ?_
            refine tr_s rfl rfl ?_
            refine tr_s rfl rfl ?_
            refine tr_s rfl rfl ?_
            refine tr_p (y_pick_t rfl rfl) rfl rfl ?_
            refine tr_nil ?_
            refine tr_thenN ?_
            exact tr_join [(0, (.pointer p0)), (1, (.int .i64 p1)), (5, (.pointer (some a2))), (7, (.string r6)), (41, (.bool true))] ⟨rfl, rfl, rfl, rfl, rfl, trivial⟩ ⟨_, _, _, _, _, rfl, H⟩
          · replace H := H.2 g74
            refine tr_p (y_fa (off := 3) Tryz.runUnderlying51 fo_51_1 rfl) rfl rfl ?_
            refine tr_p (y_fa (off := 0) Tryz.runUnderlying34 fo_34_0 rfl) rfl rfl ?_
            obtain ⟨y75, k76, H⟩ := H
            refine tr_h (y_ld Tryz.isAgg2 rfl) k76 rfl rfl ?_
            refine tr_p (y_eql rfl rfl) rfl rfl ?_
            refine tr_p (y_pick_f rfl rfl) rfl rfl ?_
            refine tr_p (y_move rfl) rfl rfl ?_
            refine tr_split (t := 36) rfl (fun g77 => ?_) (fun g77 => ?_)
            · replace H := H.1 g77
              refine tr_s rfl rfl ?_
              refine tr_s rfl rfl ?_
              refine tr_s rfl rfl ?_
              refine tr_s rfl rfl ?_
              refine tr_p (y_pick_t rfl rfl) rfl rfl ?_
              refine tr_nil ?_
              refine tr_thenN ?_
              exact tr_join [(0, (.pointer p0)), (1, (.int .i64 p1)), (5, (.pointer (some a2))), (7, (.string r6)), (41, (.bool true))] ⟨rfl, rfl, rfl, rfl, rfl, trivial⟩ ⟨_, _, _, _, _, rfl, H⟩
            · replace H := H.2 g77
              refine tr_p (y_fa (off := 3) Tryz.runUnderlying51 fo_51_1 rfl) rfl rfl ?_
              obtain ⟨y78, k79, H⟩ := H
              refine tr_h (y_ldS Tryz.isAgg34 Tryz.sizeOf34 rfl rfl) k79 rfl rfl ?_
              refine tr_e (e_call Tryz.call40 rfl (F.agg_Right_ok H)) rfl rfl ?_
              rintro _ h80 ⟨r81, rfl, H⟩
              refine tr_p (y_not rfl) rfl rfl ?_
              refine tr_p (y_pick_f rfl rfl) rfl rfl ?_
              refine tr_nil ?_
              refine tr_thenN ?_
              exact tr_join [(0, (.pointer p0)), (1, (.int .i64 p1)), (5, (.pointer (some a2))), (7, (.string r6)), (41, (.bool (!r81)))] ⟨rfl, rfl, rfl, rfl, rfl, trivial⟩ ⟨_, _, _, _, _, rfl, H⟩
/-- spate/spatelaw7.apply -/
def F.spatelaw7_apply (p0 : Option Addr) (p1 : Int) (p2 : S_spatelaw7_Step) (h : H) (Q : Int → H → Prop) : Prop :=
  new h p2.cells.toArray ty_37 fun a2 h1 =>
  ld_S_api_Cell h1 (a2.add 2) fun y3 =>
  F.spatelaw7_few y3 h1 fun r6 h5 =>
  new h5 (((⟨0, (⟨#[]⟩ : ByteArray), 0⟩ : S_api_Cell) : S_api_Cell).cells.toArray) ty_32 fun a8 h7 =>
  stH h7 a8 r6.cells fun h9 =>
  ldI .i64 h9 (a2.add 0) fun y10 =>
  F.spatelaw7_within y10 4 h9 fun r13 h12 =>
  (((r13 == 0)) = true →
  ld_S_api_Cell h12 a8 fun y15 =>
  F.shard_Shard_Kill p0 p1 y15 h12 fun r18 h17 =>
  Q r18 h17) ∧
  (((r13 == 0)) = false →
  (((r13 == 1)) = true →
  ldL h12 (a2.add 10) fun y20 =>
  ((decide ((y20.len : Int) ≤ 20)) = true →
  ldL h12 (a2.add 10) fun y23 =>
  F.shard_Shard_Prune p0 y23 h12 fun r26 h25 =>
  Q 0 h25) ∧
  ((decide ((y20.len : Int) ≤ 20)) = false →
  Q 0 h12)) ∧
  (((r13 == 1)) = false →
  ld_S_api_Cell h12 a8 fun y27 =>
  ldI .i64 h12 ((a2.add 5).add 1) fun y29 =>
  F.spatelaw7_one y29 h12 fun r32 h31 =>
  Cells h31 a8 y27.cells ∧
  F.shard_Shard_Put p0 p1 (⟨y27, r32⟩ : S_api_Row) h31 fun r35 h34 =>
  Q r35 h34))
theorem F.spatelaw7_apply_ok {p0 : Option Addr} {p1 : Int} {p2 : S_spatelaw7_Step} {h : H} {Q : Int → H → Prop} (H : F.spatelaw7_apply p0 p1 p2 h Q) : Fn PP 10 ([(.pointer p0), (.int .i64 p1), (.agg p2.cells.toArray)] : List Value).toArray h fun r h' => ∃ r0, r = (.int .i64 r0) ∧ Q r0 h' := by
  unfold F.spatelaw7_apply at H
  refine fn_of Tryz.func10 Tryz.ntmps10 rfl rfl fun w0 => ?_
  refine tr_sub [(0, (.pointer p0)), (1, (.int .i64 p1)), (2, (.agg p2.cells.toArray))] ⟨rfl, rfl, rfl, trivial⟩ ?_
  refine tr_seq ?_
  refine tr_region ?_
  refine tr_e (f_box (cs := p2.cells.toArray) rfl rfl H) rfl rfl ?_
  rintro _ h1 ⟨a2, rfl, H⟩
  refine tr_p (y_assign rfl) rfl rfl ?_
  refine tr_nil ?_
  refine tr_thenN ?_
  refine tr_seq ?_
  refine tr_region ?_
  refine tr_p (y_fa (off := 2) Tryz.runUnderlying37 fo_37_2 rfl) rfl rfl ?_
  obtain ⟨y3, k4, H⟩ := H
  refine tr_h (y_ldS Tryz.isAgg32 Tryz.sizeOf32 rfl rfl) k4 rfl rfl ?_
  refine tr_e (e_call Tryz.call11 rfl (F.spatelaw7_few_ok H)) rfl rfl ?_
  rintro _ h5 ⟨r6, rfl, H⟩
  refine tr_e (f_alloc (cs := ((⟨0, (⟨#[]⟩ : ByteArray), 0⟩ : S_api_Cell) : S_api_Cell).cells.toArray) Tryz.zeroValue32 rfl H) rfl rfl ?_
  rintro _ h7 ⟨a8, rfl, H⟩
  refine tr_e (f_store (vs := r6.cells) Tryz.sizeOf32 rfl rfl cellsOfStruct rfl (by intro v hv; exact ones_S_api_Cell _ v hv) H) rfl rfl ?_
  rintro _ h9 ⟨rfl, H⟩
  refine tr_nil ?_
  refine tr_thenN ?_
  refine tr_seq ?_
  refine tr_seq ?_
  refine tr_region ?_
  refine tr_p (y_fa (off := 0) Tryz.runUnderlying37 fo_37_0 rfl) rfl rfl ?_
  obtain ⟨y10, k11, H⟩ := H
  refine tr_h (y_ld Tryz.isAgg3 rfl) k11 rfl rfl ?_
  refine tr_e (e_call Tryz.call8 rfl (F.spatelaw7_within_ok H)) rfl rfl ?_
  rintro _ h12 ⟨r13, rfl, H⟩
  refine tr_nil ?_
  refine tr_thenN ?_
  refine tr_block ?_
  refine tr_seq ?_
  refine tr_region ?_
  refine tr_p (y_eql rfl rfl) rfl rfl ?_
  refine tr_p (y_assign rfl) rfl rfl ?_
  refine tr_nil ?_
  refine tr_thenN ?_
  refine tr_cond rfl (fun g14 => ?_) (fun g14 => ?_)
  · replace H := H.1 g14
    refine tr_seq ?_
    refine tr_region ?_
    refine tr_p (y_move rfl) rfl rfl ?_
    refine tr_p (y_move rfl) rfl rfl ?_
    obtain ⟨y15, k16, H⟩ := H
    refine tr_h (y_ldS Tryz.isAgg32 Tryz.sizeOf32 rfl rfl) k16 rfl rfl ?_
    refine tr_e (e_call Tryz.call32 rfl (F.shard_Shard_Kill_ok H)) rfl rfl ?_
    rintro _ h17 ⟨r18, rfl, H⟩
    refine tr_p (y_assign rfl) rfl rfl ?_
    refine tr_nil ?_
    refine tr_thenN ?_
    refine tr_ret ?_
    refine tr_blockR ?_
    refine tr_thenR ?_
    exact tr_ret1 rfl rfl ⟨_, rfl, H⟩
  · replace H := H.2 g14
    refine tr_seq ?_
    refine tr_region ?_
    refine tr_p (y_eql rfl rfl) rfl rfl ?_
    refine tr_p (y_assign rfl) rfl rfl ?_
    refine tr_nil ?_
    refine tr_thenN ?_
    refine tr_cond rfl (fun g19 => ?_) (fun g19 => ?_)
    · replace H := H.1 g19
      refine tr_seq ?_
      refine tr_seq ?_
      refine tr_region ?_
      refine tr_p (y_fa (off := 10) Tryz.runUnderlying37 fo_37_5 rfl) rfl rfl ?_
      obtain ⟨y20, k21, H⟩ := H
      refine tr_h (y_ld Tryz.isAgg35 rfl) k21 rfl rfl ?_
      refine tr_p (y_len (ts := #[]) Tryz.runUnderlying35 (o := y20.ptr) (n := y20.len) (cap := y20.cap) rfl) rfl rfl ?_
      refine tr_p (y_leq rfl rfl) rfl rfl ?_
      refine tr_nil ?_
      refine tr_thenN ?_
      refine tr_cond rfl (fun g22 => ?_) (fun g22 => ?_)
      · replace H := H.1 g22
        refine tr_region ?_
        refine tr_p (y_move rfl) rfl rfl ?_
        refine tr_p (y_fa (off := 10) Tryz.runUnderlying37 fo_37_5 rfl) rfl rfl ?_
        obtain ⟨y23, k24, H⟩ := H
        refine tr_h (y_ld Tryz.isAgg35 rfl) k24 rfl rfl ?_
        refine tr_e (e_call Tryz.call33 rfl (F.shard_Shard_Prune_ok H)) rfl rfl ?_
        rintro _ h25 ⟨r26, rfl, H⟩
        refine tr_nil ?_
        refine tr_thenN ?_
        refine tr_seq ?_
        refine tr_region ?_
        refine tr_p (y_assign rfl) rfl rfl ?_
        refine tr_nil ?_
        refine tr_thenN ?_
        refine tr_ret ?_
        refine tr_blockR ?_
        refine tr_thenR ?_
        exact tr_ret1 rfl rfl ⟨_, rfl, H⟩
      · replace H := H.2 g22
        refine tr_skip ?_
        refine tr_thenN ?_
        refine tr_seq ?_
        refine tr_region ?_
        refine tr_p (y_assign rfl) rfl rfl ?_
        refine tr_nil ?_
        refine tr_thenN ?_
        refine tr_ret ?_
        refine tr_blockR ?_
        refine tr_thenR ?_
        exact tr_ret1 rfl rfl ⟨_, rfl, H⟩
    · replace H := H.2 g19
      refine tr_skip ?_
      refine tr_blockN ?_
      refine tr_thenN ?_
      refine tr_seq ?_
      refine tr_draw mixed [0, 0, 0, 0, 8, 24, 56, 124, 255, 511] (by kernel_rfl) ?_
      refine g_p 0 1 rfl (by kernel_rfl) (y_move rfl) rfl rfl ?_
      refine g_p 1 3 rfl (by kernel_rfl) (y_move rfl) rfl rfl ?_
      obtain ⟨y27, k28, H⟩ := H
      refine g_h 2 7 rfl (by kernel_rfl) (y_ldS Tryz.isAgg32 Tryz.sizeOf32 rfl rfl) k28 rfl rfl ?_
      refine g_p 3 15 rfl (by kernel_rfl) (y_fa (off := 5) Tryz.runUnderlying37 fo_37_3 rfl) rfl rfl ?_
      refine g_p 4 31 rfl (by kernel_rfl) (y_fa (off := 1) Tryz.runUnderlying34 fo_34_1 rfl) rfl rfl ?_
      obtain ⟨y29, k30, H⟩ := H
      refine g_h 5 63 rfl (by kernel_rfl) (y_ld Tryz.isAgg2 rfl) k30 rfl rfl ?_
      refine g_e 6 127 [(2, fun h => Cells h a8 y27.cells)] (by kernel_rfl) rfl (by kernel_rfl) (e_call Tryz.call17 rfl (F.spatelaw7_one_ok H)) rfl rfl ?_
      rintro _ h31 ⟨r32, rfl, H⟩
      obtain ⟨k33, H⟩ := H
      refine ⟨And.intro k33 trivial, ?_⟩
      refine g_p 7 255 rfl (by kernel_rfl) (f_build rfl (bd_51_0_1 y27 r32)) rfl rfl ?_
      refine g_e 8 511 [] (by kernel_rfl) rfl (by kernel_rfl) (e_call Tryz.call16 rfl (F.shard_Shard_Put_ok H)) rfl rfl ?_
      rintro _ h34 ⟨r35, rfl, H⟩
      refine ⟨trivial, ?_⟩
      refine g_p 9 1023 rfl (by kernel_rfl) (y_assign rfl) rfl rfl ?_
      refine g_d (by kernel_rfl) ?_
      refine tr_thenN ?_
      refine tr_ret ?_
      exact tr_ret1 rfl rfl ⟨_, rfl, H⟩
/-- spate/spatelaw7.LendCells -/
def F.spatelaw7_LendCells (p0 : Sl) (h : H) (Q : Sl → H → Prop) : Prop :=
  runL PP (Instr.makeSlice 23 (.int .i64 0) (.int .i64 (IntKind.wrap .i64 ((p0.len : Int) + 3)))) h fun s2 h1 =>
  runL PP (Builtin.append_ #[23, 23] 23 #[s2.enc, p0.enc]) h1 fun s4 h3 =>
  newL h3 (((⟨(-77), (⟨#[]⟩ : ByteArray), 0⟩ : S_api_Cell).cells).toArray) ty_32 1 fun s6 h5 =>
  runL PP (Builtin.append_ #[23, 23] 23 #[s4.enc, s6.enc]) h5 fun s8 h7 =>
  cutL s8 0 (p0.len : Int) 3 fun s10 =>
  Q s10 h7
theorem F.spatelaw7_LendCells_ok {p0 : Sl} {h : H} {Q : Sl → H → Prop} (H : F.spatelaw7_LendCells p0 h Q) : Fn PP 13 ([p0.enc] : List Value).toArray h fun r h' => ∃ r0, r = r0.enc ∧ Q r0 h' := by
  unfold F.spatelaw7_LendCells at H
  refine fn_of Tryz.func13 Tryz.ntmps13 rfl rfl fun w0 => ?_
  refine tr_sub [(0, p0.enc)] ⟨rfl, trivial⟩ ?_
  refine tr_seq ?_
  refine tr_region ?_
  refine tr_p (y_assign rfl) rfl rfl ?_
  refine tr_nil ?_
  refine tr_thenN ?_
  refine tr_seq ?_
  refine tr_region ?_
  refine tr_p (y_move rfl) rfl rfl ?_
  refine tr_p (y_len (ts := #[]) Tryz.runUnderlying23 (o := p0.ptr) (n := p0.len) (cap := p0.cap) rfl) rfl rfl ?_
  refine tr_p (y_add rfl rfl) rfl rfl ?_
  refine tr_e (f_make rfl rfl H) rfl rfl ?_
  rintro _ h1 ⟨s2, rfl, H⟩
  refine tr_p (y_move rfl) rfl rfl ?_
  refine tr_e (f_app rfl H) rfl rfl ?_
  rintro _ h3 ⟨s4, rfl, H⟩
  refine tr_p (y_assign rfl) rfl rfl ?_
  refine tr_nil ?_
  refine tr_thenN ?_
  refine tr_seq ?_
  refine tr_region ?_
  refine tr_p (y_move rfl) rfl rfl ?_
  refine tr_p (f_build rfl (bd_32_0 (-77))) rfl rfl ?_
  refine tr_e (f_buildL (cs := ((⟨(-77), (⟨#[]⟩ : ByteArray), 0⟩ : S_api_Cell).cells).toArray) rfl rfl (bl_23_1_0 (⟨(-77), (⟨#[]⟩ : ByteArray), 0⟩ : S_api_Cell)) H) rfl rfl ?_
  rintro _ h5 ⟨s6, rfl, H⟩
  refine tr_e (f_app rfl H) rfl rfl ?_
  rintro _ h7 ⟨s8, rfl, H⟩
  refine tr_p (y_move rfl) rfl rfl ?_
  refine tr_p (y_len (ts := #[]) Tryz.runUnderlying23 (o := p0.ptr) (n := p0.len) (cap := p0.cap) rfl) rfl rfl ?_
  obtain ⟨s10, e9, H⟩ := H
  refine tr_p (f_cutL (s := s8) none (some (.i64, (p0.len : Int))) Tryz.runUnderlying23 Tryz.sizeOf32 rfl rfl rfl e9) rfl rfl ?_
  refine tr_p (y_assign rfl) rfl rfl ?_
  refine tr_nil ?_
  refine tr_thenN ?_
  refine tr_ret ?_
  exact tr_ret1 rfl rfl ⟨_, rfl, H⟩
/-- slices.Clone[[]spate/api.Cell,spate/api.Cell] -/
def F.slices_Clone_Slapi_Cell_api_Cell (p0 : Sl) (h : H) (Q : Sl → H → Prop) : Prop :=
  (p0.ptr.isNone = true →
  Q (⟨none, 0, 0⟩ : Sl) h) ∧
  (p0.ptr.isNone = false →
  newL h (([]).toArray) ty_32 0 fun s3 h2 =>
  runL PP (Builtin.append_ #[23, 23] 23 #[s3.enc, p0.enc]) h2 fun s5 h4 =>
  Q s5 h4)
theorem F.slices_Clone_Slapi_Cell_api_Cell_ok {p0 : Sl} {h : H} {Q : Sl → H → Prop} (H : F.slices_Clone_Slapi_Cell_api_Cell p0 h Q) : Fn PP 34 ([p0.enc] : List Value).toArray h fun r h' => ∃ r0, r = r0.enc ∧ Q r0 h' := by
  unfold F.slices_Clone_Slapi_Cell_api_Cell at H
  refine fn_of Tryz.func34 Tryz.ntmps34 rfl rfl fun w0 => ?_
  refine tr_sub [(0, p0.enc)] ⟨rfl, trivial⟩ ?_
  refine tr_seq ?_
  refine tr_region ?_
  refine tr_p (y_assign rfl) rfl rfl ?_
  refine tr_nil ?_
  refine tr_thenN ?_
  refine tr_seq ?_
  refine tr_seq ?_
  refine tr_region ?_
  refine tr_p (y_move rfl) rfl rfl ?_
  refine tr_p (y_lnil_eql Tryz.runUnderlying23 (s := p0) rfl rfl) rfl rfl ?_
  refine tr_nil ?_
  refine tr_thenN ?_
  refine tr_cond rfl (fun g1 => ?_) (fun g1 => ?_)
  · replace H := H.1 g1
    refine tr_seq ?_
    refine tr_region ?_
    refine tr_p (y_assign rfl) rfl rfl ?_
    refine tr_nil ?_
    refine tr_thenN ?_
    refine tr_ret ?_
    refine tr_thenR ?_
    exact tr_ret1 rfl rfl ⟨_, rfl, H⟩
  · replace H := H.2 g1
    refine tr_skip ?_
    refine tr_thenN ?_
    refine tr_seq ?_
    refine tr_region ?_
    refine tr_e (f_buildL (cs := ([]).toArray) rfl rfl (bl_23_0_) H) rfl rfl ?_
    rintro _ h2 ⟨s3, rfl, H⟩
    refine tr_p (y_move rfl) rfl rfl ?_
    refine tr_e (f_app rfl H) rfl rfl ?_
    rintro _ h4 ⟨s5, rfl, H⟩
    refine tr_p (y_assign rfl) rfl rfl ?_
    refine tr_nil ?_
    refine tr_thenN ?_
    refine tr_ret ?_
    exact tr_ret1 rfl rfl ⟨_, rfl, H⟩
/-- cmp.isNaN[int] -/
def F.cmp_isNaN_int (p0 : Int) (h : H) (Q : Bool → H → Prop) : Prop :=
  Q ((p0 != p0)) h
theorem F.cmp_isNaN_int_ok {p0 : Int} {h : H} {Q : Bool → H → Prop} (H : F.cmp_isNaN_int p0 h Q) : Fn PP 111 ([(.int .i64 p0)] : List Value).toArray h fun r h' => ∃ r0, r = (.bool r0) ∧ Q r0 h' := by
  unfold F.cmp_isNaN_int at H
  refine fn_of Tryz.func111 Tryz.ntmps111 rfl rfl fun w0 => ?_
  refine tr_sub [(0, (.int .i64 p0))] ⟨rfl, trivial⟩ ?_
  refine tr_seq ?_
  refine tr_region ?_
  refine tr_p (y_assign rfl) rfl rfl ?_
  refine tr_nil ?_
  refine tr_thenN ?_
  refine tr_seq ?_
  refine tr_region ?_
  refine tr_p (y_move rfl) rfl rfl ?_
  refine tr_p (y_move rfl) rfl rfl ?_
  refine tr_p (y_neq rfl rfl) rfl rfl ?_
  refine tr_p (y_assign rfl) rfl rfl ?_
  refine tr_nil ?_
  refine tr_thenN ?_
  refine tr_ret ?_
  exact tr_ret1 rfl rfl ⟨_, rfl, H⟩
/-- cmp.Compare[int] -/
def F.cmp_Compare_int (p0 : Int) (p1 : Int) (h : H) (Q : Int → H → Prop) : Prop :=
  F.cmp_isNaN_int p0 h fun r2 h1 =>
  F.cmp_isNaN_int p1 h1 fun r4 h3 =>
  (r2 = true →
  (r4 = true →
  Q 0 h3) ∧
  (r4 = false →
  Q (-1) h3)) ∧
  (r2 = false →
  (r4 = true →
  Q 1 h3) ∧
  (r4 = false →
  ((decide (p0 < p1)) = true →
  Q (-1) h3) ∧
  ((decide (p0 < p1)) = false →
  ((decide (p0 > p1)) = true →
  Q 1 h3) ∧
  ((decide (p0 > p1)) = false →
  Q 0 h3))))
theorem F.cmp_Compare_int_ok {p0 : Int} {p1 : Int} {h : H} {Q : Int → H → Prop} (H : F.cmp_Compare_int p0 p1 h Q) : Fn PP 73 ([(.int .i64 p0), (.int .i64 p1)] : List Value).toArray h fun r h' => ∃ r0, r = (.int .i64 r0) ∧ Q r0 h' := by
  unfold F.cmp_Compare_int at H
  refine fn_of Tryz.func73 Tryz.ntmps73 rfl rfl fun w0 => ?_
  refine tr_sub [(0, (.int .i64 p0)), (1, (.int .i64 p1))] ⟨rfl, rfl, trivial⟩ ?_
  refine tr_seq ?_
  refine tr_region ?_
  refine tr_p (y_assign rfl) rfl rfl ?_
  refine tr_nil ?_
  refine tr_thenN ?_
  refine tr_seq ?_
  refine tr_region ?_
  refine tr_p (y_move rfl) rfl rfl ?_
  refine tr_e (e_call Tryz.call111 rfl (F.cmp_isNaN_int_ok H)) rfl rfl ?_
  rintro _ h1 ⟨r2, rfl, H⟩
  refine tr_p (y_assign rfl) rfl rfl ?_
  refine tr_nil ?_
  refine tr_thenN ?_
  refine tr_seq ?_
  refine tr_region ?_
  refine tr_p (y_move rfl) rfl rfl ?_
  refine tr_e (e_call Tryz.call111 rfl (F.cmp_isNaN_int_ok H)) rfl rfl ?_
  rintro _ h3 ⟨r4, rfl, H⟩
  refine tr_p (y_assign rfl) rfl rfl ?_
  refine tr_nil ?_
  refine tr_thenN ?_
  refine tr_seq ?_
  refine tr_seq ?_
  refine tr_region ?_
  refine tr_p (y_move rfl) rfl rfl ?_
  refine tr_nil ?_
  refine tr_thenN ?_
  refine tr_cond rfl (fun g5 => ?_) (fun g5 => ?_)
  · replace H := H.1 g5
    refine tr_seq ?_
    refine tr_seq ?_
    refine tr_region ?_
    refine tr_p (y_move rfl) rfl rfl ?_
    refine tr_nil ?_
    refine tr_thenN ?_
    refine tr_cond rfl (fun g6 => ?_) (fun g6 => ?_)
    · replace H := H.1 g6
      refine tr_seq ?_
      refine tr_region ?_
      refine tr_p (y_assign rfl) rfl rfl ?_
      refine tr_nil ?_
      refine tr_thenN ?_
      refine tr_ret ?_
      refine tr_thenR ?_
      refine tr_thenR ?_
      exact tr_ret1 rfl rfl ⟨_, rfl, H⟩
    · replace H := H.2 g6
      refine tr_skip ?_
      refine tr_thenN ?_
      refine tr_seq ?_
      refine tr_region ?_
      refine tr_p (y_assign rfl) rfl rfl ?_
      refine tr_nil ?_
      refine tr_thenN ?_
      refine tr_ret ?_
      refine tr_thenR ?_
      exact tr_ret1 rfl rfl ⟨_, rfl, H⟩
  · replace H := H.2 g5
    refine tr_skip ?_
    refine tr_thenN ?_
    refine tr_seq ?_
    refine tr_seq ?_
    refine tr_region ?_
    refine tr_p (y_move rfl) rfl rfl ?_
    refine tr_nil ?_
    refine tr_thenN ?_
    refine tr_cond rfl (fun g7 => ?_) (fun g7 => ?_)
    · replace H := H.1 g7
      refine tr_seq ?_
      refine tr_region ?_
      refine tr_p (y_assign rfl) rfl rfl ?_
      refine tr_nil ?_
      refine tr_thenN ?_
      refine tr_ret ?_
      refine tr_thenR ?_
      exact tr_ret1 rfl rfl ⟨_, rfl, H⟩
    · replace H := H.2 g7
      refine tr_skip ?_
      refine tr_thenN ?_
      refine tr_seq ?_
      refine tr_seq ?_
      refine tr_region ?_
      refine tr_p (y_move rfl) rfl rfl ?_
      refine tr_p (y_move rfl) rfl rfl ?_
      refine tr_p (y_lss rfl rfl) rfl rfl ?_
      refine tr_nil ?_
      refine tr_thenN ?_
      refine tr_cond rfl (fun g8 => ?_) (fun g8 => ?_)
      · replace H := H.1 g8
        refine tr_seq ?_
        refine tr_region ?_
        refine tr_p (y_assign rfl) rfl rfl ?_
        refine tr_nil ?_
        refine tr_thenN ?_
        refine tr_ret ?_
        refine tr_thenR ?_
        exact tr_ret1 rfl rfl ⟨_, rfl, H⟩
      · replace H := H.2 g8
        refine tr_skip ?_
        refine tr_thenN ?_
        refine tr_seq ?_
        refine tr_seq ?_
        refine tr_region ?_
        refine tr_p (y_move rfl) rfl rfl ?_
        refine tr_p (y_move rfl) rfl rfl ?_
        refine tr_p (y_gtr rfl rfl) rfl rfl ?_
        refine tr_nil ?_
        refine tr_thenN ?_
        refine tr_cond rfl (fun g9 => ?_) (fun g9 => ?_)
        · replace H := H.1 g9
          refine tr_seq ?_
          refine tr_region ?_
          refine tr_p (y_assign rfl) rfl rfl ?_
          refine tr_nil ?_
          refine tr_thenN ?_
          refine tr_ret ?_
          refine tr_thenR ?_
          exact tr_ret1 rfl rfl ⟨_, rfl, H⟩
        · replace H := H.2 g9
          refine tr_skip ?_
          refine tr_thenN ?_
          refine tr_seq ?_
          refine tr_region ?_
          refine tr_p (y_assign rfl) rfl rfl ?_
          refine tr_nil ?_
          refine tr_thenN ?_
          refine tr_ret ?_
          exact tr_ret1 rfl rfl ⟨_, rfl, H⟩
/-- internal/bytealg.CompareString -/
def F.internal_bytealg_CompareString (p0 : ByteArray) (p1 : ByteArray) (h : H) (Q : Int → H → Prop) : Prop :=
  Q (cmpM p0 p1) h
theorem F.internal_bytealg_CompareString_ok {p0 : ByteArray} {p1 : ByteArray} {h : H} {Q : Int → H → Prop} (H : F.internal_bytealg_CompareString p0 p1 h Q) : Fn PP 112 ([(.string p0), (.string p1)] : List Value).toArray h fun r h' => ∃ r0, r = (.int .i64 r0) ∧ Q r0 h' := by
  unfold F.internal_bytealg_CompareString at H
  refine fn_of Tryz.func112 Tryz.ntmps112 rfl rfl fun w0 => ?_
  refine tr_sub [(0, (.string p0)), (1, (.string p1))] ⟨rfl, rfl, trivial⟩ ?_
  refine tr_seq ?_
  refine tr_region ?_
  refine tr_p (y_assign rfl) rfl rfl ?_
  refine tr_nil ?_
  refine tr_thenN ?_
  refine tr_seq ?_
  refine tr_region ?_
  refine tr_p (y_move rfl) rfl rfl ?_
  refine tr_p (y_move rfl) rfl rfl ?_
  refine tr_p (y_cmpS cmpS_132 rfl) rfl rfl ?_
  refine tr_p (y_assign rfl) rfl rfl ?_
  refine tr_nil ?_
  refine tr_thenN ?_
  refine tr_ret ?_
  exact tr_ret1 rfl rfl ⟨_, rfl, H⟩
/-- strings.Compare -/
def F.strings_Compare (p0 : ByteArray) (p1 : ByteArray) (h : H) (Q : Int → H → Prop) : Prop :=
  F.internal_bytealg_CompareString p0 p1 h fun r2 h1 =>
  Q r2 h1
theorem F.strings_Compare_ok {p0 : ByteArray} {p1 : ByteArray} {h : H} {Q : Int → H → Prop} (H : F.strings_Compare p0 p1 h Q) : Fn PP 74 ([(.string p0), (.string p1)] : List Value).toArray h fun r h' => ∃ r0, r = (.int .i64 r0) ∧ Q r0 h' := by
  unfold F.strings_Compare at H
  refine fn_of Tryz.func74 Tryz.ntmps74 rfl rfl fun w0 => ?_
  refine tr_sub [(0, (.string p0)), (1, (.string p1))] ⟨rfl, rfl, trivial⟩ ?_
  refine tr_seq ?_
  refine tr_region ?_
  refine tr_p (y_assign rfl) rfl rfl ?_
  refine tr_nil ?_
  refine tr_thenN ?_
  refine tr_seq ?_
  refine tr_region ?_
  refine tr_p (y_move rfl) rfl rfl ?_
  refine tr_p (y_move rfl) rfl rfl ?_
  refine tr_e (e_call Tryz.call112 rfl (F.internal_bytealg_CompareString_ok H)) rfl rfl ?_
  rintro _ h1 ⟨r2, rfl, H⟩
  refine tr_p (y_assign rfl) rfl rfl ?_
  refine tr_nil ?_
  refine tr_thenN ?_
  refine tr_ret ?_
  exact tr_ret1 rfl rfl ⟨_, rfl, H⟩
/-- cmp.isNaN[int64] -/
def F.cmp_isNaN_int64 (p0 : Int) (h : H) (Q : Bool → H → Prop) : Prop :=
  Q ((p0 != p0)) h
theorem F.cmp_isNaN_int64_ok {p0 : Int} {h : H} {Q : Bool → H → Prop} (H : F.cmp_isNaN_int64 p0 h Q) : Fn PP 113 ([(.int .i64 p0)] : List Value).toArray h fun r h' => ∃ r0, r = (.bool r0) ∧ Q r0 h' := by
  unfold F.cmp_isNaN_int64 at H
  refine fn_of Tryz.func113 Tryz.ntmps113 rfl rfl fun w0 => ?_
  refine tr_sub [(0, (.int .i64 p0))] ⟨rfl, trivial⟩ ?_
  refine tr_seq ?_
  refine tr_region ?_
  refine tr_p (y_assign rfl) rfl rfl ?_
  refine tr_nil ?_
  refine tr_thenN ?_
  refine tr_seq ?_
  refine tr_region ?_
  refine tr_p (y_move rfl) rfl rfl ?_
  refine tr_p (y_move rfl) rfl rfl ?_
  refine tr_p (y_neq rfl rfl) rfl rfl ?_
  refine tr_p (y_assign rfl) rfl rfl ?_
  refine tr_nil ?_
  refine tr_thenN ?_
  refine tr_ret ?_
  exact tr_ret1 rfl rfl ⟨_, rfl, H⟩
/-- cmp.Compare[int64] -/
def F.cmp_Compare_int64 (p0 : Int) (p1 : Int) (h : H) (Q : Int → H → Prop) : Prop :=
  F.cmp_isNaN_int64 p0 h fun r2 h1 =>
  F.cmp_isNaN_int64 p1 h1 fun r4 h3 =>
  (r2 = true →
  (r4 = true →
  Q 0 h3) ∧
  (r4 = false →
  Q (-1) h3)) ∧
  (r2 = false →
  (r4 = true →
  Q 1 h3) ∧
  (r4 = false →
  ((decide (p0 < p1)) = true →
  Q (-1) h3) ∧
  ((decide (p0 < p1)) = false →
  ((decide (p0 > p1)) = true →
  Q 1 h3) ∧
  ((decide (p0 > p1)) = false →
  Q 0 h3))))
theorem F.cmp_Compare_int64_ok {p0 : Int} {p1 : Int} {h : H} {Q : Int → H → Prop} (H : F.cmp_Compare_int64 p0 p1 h Q) : Fn PP 75 ([(.int .i64 p0), (.int .i64 p1)] : List Value).toArray h fun r h' => ∃ r0, r = (.int .i64 r0) ∧ Q r0 h' := by
  unfold F.cmp_Compare_int64 at H
  refine fn_of Tryz.func75 Tryz.ntmps75 rfl rfl fun w0 => ?_
  refine tr_sub [(0, (.int .i64 p0)), (1, (.int .i64 p1))] ⟨rfl, rfl, trivial⟩ ?_
  refine tr_seq ?_
  refine tr_region ?_
  refine tr_p (y_assign rfl) rfl rfl ?_
  refine tr_nil ?_
  refine tr_thenN ?_
  refine tr_seq ?_
  refine tr_region ?_
  refine tr_p (y_move rfl) rfl rfl ?_
  refine tr_e (e_call Tryz.call113 rfl (F.cmp_isNaN_int64_ok H)) rfl rfl ?_
  rintro _ h1 ⟨r2, rfl, H⟩
  refine tr_p (y_assign rfl) rfl rfl ?_
  refine tr_nil ?_
  refine tr_thenN ?_
  refine tr_seq ?_
  refine tr_region ?_
  refine tr_p (y_move rfl) rfl rfl ?_
  refine tr_e (e_call Tryz.call113 rfl (F.cmp_isNaN_int64_ok H)) rfl rfl ?_
  rintro _ h3 ⟨r4, rfl, H⟩
  refine tr_p (y_assign rfl) rfl rfl ?_
  refine tr_nil ?_
  refine tr_thenN ?_
  refine tr_seq ?_
  refine tr_seq ?_
  refine tr_region ?_
  refine tr_p (y_move rfl) rfl rfl ?_
  refine tr_nil ?_
  refine tr_thenN ?_
  refine tr_cond rfl (fun g5 => ?_) (fun g5 => ?_)
  · replace H := H.1 g5
    refine tr_seq ?_
    refine tr_seq ?_
    refine tr_region ?_
    refine tr_p (y_move rfl) rfl rfl ?_
    refine tr_nil ?_
    refine tr_thenN ?_
    refine tr_cond rfl (fun g6 => ?_) (fun g6 => ?_)
    · replace H := H.1 g6
      refine tr_seq ?_
      refine tr_region ?_
      refine tr_p (y_assign rfl) rfl rfl ?_
      refine tr_nil ?_
      refine tr_thenN ?_
      refine tr_ret ?_
      refine tr_thenR ?_
      refine tr_thenR ?_
      exact tr_ret1 rfl rfl ⟨_, rfl, H⟩
    · replace H := H.2 g6
      refine tr_skip ?_
      refine tr_thenN ?_
      refine tr_seq ?_
      refine tr_region ?_
      refine tr_p (y_assign rfl) rfl rfl ?_
      refine tr_nil ?_
      refine tr_thenN ?_
      refine tr_ret ?_
      refine tr_thenR ?_
      exact tr_ret1 rfl rfl ⟨_, rfl, H⟩
  · replace H := H.2 g5
    refine tr_skip ?_
    refine tr_thenN ?_
    refine tr_seq ?_
    refine tr_seq ?_
    refine tr_region ?_
    refine tr_p (y_move rfl) rfl rfl ?_
    refine tr_nil ?_
    refine tr_thenN ?_
    refine tr_cond rfl (fun g7 => ?_) (fun g7 => ?_)
    · replace H := H.1 g7
      refine tr_seq ?_
      refine tr_region ?_
      refine tr_p (y_assign rfl) rfl rfl ?_
      refine tr_nil ?_
      refine tr_thenN ?_
      refine tr_ret ?_
      refine tr_thenR ?_
      exact tr_ret1 rfl rfl ⟨_, rfl, H⟩
    · replace H := H.2 g7
      refine tr_skip ?_
      refine tr_thenN ?_
      refine tr_seq ?_
      refine tr_seq ?_
      refine tr_region ?_
      refine tr_p (y_move rfl) rfl rfl ?_
      refine tr_p (y_move rfl) rfl rfl ?_
      refine tr_p (y_lss rfl rfl) rfl rfl ?_
      refine tr_nil ?_
      refine tr_thenN ?_
      refine tr_cond rfl (fun g8 => ?_) (fun g8 => ?_)
      · replace H := H.1 g8
        refine tr_seq ?_
        refine tr_region ?_
        refine tr_p (y_assign rfl) rfl rfl ?_
        refine tr_nil ?_
        refine tr_thenN ?_
        refine tr_ret ?_
        refine tr_thenR ?_
        exact tr_ret1 rfl rfl ⟨_, rfl, H⟩
      · replace H := H.2 g8
        refine tr_skip ?_
        refine tr_thenN ?_
        refine tr_seq ?_
        refine tr_seq ?_
        refine tr_region ?_
        refine tr_p (y_move rfl) rfl rfl ?_
        refine tr_p (y_move rfl) rfl rfl ?_
        refine tr_p (y_gtr rfl rfl) rfl rfl ?_
        refine tr_nil ?_
        refine tr_thenN ?_
        refine tr_cond rfl (fun g9 => ?_) (fun g9 => ?_)
        · replace H := H.1 g9
          refine tr_seq ?_
          refine tr_region ?_
          refine tr_p (y_assign rfl) rfl rfl ?_
          refine tr_nil ?_
          refine tr_thenN ?_
          refine tr_ret ?_
          refine tr_thenR ?_
          exact tr_ret1 rfl rfl ⟨_, rfl, H⟩
        · replace H := H.2 g9
          refine tr_skip ?_
          refine tr_thenN ?_
          refine tr_seq ?_
          refine tr_region ?_
          refine tr_p (y_assign rfl) rfl rfl ?_
          refine tr_nil ?_
          refine tr_thenN ?_
          refine tr_ret ?_
          exact tr_ret1 rfl rfl ⟨_, rfl, H⟩
def F.cmp_Or_int.l1 (Q : Int → H → Prop) : Nat → Int → Sl → Int → Int → H → Prop
  | 0, _, _, _, _, _ => False
  | q1 + 1, x3, x6, x7, x8, h =>
    ((decide (x8 < x7)) = true →
    idxA x6 x8 1 fun a2 =>
    ldI .i64 h a2 fun y4 =>
    (((y4 != x3)) = true →
    Q y4 h) ∧
    (((y4 != x3)) = false →
    (F.cmp_Or_int.l1 Q q1) x3 x6 x7 (IntKind.wrap .i64 (x8 + 1)) h)) ∧
    ((decide (x8 < x7)) = false →
    Q x3 h)
/-- cmp.Or[int] -/
def F.cmp_Or_int (p0 : Sl) (h : H) (Q : Int → H → Prop) : Prop :=
  ∃ m, F.cmp_Or_int.l1 Q m 0 p0 (p0.len : Int) 0 h
theorem F.cmp_Or_int_ok {p0 : Sl} {h : H} {Q : Int → H → Prop} (H : F.cmp_Or_int p0 h Q) : Fn PP 72 ([p0.enc] : List Value).toArray h fun r h' => ∃ r0, r = (.int .i64 r0) ∧ Q r0 h' := by
  unfold F.cmp_Or_int at H
  refine fn_of Tryz.func72 Tryz.ntmps72 rfl rfl fun w0 => ?_
  refine tr_sub [(0, p0.enc)] ⟨rfl, trivial⟩ ?_
  refine tr_seq ?_
  refine tr_region ?_
  refine tr_p (y_assign rfl) rfl rfl ?_
  refine tr_nil ?_
  refine tr_thenN ?_
  refine tr_seq ?_
  refine tr_region ?_
  refine tr_p (y_assign rfl) rfl rfl ?_
  refine tr_nil ?_
  refine tr_thenN ?_
  refine tr_seq ?_
  refine tr_seq ?_
  refine tr_region ?_
  refine tr_p (y_move rfl) rfl rfl ?_
  refine tr_p (y_len (ts := #[]) Tryz.runUnderlying35 (o := p0.ptr) (n := p0.len) (cap := p0.cap) rfl) rfl rfl ?_
  refine tr_p (y_move rfl) rfl rfl ?_
  refine tr_nil ?_
  refine tr_thenN ?_
  refine tr_block ?_
  obtain ⟨m7, H⟩ := H
  refine tr_sub [(3, (.int .i64 0)), (6, p0.enc), (7, (.int .i64 (p0.len : Int))), (8, (.int .i64 0))] ⟨rfl, rfl, rfl, rfl, trivial⟩ ?_
  refine tr_loop_j (fun m L' h => ∃ (x3 : Int) (x6 : Sl) (x7 : Int) (x8 : Int), L' = [(3, (.int .i64 x3)), (6, x6.enc), (7, (.int .i64 x7)), (8, (.int .i64 x8))] ∧ F.cmp_Or_int.l1 Q m x3 x6 x7 x8 h) ?_ ?_ m7 ⟨_, _, _, _, rfl, H⟩
  · rintro L' h ⟨_, _, _, _, _, H⟩; exact H
  · rintro q1 L' h ⟨x3, x6, x7, x8, rfl, H⟩
    unfold F.cmp_Or_int.l1 at H
    refine tr_seq ?_
    refine tr_region ?_
    refine tr_p (y_lss rfl rfl) rfl rfl ?_
    refine tr_nil ?_
    refine tr_thenN ?_
    refine tr_seq ?_
    refine tr_cond rfl (fun g1 => ?_) (fun g1 => ?_)
    · replace H := H.1 g1
      refine tr_skip ?_
      refine tr_thenN ?_
      refine tr_seq ?_
      refine tr_block ?_
      refine tr_seq ?_
      refine tr_region ?_
      obtain ⟨a2, e3, H⟩ := H
      refine tr_p (f_idx (s := x6) Tryz.runUnderlying35 Tryz.sizeOf3 rfl rfl e3) rfl rfl ?_
      obtain ⟨y4, k5, H⟩ := H
      refine tr_h (y_ld Tryz.isAgg3 rfl) k5 rfl rfl ?_
      refine tr_p (y_assign rfl) rfl rfl ?_
      refine tr_nil ?_
      refine tr_thenN ?_
      refine tr_seq ?_
      refine tr_region ?_
      refine tr_p (y_move rfl) rfl rfl ?_
      refine tr_p (y_move rfl) rfl rfl ?_
      refine tr_p (y_neq rfl rfl) rfl rfl ?_
      refine tr_nil ?_
      refine tr_thenN ?_
      refine tr_cond rfl (fun g6 => ?_) (fun g6 => ?_)
      · replace H := H.1 g6
        refine tr_seq ?_
        refine tr_region ?_
        refine tr_p (y_move rfl) rfl rfl ?_
        refine tr_p (y_assign rfl) rfl rfl ?_
        refine tr_nil ?_
        refine tr_thenN ?_
        refine tr_ret ?_
        refine tr_blockR ?_
        refine tr_thenR ?_
        refine tr_thenR ?_
        refine tr_blockR ?_
        refine tr_thenR ?_
        exact tr_ret1 rfl rfl ⟨_, rfl, H⟩
      · replace H := H.2 g6
        refine tr_skip ?_
        refine tr_blockN ?_
        refine tr_thenN ?_
        refine tr_region ?_
        refine tr_p (y_add rfl rfl) rfl rfl ?_
        refine tr_p (y_move rfl) rfl rfl ?_
        refine tr_nil ?_
        refine tr_thenN ?_
        exact tr_join [(3, (.int .i64 x3)), (6, x6.enc), (7, (.int .i64 x7)), (8, (.int .i64 (IntKind.wrap .i64 (x8 + 1))))] ⟨rfl, rfl, rfl, rfl, trivial⟩ ⟨_, _, _, _, rfl, H⟩
    · replace H := H.2 g1
      refine tr_exit ?_
      refine tr_thenE ?_
      refine tr_thenE ?_
      refine tr_hit ?_
      refine tr_thenN ?_
      refine tr_seq ?_
      refine tr_region ?_
      refine tr_p (y_move rfl) rfl rfl ?_
      refine tr_p (y_assign rfl) rfl rfl ?_
      refine tr_nil ?_
      refine tr_thenN ?_
      refine tr_ret ?_
      exact tr_ret1 rfl rfl ⟨_, rfl, H⟩
/-- spate/merge.Compare -/
def F.merge_Compare (p0 : S_api_Cell) (p1 : S_api_Cell) (h : H) (Q : Int → H → Prop) : Prop :=
  new h p0.cells.toArray ty_32 fun a2 h1 =>
  new h1 p1.cells.toArray ty_32 fun a4 h3 =>
  ldI .i64 h3 (a2.add 0) fun y5 =>
  ldI .i64 h3 (a4.add 0) fun y7 =>
  ldS h3 (a2.add 1) fun y9 =>
  ldS h3 (a4.add 1) fun y11 =>
  ldI .i64 h3 (a2.add 2) fun y13 =>
  ldI .i64 h3 (a4.add 2) fun y15 =>
  F.cmp_Compare_int y5 y7 h3 fun r18 h17 =>
  cellH h17 (a4.add 2) = some (.int .i64 y15) ∧
  cellH h17 (a2.add 2) = some (.int .i64 y13) ∧
  cellH h17 (a4.add 1) = some (.string y11) ∧
  cellH h17 (a2.add 1) = some (.string y9) ∧
  F.strings_Compare y9 y11 h17 fun r24 h23 =>
  cellH h23 (a4.add 2) = some (.int .i64 y15) ∧
  cellH h23 (a2.add 2) = some (.int .i64 y13) ∧
  F.cmp_Compare_int64 y13 y15 h23 fun r28 h27 =>
  newL h27 #[(.int .i64 r18), (.int .i64 r24), (.int .i64 r28)] ty_3 3 fun s30 h29 =>
  F.cmp_Or_int s30 h29 fun r32 h31 =>
  Q r32 h31
theorem F.merge_Compare_ok {p0 : S_api_Cell} {p1 : S_api_Cell} {h : H} {Q : Int → H → Prop} (H : F.merge_Compare p0 p1 h Q) : Fn PP 36 ([(.agg p0.cells.toArray), (.agg p1.cells.toArray)] : List Value).toArray h fun r h' => ∃ r0, r = (.int .i64 r0) ∧ Q r0 h' := by
  unfold F.merge_Compare at H
  refine fn_of Tryz.func36 Tryz.ntmps36 rfl rfl fun w0 => ?_
  refine tr_sub [(0, (.agg p0.cells.toArray)), (1, (.agg p1.cells.toArray))] ⟨rfl, rfl, trivial⟩ ?_
  refine tr_seq ?_
  refine tr_region ?_
  refine tr_e (f_box (cs := p0.cells.toArray) rfl rfl H) rfl rfl ?_
  rintro _ h1 ⟨a2, rfl, H⟩
  refine tr_e (f_box (cs := p1.cells.toArray) rfl rfl H) rfl rfl ?_
  rintro _ h3 ⟨a4, rfl, H⟩
  refine tr_p (y_assign rfl) rfl rfl ?_
  refine tr_nil ?_
  refine tr_thenN ?_
  refine tr_seq ?_
  refine tr_draw mixed [0, 1, 0, 4, 15, 0, 32, 0, 128, 511, 0, 1024, 0, 4096, 16383, 32767, 65535, 131071] (by kernel_rfl) ?_
  refine g_p 0 1 rfl (by kernel_rfl) (y_fa (off := 0) Tryz.runUnderlying32 fo_32_0 rfl) rfl rfl ?_
  obtain ⟨y5, k6, H⟩ := H
  refine g_h 1 3 rfl (by kernel_rfl) (y_ld Tryz.isAgg3 rfl) k6 rfl rfl ?_
  refine g_p 2 7 rfl (by kernel_rfl) (y_fa (off := 0) Tryz.runUnderlying32 fo_32_0 rfl) rfl rfl ?_
  obtain ⟨y7, k8, H⟩ := H
  refine g_h 3 15 rfl (by kernel_rfl) (y_ld Tryz.isAgg3 rfl) k8 rfl rfl ?_
  refine g_p 5 47 rfl (by kernel_rfl) (y_fa (off := 1) Tryz.runUnderlying32 fo_32_1 rfl) rfl rfl ?_
  obtain ⟨y9, k10, H⟩ := H
  refine g_h 6 111 rfl (by kernel_rfl) (y_ld Tryz.isAgg9 rfl) k10 rfl rfl ?_
  refine g_p 7 239 rfl (by kernel_rfl) (y_fa (off := 1) Tryz.runUnderlying32 fo_32_1 rfl) rfl rfl ?_
  obtain ⟨y11, k12, H⟩ := H
  refine g_h 8 495 rfl (by kernel_rfl) (y_ld Tryz.isAgg9 rfl) k12 rfl rfl ?_
  refine g_p 10 1519 rfl (by kernel_rfl) (y_fa (off := 2) Tryz.runUnderlying32 fo_32_2 rfl) rfl rfl ?_
  obtain ⟨y13, k14, H⟩ := H
  refine g_h 11 3567 rfl (by kernel_rfl) (y_ld Tryz.isAgg2 rfl) k14 rfl rfl ?_
  refine g_p 12 7663 rfl (by kernel_rfl) (y_fa (off := 2) Tryz.runUnderlying32 fo_32_2 rfl) rfl rfl ?_
  obtain ⟨y15, k16, H⟩ := H
  refine g_h 13 15855 rfl (by kernel_rfl) (y_ld Tryz.isAgg2 rfl) k16 rfl rfl ?_
  refine g_e 4 15871 [(13, fun h => cellH h (a4.add 2) = some (.int .i64 y15)), (11, fun h => cellH h (a2.add 2) = some (.int .i64 y13)), (8, fun h => cellH h (a4.add 1) = some (.string y11)), (6, fun h => cellH h (a2.add 1) = some (.string y9))] (by kernel_rfl) rfl (by kernel_rfl) (e_call Tryz.call73 rfl (F.cmp_Compare_int_ok H)) rfl rfl ?_
  rintro _ h17 ⟨r18, rfl, H⟩
  obtain ⟨k19, k20, k21, k22, H⟩ := H
  refine ⟨And.intro k19 (And.intro k20 (And.intro k21 (And.intro k22 trivial))), ?_⟩
  refine g_e 9 16383 [(13, fun h => cellH h (a4.add 2) = some (.int .i64 y15)), (11, fun h => cellH h (a2.add 2) = some (.int .i64 y13))] (by kernel_rfl) rfl (by kernel_rfl) (e_call Tryz.call74 rfl (F.strings_Compare_ok H)) rfl rfl ?_
  rintro _ h23 ⟨r24, rfl, H⟩
  obtain ⟨k25, k26, H⟩ := H
  refine ⟨And.intro k25 (And.intro k26 trivial), ?_⟩
  refine g_e 14 32767 [] (by kernel_rfl) rfl (by kernel_rfl) (e_call Tryz.call75 rfl (F.cmp_Compare_int64_ok H)) rfl rfl ?_
  rintro _ h27 ⟨r28, rfl, H⟩
  refine ⟨trivial, ?_⟩
  refine g_e 15 65535 [] (by kernel_rfl) rfl (by kernel_rfl) (f_buildL (cs := #[(.int .i64 r18), (.int .i64 r24), (.int .i64 r28)]) rfl rfl (bl_35_3_0_1_2 r18 r24 r28) H) rfl rfl ?_
  rintro _ h29 ⟨s30, rfl, H⟩
  refine ⟨trivial, ?_⟩
  refine g_e 16 131071 [] (by kernel_rfl) rfl (by kernel_rfl) (e_call Tryz.call72 rfl (F.cmp_Or_int_ok H)) rfl rfl ?_
  rintro _ h31 ⟨r32, rfl, H⟩
  refine ⟨trivial, ?_⟩
  refine g_p 17 262143 rfl (by kernel_rfl) (y_assign rfl) rfl rfl ?_
  refine g_d (by kernel_rfl) ?_
  refine tr_thenN ?_
  refine tr_ret ?_
  exact tr_ret1 rfl rfl ⟨_, rfl, H⟩
def F.slices_Compact_Slapi_Cell_api_Cell.j3 (Q : Sl → H → Prop) (C1 : Sl → Int → H → Prop) (C2 : Sl → Int → Sl → Int → H → Prop) (x0 : Sl) (x3 : Int) (x4 : Sl) (x5 : Int) (h : H) : Prop :=
  C2 x0 x3 x4 (IntKind.wrap .i64 (x5 + 1)) h
def F.slices_Compact_Slapi_Cell_api_Cell.l2 (Q : Sl → H → Prop) (C1 : Sl → Int → H → Prop) : Nat → Sl → Int → Sl → Int → H → Prop
  | 0, _, _, _, _, _ => False
  | q2 + 1, x0, x3, x4, x5, h =>
    ((decide (x5 < (x4.len : Int))) = true →
    idxA x4 x5 3 fun a15 =>
    ld_S_api_Cell h a15 fun y17 =>
    idxA x4 (IntKind.wrap .i64 (x5 - 1)) 3 fun a19 =>
    ld_S_api_Cell h a19 fun y21 =>
    ((!((y17.View == y21.View) && ((y17.Key.toList == y21.Key.toList) && ((y17.Start == y21.Start) && true)))) = true →
    idxA x4 x5 3 fun a24 =>
    ld_S_api_Cell h a24 fun y26 =>
    idxA x0 x3 3 fun a28 =>
    stH h a28 y26.cells fun h30 =>
    F.slices_Compact_Slapi_Cell_api_Cell.j3 Q C1 (F.slices_Compact_Slapi_Cell_api_Cell.l2 Q C1 q2) x0 (IntKind.wrap .i64 (x3 + 1)) x4 x5 h30) ∧
    ((!((y17.View == y21.View) && ((y17.Key.toList == y21.Key.toList) && ((y17.Start == y21.Start) && true)))) = false →
    F.slices_Compact_Slapi_Cell_api_Cell.j3 Q C1 (F.slices_Compact_Slapi_Cell_api_Cell.l2 Q C1 q2) x0 x3 x4 x5 h)) ∧
    ((decide (x5 < (x4.len : Int))) = false →
    cutL x0 x3 (x0.len : Int) 3 fun s32 =>
    RunS PP (Builtin.clear_ #[23] 0 #[s32.enc]) h fun u h33 => u = (.tuple #[]) ∧
    cutL x0 0 x3 3 fun s36 =>
    Q s36 h33)
def F.slices_Compact_Slapi_Cell_api_Cell.l1 (Q : Sl → H → Prop) : Nat → Sl → Int → H → Prop
  | 0, _, _, _ => False
  | q1 + 1, x0, x3, h =>
    ((decide (x3 < (x0.len : Int))) = true →
    idxA x0 x3 3 fun a3 =>
    ld_S_api_Cell h a3 fun y5 =>
    idxA x0 (IntKind.wrap .i64 (x3 - 1)) 3 fun a7 =>
    ld_S_api_Cell h a7 fun y9 =>
    (((y5.View == y9.View) && ((y5.Key.toList == y9.Key.toList) && ((y5.Start == y9.Start) && true))) = true →
    cutL x0 x3 (x0.len : Int) 3 fun s13 =>
    ∃ m, F.slices_Compact_Slapi_Cell_api_Cell.l2 Q (F.slices_Compact_Slapi_Cell_api_Cell.l1 Q q1) m x0 x3 s13 1 h) ∧
    (((y5.View == y9.View) && ((y5.Key.toList == y9.Key.toList) && ((y5.Start == y9.Start) && true))) = false →
    (F.slices_Compact_Slapi_Cell_api_Cell.l1 Q q1) x0 (IntKind.wrap .i64 (x3 + 1)) h)) ∧
    ((decide (x3 < (x0.len : Int))) = false →
    Q x0 h)
/-- slices.Compact[[]spate/api.Cell,spate/api.Cell] -/
def F.slices_Compact_Slapi_Cell_api_Cell (p0 : Sl) (h : H) (Q : Sl → H → Prop) : Prop :=
  ((decide ((p0.len : Int) < 2)) = true →
  Q p0 h) ∧
  ((decide ((p0.len : Int) < 2)) = false →
  ∃ m, F.slices_Compact_Slapi_Cell_api_Cell.l1 Q m p0 1 h)
theorem F.slices_Compact_Slapi_Cell_api_Cell_ok {p0 : Sl} {h : H} {Q : Sl → H → Prop} (H : F.slices_Compact_Slapi_Cell_api_Cell p0 h Q) : Fn PP 37 ([p0.enc] : List Value).toArray h fun r h' => ∃ r0, r = r0.enc ∧ Q r0 h' := by
  unfold F.slices_Compact_Slapi_Cell_api_Cell at H
  refine fn_of Tryz.func37 Tryz.ntmps37 rfl rfl fun w0 => ?_
  refine tr_sub [(0, p0.enc)] ⟨rfl, trivial⟩ ?_
  refine tr_seq ?_
  refine tr_region ?_
  refine tr_p (y_assign rfl) rfl rfl ?_
  refine tr_nil ?_
  refine tr_thenN ?_
  refine tr_seq ?_
  refine tr_seq ?_
  refine tr_region ?_
  refine tr_p (y_move rfl) rfl rfl ?_
  refine tr_p (y_len (ts := #[]) Tryz.runUnderlying23 (o := p0.ptr) (n := p0.len) (cap := p0.cap) rfl) rfl rfl ?_
  refine tr_p (y_lss rfl rfl) rfl rfl ?_
  refine tr_nil ?_
  refine tr_thenN ?_
  refine tr_cond rfl (fun g1 => ?_) (fun g1 => ?_)
  · replace H := H.1 g1
    refine tr_seq ?_
    refine tr_region ?_
    refine tr_p (y_move rfl) rfl rfl ?_
    refine tr_p (y_assign rfl) rfl rfl ?_
    refine tr_nil ?_
    refine tr_thenN ?_
    refine tr_ret ?_
    refine tr_thenR ?_
    exact tr_ret1 rfl rfl ⟨_, rfl, H⟩
  · replace H := H.2 g1
    refine tr_skip ?_
    refine tr_thenN ?_
    refine tr_seq ?_
    refine tr_seq ?_
    refine tr_region ?_
    refine tr_p (y_assign rfl) rfl rfl ?_
    refine tr_nil ?_
    refine tr_thenN ?_
    refine tr_block ?_
    obtain ⟨m38, H⟩ := H
    refine tr_sub [(0, p0.enc), (3, (.int .i64 1))] ⟨rfl, rfl, trivial⟩ ?_
    refine tr_loop_j (fun m L' h => ∃ (x0 : Sl) (x3 : Int), L' = [(0, x0.enc), (3, (.int .i64 x3))] ∧ F.slices_Compact_Slapi_Cell_api_Cell.l1 Q m x0 x3 h) ?_ ?_ m38 ⟨_, _, rfl, H⟩
    · rintro L' h ⟨_, _, _, H⟩; exact H
    · rintro q1 L' h ⟨x0, x3, rfl, H⟩
      unfold F.slices_Compact_Slapi_Cell_api_Cell.l1 at H
      refine tr_seq ?_
      refine tr_seq ?_
      refine tr_region ?_
      refine tr_p (y_move rfl) rfl rfl ?_
      refine tr_p (y_move rfl) rfl rfl ?_
      refine tr_p (y_len (ts := #[]) Tryz.runUnderlying23 (o := x0.ptr) (n := x0.len) (cap := x0.cap) rfl) rfl rfl ?_
      refine tr_p (y_lss rfl rfl) rfl rfl ?_
      refine tr_nil ?_
      refine tr_thenN ?_
      refine tr_cond rfl (fun g2 => ?_) (fun g2 => ?_)
      · replace H := H.1 g2
        refine tr_skip ?_
        refine tr_thenN ?_
        refine tr_seq ?_
        refine tr_block ?_
        refine tr_seq ?_
        refine tr_draw mixed [0, 0, 3, 7, 0, 0, 32, 112, 240, 511] (by kernel_rfl) ?_
        refine g_p 0 1 rfl (by kernel_rfl) (y_move rfl) rfl rfl ?_
        refine g_p 1 3 rfl (by kernel_rfl) (y_move rfl) rfl rfl ?_
        obtain ⟨a3, e4, H⟩ := H
        refine g_p 2 7 rfl (by kernel_rfl) (f_idx (s := x0) Tryz.runUnderlying23 Tryz.sizeOf32 rfl rfl e4) rfl rfl ?_
        obtain ⟨y5, k6, H⟩ := H
        refine g_h 3 15 rfl (by kernel_rfl) (y_ldS Tryz.isAgg32 Tryz.sizeOf32 rfl rfl) k6 rfl rfl ?_
        refine g_p 4 31 rfl (by kernel_rfl) (y_move rfl) rfl rfl ?_
        refine g_p 5 63 rfl (by kernel_rfl) (y_move rfl) rfl rfl ?_
        refine g_p 6 127 rfl (by kernel_rfl) (y_sub rfl rfl) rfl rfl ?_
        obtain ⟨a7, e8, H⟩ := H
        refine g_p 7 255 rfl (by kernel_rfl) (f_idx (s := x0) Tryz.runUnderlying23 Tryz.sizeOf32 rfl rfl e8) rfl rfl ?_
        obtain ⟨y9, k10, H⟩ := H
        refine g_h 8 511 rfl (by kernel_rfl) (y_ldS Tryz.isAgg32 Tryz.sizeOf32 rfl rfl) k10 rfl rfl ?_
        refine g_p 9 1023 rfl (by kernel_rfl) (st_eql (b := ((y5.View == y9.View) && ((y5.Key.toList == y9.Key.toList) && ((y5.Start == y9.Start) && true)))) eqg_32 (fun w => eqst_32 y5 y9 9998 w) rfl rfl) rfl rfl ?_
        refine g_d (by kernel_rfl) ?_
        refine tr_thenN ?_
        refine tr_cond rfl (fun g11 => ?_) (fun g11 => ?_)
        · replace H := H.1 g11
          refine tr_seq ?_
          refine tr_region ?_
          refine tr_p (y_move rfl) rfl rfl ?_
          refine tr_p (y_move rfl) rfl rfl ?_
          obtain ⟨s13, e12, H⟩ := H
          refine tr_p (f_cutL (s := x0) (some (.i64, x3)) none Tryz.runUnderlying23 Tryz.sizeOf32 rfl rfl rfl e12) rfl rfl ?_
          refine tr_p (y_assign rfl) rfl rfl ?_
          refine tr_nil ?_
          refine tr_thenN ?_
          refine tr_seq ?_
          refine tr_seq ?_
          refine tr_region ?_
          refine tr_p (y_assign rfl) rfl rfl ?_
          refine tr_nil ?_
          refine tr_thenN ?_
          refine tr_block ?_
          obtain ⟨m37, H⟩ := H
          refine tr_sub [(0, x0.enc), (3, (.int .i64 x3)), (4, s13.enc), (5, (.int .i64 1))] ⟨rfl, rfl, rfl, rfl, trivial⟩ ?_
          refine tr_loop_j (fun m L' h => ∃ (x0 : Sl) (x3 : Int) (x4 : Sl) (x5 : Int), L' = [(0, x0.enc), (3, (.int .i64 x3)), (4, x4.enc), (5, (.int .i64 x5))] ∧ F.slices_Compact_Slapi_Cell_api_Cell.l2 Q (F.slices_Compact_Slapi_Cell_api_Cell.l1 Q q1) m x0 x3 x4 x5 h) ?_ ?_ m37 ⟨_, _, _, _, rfl, H⟩
          · rintro L' h ⟨_, _, _, _, _, H⟩; exact H
          · rintro q2 L' h ⟨x0, x3, x4, x5, rfl, H⟩
            unfold F.slices_Compact_Slapi_Cell_api_Cell.l2 at H
            refine tr_seq ?_
            refine tr_seq ?_
            refine tr_region ?_
            refine tr_p (y_move rfl) rfl rfl ?_
            refine tr_p (y_move rfl) rfl rfl ?_
            refine tr_p (y_len (ts := #[]) Tryz.runUnderlying23 (o := x4.ptr) (n := x4.len) (cap := x4.cap) rfl) rfl rfl ?_
            refine tr_p (y_lss rfl rfl) rfl rfl ?_
            refine tr_nil ?_
            refine tr_thenN ?_
            refine tr_cond rfl (fun g14 => ?_) (fun g14 => ?_)
            · replace H := H.1 g14
              refine tr_skip ?_
              refine tr_thenN ?_
              refine tr_seq_j (fun L' h => ∃ (x0 : Sl) (x3 : Int) (x4 : Sl) (x5 : Int), L' = [(0, x0.enc), (3, (.int .i64 x3)), (4, x4.enc), (5, (.int .i64 x5))] ∧ F.slices_Compact_Slapi_Cell_api_Cell.j3 Q (F.slices_Compact_Slapi_Cell_api_Cell.l1 Q q1) (F.slices_Compact_Slapi_Cell_api_Cell.l2 Q (F.slices_Compact_Slapi_Cell_api_Cell.l1 Q q1) q2) x0 x3 x4 x5 h) ?_ ?_
              · rintro L' h ⟨x0, x3, x4, x5, rfl, H⟩
                unfold F.slices_Compact_Slapi_Cell_api_Cell.j3 at H
                refine tr_region ?_
                refine tr_p (y_move rfl) rfl rfl ?_
                refine tr_p (y_add rfl rfl) rfl rfl ?_
                refine tr_p (y_assign rfl) rfl rfl ?_
                refine tr_nil ?_
                refine tr_thenN ?_
                exact tr_join [(0, x0.enc), (3, (.int .i64 x3)), (4, x4.enc), (5, (.int .i64 (IntKind.wrap .i64 (x5 + 1))))] ⟨rfl, rfl, rfl, rfl, trivial⟩ ⟨_, _, _, _, rfl, H⟩
              · refine tr_block ?_
                refine tr_seq ?_
                refine tr_draw mixed [0, 0, 3, 7, 0, 0, 32, 112, 240, 511] (by kernel_rfl) ?_
                refine g_p 0 1 rfl (by kernel_rfl) (y_move rfl) rfl rfl ?_
                refine g_p 1 3 rfl (by kernel_rfl) (y_move rfl) rfl rfl ?_
                obtain ⟨a15, e16, H⟩ := H
                refine g_p 2 7 rfl (by kernel_rfl) (f_idx (s := x4) Tryz.runUnderlying23 Tryz.sizeOf32 rfl rfl e16) rfl rfl ?_
                obtain ⟨y17, k18, H⟩ := H
                refine g_h 3 15 rfl (by kernel_rfl) (y_ldS Tryz.isAgg32 Tryz.sizeOf32 rfl rfl) k18 rfl rfl ?_
                refine g_p 4 31 rfl (by kernel_rfl) (y_move rfl) rfl rfl ?_
                refine g_p 5 63 rfl (by kernel_rfl) (y_move rfl) rfl rfl ?_
                refine g_p 6 127 rfl (by kernel_rfl) (y_sub rfl rfl) rfl rfl ?_
                obtain ⟨a19, e20, H⟩ := H
                refine g_p 7 255 rfl (by kernel_rfl) (f_idx (s := x4) Tryz.runUnderlying23 Tryz.sizeOf32 rfl rfl e20) rfl rfl ?_
                obtain ⟨y21, k22, H⟩ := H
                refine g_h 8 511 rfl (by kernel_rfl) (y_ldS Tryz.isAgg32 Tryz.sizeOf32 rfl rfl) k22 rfl rfl ?_
                refine g_p 9 1023 rfl (by kernel_rfl) (st_neq (b := ((y17.View == y21.View) && ((y17.Key.toList == y21.Key.toList) && ((y17.Start == y21.Start) && true)))) eqg_32 (fun w => eqst_32 y17 y21 9998 w) rfl rfl) rfl rfl ?_
                refine g_d (by kernel_rfl) ?_
                refine tr_thenN ?_
                refine tr_cond rfl (fun g23 => ?_) (fun g23 => ?_)
                · replace H := H.1 g23
                  refine tr_seq ?_
                  refine tr_region ?_
                  refine tr_p (y_move rfl) rfl rfl ?_
                  refine tr_p (y_move rfl) rfl rfl ?_
                  refine tr_p (y_move rfl) rfl rfl ?_
                  refine tr_p (y_move rfl) rfl rfl ?_
                  obtain ⟨a24, e25, H⟩ := H
                  refine tr_p (f_idx (s := x4) Tryz.runUnderlying23 Tryz.sizeOf32 rfl rfl e25) rfl rfl ?_
                  obtain ⟨y26, k27, H⟩ := H
                  refine tr_h (y_ldS Tryz.isAgg32 Tryz.sizeOf32 rfl rfl) k27 rfl rfl ?_
                  obtain ⟨a28, e29, H⟩ := H
                  refine tr_p (f_idx (s := x0) Tryz.runUnderlying23 Tryz.sizeOf32 rfl rfl e29) rfl rfl ?_
                  refine tr_e (f_store (vs := y26.cells) Tryz.sizeOf32 rfl rfl cellsOfStruct rfl (by intro v hv; exact ones_S_api_Cell _ v hv) H) rfl rfl ?_
                  rintro _ h30 ⟨rfl, H⟩
                  refine tr_nil ?_
                  refine tr_thenN ?_
                  refine tr_region ?_
                  refine tr_p (y_move rfl) rfl rfl ?_
                  refine tr_p (y_add rfl rfl) rfl rfl ?_
                  refine tr_p (y_assign rfl) rfl rfl ?_
                  refine tr_nil ?_
                  refine tr_blockN ?_
                  refine tr_thenN ?_
                  exact tr_join [(0, x0.enc), (3, (.int .i64 (IntKind.wrap .i64 (x3 + 1)))), (4, x4.enc), (5, (.int .i64 x5))] ⟨rfl, rfl, rfl, rfl, trivial⟩ ⟨_, _, _, _, rfl, H⟩
                · replace H := H.2 g23
                  refine tr_skip ?_
                  refine tr_blockN ?_
                  refine tr_thenN ?_
                  exact tr_join [(0, x0.enc), (3, (.int .i64 x3)), (4, x4.enc), (5, (.int .i64 x5))] ⟨rfl, rfl, rfl, rfl, trivial⟩ ⟨_, _, _, _, rfl, H⟩
            · replace H := H.2 g14
              refine tr_exit ?_
              refine tr_thenE ?_
              refine tr_thenE ?_
              refine tr_hit ?_
              refine tr_thenN ?_
              refine tr_seq ?_
              refine tr_region ?_
              refine tr_p (y_move rfl) rfl rfl ?_
              refine tr_p (y_move rfl) rfl rfl ?_
              obtain ⟨s32, e31, H⟩ := H
              refine tr_p (f_cutL (s := x0) (some (.i64, x3)) none Tryz.runUnderlying23 Tryz.sizeOf32 rfl rfl rfl e31) rfl rfl ?_
              refine tr_e (f_clear rfl H) rfl rfl ?_
              rintro _ h33 ⟨rfl, H⟩
              refine tr_nil ?_
              refine tr_thenN ?_
              refine tr_seq ?_
              refine tr_region ?_
              refine tr_p (y_move rfl) rfl rfl ?_
              refine tr_p (y_move rfl) rfl rfl ?_
              obtain ⟨s36, e35, H⟩ := H
              refine tr_p (f_cutL (s := x0) none (some (.i64, x3)) Tryz.runUnderlying23 Tryz.sizeOf32 rfl rfl rfl e35) rfl rfl ?_
              refine tr_p (y_assign rfl) rfl rfl ?_
              refine tr_nil ?_
              refine tr_thenN ?_
              refine tr_ret ?_
              refine tr_blockR ?_
              refine tr_thenR ?_
              refine tr_thenR ?_
              refine tr_blockR ?_
              refine tr_thenR ?_
              exact tr_ret1 rfl rfl ⟨_, rfl, H⟩
        · replace H := H.2 g11
          refine tr_skip ?_
          refine tr_blockN ?_
          refine tr_thenN ?_
          refine tr_region ?_
          refine tr_p (y_move rfl) rfl rfl ?_
          refine tr_p (y_add rfl rfl) rfl rfl ?_
          refine tr_p (y_assign rfl) rfl rfl ?_
          refine tr_nil ?_
          refine tr_thenN ?_
          exact tr_join [(0, x0.enc), (3, (.int .i64 (IntKind.wrap .i64 (x3 + 1))))] ⟨rfl, rfl, trivial⟩ ⟨_, _, rfl, H⟩
      · replace H := H.2 g2
        refine tr_exit ?_
        refine tr_thenE ?_
        refine tr_thenE ?_
        refine tr_hit ?_
        refine tr_thenN ?_
        refine tr_seq ?_
        refine tr_region ?_
        refine tr_p (y_move rfl) rfl rfl ?_
        refine tr_p (y_assign rfl) rfl rfl ?_
        refine tr_nil ?_
        refine tr_thenN ?_
        refine tr_ret ?_
        exact tr_ret1 rfl rfl ⟨_, rfl, H⟩
def F.shard_Shard_Need.l1 (Q : Int → H → Prop) : Nat → (Option Addr) → Int → Int → Sl → Int → Int → H → Prop
  | 0, _, _, _, _, _, _, _ => False
  | q1 + 1, x0, x1, x8, x16, x17, x18, h =>
    ((decide (x18 < x17)) = true →
    idxA x16 x18 3 fun a7 =>
    ld_S_api_Cell h a7 fun y9 =>
    new h (((⟨0, (⟨#[]⟩ : ByteArray), 0⟩ : S_api_Cell) : S_api_Cell).cells.toArray) ty_32 fun a12 h11 =>
    stH h11 a12 y9.cells fun h13 =>
    ld_S_api_Cell h13 a12 fun y14 =>
    F.shard_Shard_need x0 x1 y14 h13 fun r17 h16 =>
    (F.shard_Shard_Need.l1 Q q1) x0 x1 (IntKind.wrap .i64 (x8 + r17)) x16 x17 (IntKind.wrap .i64 (x18 + 1)) h16) ∧
    ((decide (x18 < x17)) = false →
    Q x8 h)
/-- (*spate/shard.Shard).Need -/
def F.shard_Shard_Need (p0 : Option Addr) (p1 : Int) (p2 : Sl) (h : H) (Q : Int → H → Prop) : Prop :=
  F.slices_Clone_Slapi_Cell_api_Cell p2 h fun r2 h1 =>
  Fn PP 35 [r2.enc, (.func (.func 36) #[] #[])].toArray h1 fun u h3 => u = (.tuple #[]) ∧
  F.slices_Compact_Slapi_Cell_api_Cell r2 h3 fun r5 h4 =>
  ∃ m, F.shard_Shard_Need.l1 Q m p0 p1 0 r5 (r5.len : Int) 0 h4
theorem F.shard_Shard_Need_ok {p0 : Option Addr} {p1 : Int} {p2 : Sl} {h : H} {Q : Int → H → Prop} (H : F.shard_Shard_Need p0 p1 p2 h Q) : Fn PP 12 ([(.pointer p0), (.int .i64 p1), p2.enc] : List Value).toArray h fun r h' => ∃ r0, r = (.int .i64 r0) ∧ Q r0 h' := by
  unfold F.shard_Shard_Need at H
  refine fn_of Tryz.func12 Tryz.ntmps12 rfl rfl fun w0 => ?_
  refine tr_sub [(0, (.pointer p0)), (1, (.int .i64 p1)), (2, p2.enc)] ⟨rfl, rfl, rfl, trivial⟩ ?_
  refine tr_seq ?_
  refine tr_region ?_
  refine tr_p (y_assign rfl) rfl rfl ?_
  refine tr_nil ?_
  refine tr_thenN ?_
  refine tr_seq ?_
  refine tr_region ?_
  refine tr_p (y_move rfl) rfl rfl ?_
  refine tr_e (e_call Tryz.call34 rfl (F.slices_Clone_Slapi_Cell_api_Cell_ok H)) rfl rfl ?_
  rintro _ h1 ⟨r2, rfl, H⟩
  refine tr_p (y_assign rfl) rfl rfl ?_
  refine tr_nil ?_
  refine tr_thenN ?_
  refine tr_seq ?_
  refine tr_region ?_
  refine tr_p (y_move rfl) rfl rfl ?_
  refine tr_e (e_call Tryz.call35 rfl H) rfl rfl ?_
  rintro _ h3 ⟨rfl, H⟩
  refine tr_nil ?_
  refine tr_thenN ?_
  refine tr_seq ?_
  refine tr_region ?_
  refine tr_p (y_assign rfl) rfl rfl ?_
  refine tr_nil ?_
  refine tr_thenN ?_
  refine tr_seq ?_
  refine tr_seq ?_
  refine tr_region ?_
  refine tr_p (y_move rfl) rfl rfl ?_
  refine tr_e (e_call Tryz.call37 rfl (F.slices_Compact_Slapi_Cell_api_Cell_ok H)) rfl rfl ?_
  rintro _ h4 ⟨r5, rfl, H⟩
  refine tr_p (y_len (ts := #[]) Tryz.runUnderlying23 (o := r5.ptr) (n := r5.len) (cap := r5.cap) rfl) rfl rfl ?_
  refine tr_p (y_move rfl) rfl rfl ?_
  refine tr_nil ?_
  refine tr_thenN ?_
  refine tr_block ?_
  obtain ⟨m18, H⟩ := H
  refine tr_sub [(0, (.pointer p0)), (1, (.int .i64 p1)), (8, (.int .i64 0)), (16, r5.enc), (17, (.int .i64 (r5.len : Int))), (18, (.int .i64 0))] ⟨rfl, rfl, rfl, rfl, rfl, rfl, trivial⟩ ?_
  refine tr_loop_j (fun m L' h => ∃ (x0 : Option Addr) (x1 : Int) (x8 : Int) (x16 : Sl) (x17 : Int) (x18 : Int), L' = [(0, (.pointer x0)), (1, (.int .i64 x1)), (8, (.int .i64 x8)), (16, x16.enc), (17, (.int .i64 x17)), (18, (.int .i64 x18))] ∧ F.shard_Shard_Need.l1 Q m x0 x1 x8 x16 x17 x18 h) ?_ ?_ m18 ⟨_, _, _, _, _, _, rfl, H⟩
  · rintro L' h ⟨_, _, _, _, _, _, _, H⟩; exact H
  · rintro q1 L' h ⟨x0, x1, x8, x16, x17, x18, rfl, H⟩
    unfold F.shard_Shard_Need.l1 at H
    refine tr_seq ?_
    refine tr_region ?_
    refine tr_p (y_lss rfl rfl) rfl rfl ?_
    refine tr_nil ?_
    refine tr_thenN ?_
    refine tr_seq ?_
    refine tr_cond rfl (fun g6 => ?_) (fun g6 => ?_)
    · replace H := H.1 g6
      refine tr_skip ?_
      refine tr_thenN ?_
      refine tr_seq ?_
      refine tr_block ?_
      refine tr_seq ?_
      refine tr_region ?_
      obtain ⟨a7, e8, H⟩ := H
      refine tr_p (f_idx (s := x16) Tryz.runUnderlying23 Tryz.sizeOf32 rfl rfl e8) rfl rfl ?_
      obtain ⟨y9, k10, H⟩ := H
      refine tr_h (y_ldS Tryz.isAgg32 Tryz.sizeOf32 rfl rfl) k10 rfl rfl ?_
      refine tr_e (f_alloc (cs := ((⟨0, (⟨#[]⟩ : ByteArray), 0⟩ : S_api_Cell) : S_api_Cell).cells.toArray) Tryz.zeroValue32 rfl H) rfl rfl ?_
      rintro _ h11 ⟨a12, rfl, H⟩
      refine tr_e (f_store (vs := y9.cells) Tryz.sizeOf32 rfl rfl cellsOfStruct rfl (by intro v hv; exact ones_S_api_Cell _ v hv) H) rfl rfl ?_
      rintro _ h13 ⟨rfl, H⟩
      refine tr_nil ?_
      refine tr_thenN ?_
      refine tr_region ?_
      refine tr_p (y_move rfl) rfl rfl ?_
      refine tr_p (y_move rfl) rfl rfl ?_
      refine tr_p (y_move rfl) rfl rfl ?_
      obtain ⟨y14, k15, H⟩ := H
      refine tr_h (y_ldS Tryz.isAgg32 Tryz.sizeOf32 rfl rfl) k15 rfl rfl ?_
      refine tr_e (e_call Tryz.call38 rfl (F.shard_Shard_need_ok H)) rfl rfl ?_
      rintro _ h16 ⟨r17, rfl, H⟩
      refine tr_p (y_add rfl rfl) rfl rfl ?_
      refine tr_p (y_assign rfl) rfl rfl ?_
      refine tr_nil ?_
      refine tr_blockN ?_
      refine tr_thenN ?_
      refine tr_region ?_
      refine tr_p (y_add rfl rfl) rfl rfl ?_
      refine tr_p (y_move rfl) rfl rfl ?_
      refine tr_nil ?_
      refine tr_thenN ?_
      exact tr_join [(0, (.pointer x0)), (1, (.int .i64 x1)), (8, (.int .i64 (IntKind.wrap .i64 (x8 + r17)))), (16, x16.enc), (17, (.int .i64 x17)), (18, (.int .i64 (IntKind.wrap .i64 (x18 + 1))))] ⟨rfl, rfl, rfl, rfl, rfl, rfl, trivial⟩ ⟨_, _, _, _, _, _, rfl, H⟩
    · replace H := H.2 g6
      refine tr_exit ?_
      refine tr_thenE ?_
      refine tr_thenE ?_
      refine tr_hit ?_
      refine tr_thenN ?_
      refine tr_seq ?_
      refine tr_region ?_
      refine tr_p (y_move rfl) rfl rfl ?_
      refine tr_p (y_assign rfl) rfl rfl ?_
      refine tr_nil ?_
      refine tr_thenN ?_
      refine tr_ret ?_
      exact tr_ret1 rfl rfl ⟨_, rfl, H⟩
/-- (*spate/shard.counts).Units -/
def F.shard_counts_Units (p0 : Option Addr) (h : H) (Q : Int → H → Prop) : Prop :=
  nn p0 fun a1 =>
  ldI .i64 h (a1.add 0) fun y3 =>
  Q y3 h
theorem F.shard_counts_Units_ok {p0 : Option Addr} {h : H} {Q : Int → H → Prop} (H : F.shard_counts_Units p0 h Q) : Fn PP 14 ([(.pointer p0)] : List Value).toArray h fun r h' => ∃ r0, r = (.int .i64 r0) ∧ Q r0 h' := by
  unfold F.shard_counts_Units at H
  refine fn_of Tryz.func14 Tryz.ntmps14 rfl rfl fun w0 => ?_
  refine tr_sub [(0, (.pointer p0))] ⟨rfl, trivial⟩ ?_
  refine tr_seq ?_
  refine tr_region ?_
  refine tr_p (y_assign rfl) rfl rfl ?_
  refine tr_nil ?_
  refine tr_thenN ?_
  refine tr_seq ?_
  refine tr_region ?_
  refine tr_p (y_move rfl) rfl rfl ?_
  obtain ⟨a1, e2, H⟩ := H
  refine tr_p (f_nn rfl e2) rfl rfl ?_
  refine tr_p (y_fa (off := 0) Tryz.runUnderlying43 fo_43_0 rfl) rfl rfl ?_
  obtain ⟨y3, k4, H⟩ := H
  refine tr_h (y_ld Tryz.isAgg3 rfl) k4 rfl rfl ?_
  refine tr_p (y_assign rfl) rfl rfl ?_
  refine tr_nil ?_
  refine tr_thenN ?_
  refine tr_ret ?_
  exact tr_ret1 rfl rfl ⟨_, rfl, H⟩
/-- (*spate/shard.Shard).Fits -/
def F.shard_Shard_Fits (p0 : Option Addr) (p1 : Int) (p2 : Sl) (h : H) (Q : Bool → H → Prop) : Prop :=
  nn p0 fun a1 =>
  ldI .i64 h ((a1.add 0).add 0) fun y3 =>
  nn p0 fun a5 =>
  ldI .i64 h ((a5.add 0).add 2) fun y7 =>
  F.shard_Shard_Need p0 p1 p2 h fun r10 h9 =>
  cellH h9 ((a5.add 0).add 2) = some (.int .i64 y7) ∧
  cellH h9 ((a1.add 0).add 0) = some (.int .i64 y3) ∧
  Q (decide ((IntKind.wrap .i64 (y3 + r10)) ≤ y7)) h9
theorem F.shard_Shard_Fits_ok {p0 : Option Addr} {p1 : Int} {p2 : Sl} {h : H} {Q : Bool → H → Prop} (H : F.shard_Shard_Fits p0 p1 p2 h Q) : Fn PP 15 ([(.pointer p0), (.int .i64 p1), p2.enc] : List Value).toArray h fun r h' => ∃ r0, r = (.bool r0) ∧ Q r0 h' := by
  unfold F.shard_Shard_Fits at H
  refine fn_of Tryz.func15 Tryz.ntmps15 rfl rfl fun w0 => ?_
  refine tr_sub [(0, (.pointer p0)), (1, (.int .i64 p1)), (2, p2.enc)] ⟨rfl, rfl, rfl, trivial⟩ ?_
  refine tr_seq ?_
  refine tr_region ?_
  refine tr_p (y_assign rfl) rfl rfl ?_
  refine tr_nil ?_
  refine tr_thenN ?_
  refine tr_seq ?_
  refine tr_draw mixed [0, 1, 3, 7, 15, 0, 0, 0, 224, 511, 0, 1024, 3072, 7168, 15360, 32767, 65535] (by kernel_rfl) ?_
  refine g_p 0 1 rfl (by kernel_rfl) (y_move rfl) rfl rfl ?_
  obtain ⟨a1, e2, H⟩ := H
  refine g_p 1 3 rfl (by kernel_rfl) (f_nn rfl e2) rfl rfl ?_
  refine g_p 2 7 rfl (by kernel_rfl) (y_fa (off := 0) Tryz.runUnderlying46 fo_46_0 rfl) rfl rfl ?_
  refine g_p 3 15 rfl (by kernel_rfl) (y_fa (off := 0) Tryz.runUnderlying43 fo_43_0 rfl) rfl rfl ?_
  obtain ⟨y3, k4, H⟩ := H
  refine g_h 4 31 rfl (by kernel_rfl) (y_ld Tryz.isAgg3 rfl) k4 rfl rfl ?_
  refine g_p 5 63 rfl (by kernel_rfl) (y_move rfl) rfl rfl ?_
  refine g_p 6 127 rfl (by kernel_rfl) (y_move rfl) rfl rfl ?_
  refine g_p 7 255 rfl (by kernel_rfl) (y_move rfl) rfl rfl ?_
  refine g_p 10 1279 rfl (by kernel_rfl) (y_move rfl) rfl rfl ?_
  obtain ⟨a5, e6, H⟩ := H
  refine g_p 11 3327 rfl (by kernel_rfl) (f_nn rfl e6) rfl rfl ?_
  refine g_p 12 7423 rfl (by kernel_rfl) (y_fa (off := 0) Tryz.runUnderlying46 fo_46_0 rfl) rfl rfl ?_
  refine g_p 13 15615 rfl (by kernel_rfl) (y_fa (off := 2) Tryz.runUnderlying43 fo_43_2 rfl) rfl rfl ?_
  obtain ⟨y7, k8, H⟩ := H
  refine g_h 14 31999 rfl (by kernel_rfl) (y_ld Tryz.isAgg3 rfl) k8 rfl rfl ?_
  refine g_e 8 32255 [(14, fun h => cellH h ((a5.add 0).add 2) = some (.int .i64 y7)), (4, fun h => cellH h ((a1.add 0).add 0) = some (.int .i64 y3))] (by kernel_rfl) rfl (by kernel_rfl) (e_call Tryz.call12 rfl (F.shard_Shard_Need_ok H)) rfl rfl ?_
  rintro _ h9 ⟨r10, rfl, H⟩
  obtain ⟨k11, k12, H⟩ := H
  refine ⟨And.intro k11 (And.intro k12 trivial), ?_⟩
  refine g_p 9 32767 rfl (by kernel_rfl) (y_add rfl rfl) rfl rfl ?_
  refine g_p 15 65535 rfl (by kernel_rfl) (y_leq rfl rfl) rfl rfl ?_
  refine g_p 16 131071 rfl (by kernel_rfl) (y_assign rfl) rfl rfl ?_
  refine g_d (by kernel_rfl) ?_
  refine tr_thenN ?_
  refine tr_ret ?_
  exact tr_ret1 rfl rfl ⟨_, rfl, H⟩
/-- (*spate/shard.counts).Cells -/
def F.shard_counts_Cells (p0 : Option Addr) (h : H) (Q : Int → H → Prop) : Prop :=
  nn p0 fun a1 =>
  ldI .i64 h (a1.add 1) fun y3 =>
  Q y3 h
theorem F.shard_counts_Cells_ok {p0 : Option Addr} {h : H} {Q : Int → H → Prop} (H : F.shard_counts_Cells p0 h Q) : Fn PP 30 ([(.pointer p0)] : List Value).toArray h fun r h' => ∃ r0, r = (.int .i64 r0) ∧ Q r0 h' := by
  unfold F.shard_counts_Cells at H
  refine fn_of Tryz.func30 Tryz.ntmps30 rfl rfl fun w0 => ?_
  refine tr_sub [(0, (.pointer p0))] ⟨rfl, trivial⟩ ?_
  refine tr_seq ?_
  refine tr_region ?_
  refine tr_p (y_assign rfl) rfl rfl ?_
  refine tr_nil ?_
  refine tr_thenN ?_
  refine tr_seq ?_
  refine tr_region ?_
  refine tr_p (y_move rfl) rfl rfl ?_
  obtain ⟨a1, e2, H⟩ := H
  refine tr_p (f_nn rfl e2) rfl rfl ?_
  refine tr_p (y_fa (off := 1) Tryz.runUnderlying43 fo_43_1 rfl) rfl rfl ?_
  obtain ⟨y3, k4, H⟩ := H
  refine tr_h (y_ld Tryz.isAgg3 rfl) k4 rfl rfl ?_
  refine tr_p (y_assign rfl) rfl rfl ?_
  refine tr_nil ?_
  refine tr_thenN ?_
  refine tr_ret ?_
  exact tr_ret1 rfl rfl ⟨_, rfl, H⟩
def F.slices_Max_Slint_int.l2 (Q : Int → H → Prop) : Nat → Sl → Int → Int → H → Prop
  | 0, _, _, _, _ => False
  | q2 + 1, x0, x3, x4, h =>
    ((decide (x4 < (x0.len : Int))) = true →
    idxA x0 x4 1 fun a6 =>
    ldI .i64 h a6 fun y8 =>
    runI PP (Builtin.max_ #[3, 3] 3 #[(.int .i64 x3), (.int .i64 y8)]) h .i64 fun s11 h10 =>
    (F.slices_Max_Slint_int.l2 Q q2) x0 s11 (IntKind.wrap .i64 (x4 + 1)) h10) ∧
    ((decide (x4 < (x0.len : Int))) = false →
    Q x3 h)
def F.slices_Max_Slint_int.j1 (Q : Int → H → Prop) (x0 : Sl) (h : H) : Prop :=
  idxA x0 0 1 fun a1 =>
  ldI .i64 h a1 fun y3 =>
  ∃ m, F.slices_Max_Slint_int.l2 Q m x0 y3 1 h
/-- slices.Max[[]int,int] -/
def F.slices_Max_Slint_int (p0 : Sl) (h : H) (Q : Int → H → Prop) : Prop :=
  ((decide ((p0.len : Int) < 1)) = true →
  False) ∧
  ((decide ((p0.len : Int) < 1)) = false →
  F.slices_Max_Slint_int.j1 Q p0 h)
theorem F.slices_Max_Slint_int_ok {p0 : Sl} {h : H} {Q : Int → H → Prop} (H : F.slices_Max_Slint_int p0 h Q) : Fn PP 66 ([p0.enc] : List Value).toArray h fun r h' => ∃ r0, r = (.int .i64 r0) ∧ Q r0 h' := by
  unfold F.slices_Max_Slint_int at H
  refine fn_of Tryz.func66 Tryz.ntmps66 rfl rfl fun w0 => ?_
  refine tr_sub [(0, p0.enc)] ⟨rfl, trivial⟩ ?_
  refine tr_seq ?_
  refine tr_region ?_
  refine tr_p (y_assign rfl) rfl rfl ?_
  refine tr_nil ?_
  refine tr_thenN ?_
  refine tr_seq_j (fun L' h => ∃ (x0 : Sl), L' = [(0, x0.enc)] ∧ F.slices_Max_Slint_int.j1 Q x0 h) ?_ ?_
  · rintro L' h ⟨x0, rfl, H⟩
    unfold F.slices_Max_Slint_int.j1 at H
    refine tr_seq ?_
    refine tr_region ?_
    refine tr_p (y_move rfl) rfl rfl ?_
    obtain ⟨a1, e2, H⟩ := H
    refine tr_p (f_idx (s := x0) Tryz.runUnderlying35 Tryz.sizeOf3 rfl rfl e2) rfl rfl ?_
    obtain ⟨y3, k4, H⟩ := H
    refine tr_h (y_ld Tryz.isAgg3 rfl) k4 rfl rfl ?_
    refine tr_p (y_assign rfl) rfl rfl ?_
    refine tr_nil ?_
    refine tr_thenN ?_
    refine tr_seq ?_
    refine tr_seq ?_
    refine tr_region ?_
    refine tr_p (y_assign rfl) rfl rfl ?_
    refine tr_nil ?_
    refine tr_thenN ?_
    refine tr_block ?_
    obtain ⟨m12, H⟩ := H
    refine tr_sub [(0, x0.enc), (3, (.int .i64 y3)), (4, (.int .i64 1))] ⟨rfl, rfl, rfl, trivial⟩ ?_
    refine tr_loop_j (fun m L' h => ∃ (x0 : Sl) (x3 : Int) (x4 : Int), L' = [(0, x0.enc), (3, (.int .i64 x3)), (4, (.int .i64 x4))] ∧ F.slices_Max_Slint_int.l2 Q m x0 x3 x4 h) ?_ ?_ m12 ⟨_, _, _, rfl, H⟩
    · rintro L' h ⟨_, _, _, _, H⟩; exact H
    · rintro q2 L' h ⟨x0, x3, x4, rfl, H⟩
      unfold F.slices_Max_Slint_int.l2 at H
      refine tr_seq ?_
      refine tr_seq ?_
      refine tr_region ?_
      refine tr_p (y_move rfl) rfl rfl ?_
      refine tr_p (y_move rfl) rfl rfl ?_
      refine tr_p (y_len (ts := #[]) Tryz.runUnderlying35 (o := x0.ptr) (n := x0.len) (cap := x0.cap) rfl) rfl rfl ?_
      refine tr_p (y_lss rfl rfl) rfl rfl ?_
      refine tr_nil ?_
      refine tr_thenN ?_
      refine tr_cond rfl (fun g5 => ?_) (fun g5 => ?_)
      · replace H := H.1 g5
        refine tr_skip ?_
        refine tr_thenN ?_
        refine tr_seq ?_
        refine tr_block ?_
        refine tr_region ?_
        refine tr_p (y_move rfl) rfl rfl ?_
        refine tr_p (y_move rfl) rfl rfl ?_
        refine tr_p (y_move rfl) rfl rfl ?_
        obtain ⟨a6, e7, H⟩ := H
        refine tr_p (f_idx (s := x0) Tryz.runUnderlying35 Tryz.sizeOf3 rfl rfl e7) rfl rfl ?_
        obtain ⟨y8, k9, H⟩ := H
        refine tr_h (y_ld Tryz.isAgg3 rfl) k9 rfl rfl ?_
        refine tr_e (f_max rfl H) rfl rfl ?_
        rintro _ h10 ⟨s11, rfl, H⟩
        refine tr_p (y_assign rfl) rfl rfl ?_
        refine tr_nil ?_
        refine tr_blockN ?_
        refine tr_thenN ?_
        refine tr_region ?_
        refine tr_p (y_move rfl) rfl rfl ?_
        refine tr_p (y_add rfl rfl) rfl rfl ?_
        refine tr_p (y_assign rfl) rfl rfl ?_
        refine tr_nil ?_
        refine tr_thenN ?_
        exact tr_join [(0, x0.enc), (3, (.int .i64 s11)), (4, (.int .i64 (IntKind.wrap .i64 (x4 + 1))))] ⟨rfl, rfl, rfl, trivial⟩ ⟨_, _, _, rfl, H⟩
      · replace H := H.2 g5
        refine tr_exit ?_
        refine tr_thenE ?_
        refine tr_thenE ?_
        refine tr_hit ?_
        refine tr_thenN ?_
        refine tr_seq ?_
        refine tr_region ?_
        refine tr_p (y_move rfl) rfl rfl ?_
        refine tr_p (y_assign rfl) rfl rfl ?_
        refine tr_nil ?_
        refine tr_thenN ?_
        refine tr_ret ?_
        exact tr_ret1 rfl rfl ⟨_, rfl, H⟩
  · refine tr_seq ?_
    refine tr_region ?_
    refine tr_p (y_move rfl) rfl rfl ?_
    refine tr_p (y_len (ts := #[]) Tryz.runUnderlying35 (o := p0.ptr) (n := p0.len) (cap := p0.cap) rfl) rfl rfl ?_
    refine tr_p (y_lss rfl rfl) rfl rfl ?_
    refine tr_nil ?_
    refine tr_thenN ?_
    refine tr_cond rfl (fun g13 => ?_) (fun g13 => ?_)
    · replace H := H.1 g13
      refine tr_region ?_
      refine tr_p (y_mkif Tryz.runUnderlying9 rfl rfl) rfl rfl ?_
      exact H.elim
    · replace H := H.2 g13
      refine tr_skip ?_
      refine tr_thenN ?_
      exact tr_join [(0, p0.enc)] ⟨rfl, trivial⟩ ⟨_, rfl, H⟩
/-- (*spate/shard.Shard).Most -/
def F.shard_Shard_Most (p0 : Option Addr) (h : H) (Q : Int → H → Prop) : Prop :=
  new h #[(⟨none, 0, 0⟩ : Sl).enc] ty_35 fun a2 h1 =>
  nn p0 fun a3 =>
  ldP h1 (a3.add 3) fun y5 =>
  F.table_Table_chain_Chain_api_Agg_All y5 h1 fun r8 h7 =>
  rng PP r8 h7 [] (fun bg1 l1 args h K1 J1 => ∃ (y1_11 : ByteArray), ∃ (y1_12 : Option Addr), args = [(.string y1_11), (.pointer y1_12)] ∧
    bg1 h fun h9 =>
    ldL h9 a2 fun y10 =>
    F.chain_Chain_api_Agg_Len y1_12 h9 fun r13 h12 =>
    cellH h12 a2 = some y10.enc ∧
    newL h12 #[(.int .i64 r13)] ty_3 1 fun s16 h15 =>
    cellH h15 a2 = some y10.enc ∧
    runL PP (Builtin.append_ #[35, 35] 35 #[y10.enc, s16.enc]) h15 fun s19 h18 =>
    stH h18 a2 [s19.enc] fun h20 =>
    K1 h20) (fun h21 =>
    ldL h21 a2 fun y22 =>
    ((((y22.len : Int) == 0)) = true →
    shuts (h7.size :: ([] : List Nat)) h21 fun h25 =>
    Q 0 h25) ∧
    ((((y22.len : Int) == 0)) = false →
    ldL h21 a2 fun y26 =>
    F.slices_Max_Slint_int y26 h21 fun r29 h28 =>
    shuts (h7.size :: ([] : List Nat)) h28 fun h30 =>
    Q r29 h30)) (fun jj h31 =>
    True)
theorem F.shard_Shard_Most_ok {p0 : Option Addr} {h : H} {Q : Int → H → Prop} (H : F.shard_Shard_Most p0 h Q) : Fn PP 31 ([(.pointer p0)] : List Value).toArray h fun r h' => ∃ r0, r = (.int .i64 r0) ∧ Q r0 h' := by
  unfold F.shard_Shard_Most at H
  refine fn_ofM Tryz.func31 Tryz.ntmps31 rfl rfl fun w0 => ?_
  refine tr_sub [(0, (.pointer p0))] ⟨rfl, trivial⟩ ?_
  refine tr_seq ?_
  refine tr_region ?_
  refine tr_p (y_assign rfl) rfl rfl ?_
  refine tr_nil ?_
  refine tr_thenN ?_
  refine tr_seq ?_
  refine tr_region ?_
  refine tr_e (f_alloc (cs := #[(⟨none, 0, 0⟩ : Sl).enc]) Tryz.zeroValue35 rfl H) rfl rfl ?_
  rintro _ h1 ⟨a2, rfl, H⟩
  refine tr_nil ?_
  refine tr_thenN ?_
  refine tr_seq ?_
  refine tr_seq ?_
  refine tr_region ?_
  refine tr_p (y_move rfl) rfl rfl ?_
  obtain ⟨a3, e4, H⟩ := H
  refine tr_p (f_nn rfl e4) rfl rfl ?_
  refine tr_p (y_fa (off := 3) Tryz.runUnderlying46 fo_46_1 rfl) rfl rfl ?_
  obtain ⟨y5, k6, H⟩ := H
  refine tr_h (y_ld Tryz.isAgg44 rfl) k6 rfl rfl ?_
  refine tr_e (e_call Tryz.call59 rfl (F.table_Table_chain_Chain_api_Agg_All_ok H)) rfl rfl ?_
  rintro r8 h7 ⟨_, rfl, H⟩
  refine tr_nil ?_
  refine tr_thenN ?_
  refine tr_block ?_
  refine tr_range rfl (by kernel_rfl) H ?_ ?_ ?_
  · intro bg1 l1 args h K1 J1 w1 hbg1 H
    obtain ⟨y1_11, y1_12, rfl, H⟩ := H
    refine ⟨rfl, ?_⟩
    refine tr_sub [(0, (.pointer p0)), (2, (.int .i64 0)), (3, (.pointer (some a2))), (6, (.pointer p0)), (7, (.pointer (some a3))), (8, (.pointer (some (a3.add 3)))), (9, (.pointer y5)), (10, r8), (11, (.string y1_11)), (12, (.pointer y1_12))] ⟨rfl, rfl, rfl, rfl, rfl, rfl, rfl, rfl, rfl, rfl, trivial⟩ ?_
    refine tr_region ?_
    refine tr_p (y_assign rfl) rfl rfl ?_
    refine tr_nil ?_
    refine tr_thenN ?_
    refine tr_bgn hbg1 H fun h9 H => ?_
    refine tr_block ?_
    refine tr_draw mixed [0, 0, 2, 6, 15, 31] (by kernel_rfl) ?_
    obtain ⟨y10, k11, H⟩ := H
    refine g_h 0 1 rfl (by kernel_rfl) (y_ld Tryz.isAgg35 rfl) k11 rfl rfl ?_
    refine g_p 1 3 rfl (by kernel_rfl) (y_move rfl) rfl rfl ?_
    refine g_e 2 7 [(0, fun h => cellH h a2 = some y10.enc)] (by kernel_rfl) rfl (by kernel_rfl) (e_call Tryz.call65 rfl (F.chain_Chain_api_Agg_Len_ok H)) rfl rfl ?_
    rintro _ h12 ⟨r13, rfl, H⟩
    obtain ⟨k14, H⟩ := H
    refine ⟨And.intro k14 trivial, ?_⟩
    refine g_e 3 15 [(0, fun h => cellH h a2 = some y10.enc)] (by kernel_rfl) rfl (by kernel_rfl) (f_buildL (cs := #[(.int .i64 r13)]) rfl rfl (bl_35_1_0 r13) H) rfl rfl ?_
    rintro _ h15 ⟨s16, rfl, H⟩
    obtain ⟨k17, H⟩ := H
    refine ⟨And.intro k17 trivial, ?_⟩
    refine g_e 4 31 [] (by kernel_rfl) rfl (by kernel_rfl) (f_app rfl H) rfl rfl ?_
    rintro _ h18 ⟨s19, rfl, H⟩
    refine ⟨trivial, ?_⟩
    refine g_e 5 63 [] (by kernel_rfl) rfl (by kernel_rfl) (f_store (vs := [s19.enc]) Tryz.sizeOf35 rfl rfl rfl rfl (one1 rfl) H) rfl rfl ?_
    rintro _ h20 ⟨rfl, H⟩
    refine ⟨trivial, ?_⟩
    refine g_d (by kernel_rfl) ?_
    refine tr_blockN ?_
    exact tr_rN H
  · intro h21 H
    refine tr_blockN ?_
    refine tr_thenN ?_
    refine tr_seq ?_
    refine tr_seq ?_
    refine tr_region ?_
    obtain ⟨y22, k23, H⟩ := H
    refine tr_h (y_ld Tryz.isAgg35 rfl) k23 rfl rfl ?_
    refine tr_p (y_len (ts := #[]) Tryz.runUnderlying35 (o := y22.ptr) (n := y22.len) (cap := y22.cap) rfl) rfl rfl ?_
    refine tr_p (y_eql rfl rfl) rfl rfl ?_
    refine tr_nil ?_
    refine tr_thenN ?_
    refine tr_cond rfl (fun g24 => ?_) (fun g24 => ?_)
    · replace H := H.1 g24
      refine tr_seq ?_
      refine tr_region ?_
      refine tr_p (y_assign rfl) rfl rfl ?_
      refine tr_nil ?_
      refine tr_thenN ?_
      refine tr_ret ?_
      refine tr_thenR ?_
      refine tr_shut (h7.size :: ([] : List Nat)) rfl H fun h25 H => ?_
      exact tr_ret1 rfl rfl ⟨_, rfl, H⟩
    · replace H := H.2 g24
      refine tr_skip ?_
      refine tr_thenN ?_
      refine tr_seq ?_
      refine tr_region ?_
      obtain ⟨y26, k27, H⟩ := H
      refine tr_h (y_ld Tryz.isAgg35 rfl) k27 rfl rfl ?_
      refine tr_e (e_call Tryz.call66 rfl (F.slices_Max_Slint_int_ok H)) rfl rfl ?_
      rintro _ h28 ⟨r29, rfl, H⟩
      refine tr_p (y_assign rfl) rfl rfl ?_
      refine tr_nil ?_
      refine tr_thenN ?_
      refine tr_ret ?_
      refine tr_shut (h7.size :: ([] : List Nat)) rfl H fun h30 H => ?_
      exact tr_ret1 rfl rfl ⟨_, rfl, H⟩
  · intro jj c h31 hjc H
    simp at hjc
def F.chain_Chain_api_Agg_At.j1 (Q : S_api_Agg → Bool → H → Prop) (x4 : Addr) (h : H) : Prop :=
  ld_S_api_Agg h x4 fun y3 =>
  stH h x4 y3.cells fun h5 =>
  ld_S_api_Agg h5 x4 fun y6 =>
  Q y6 false h5
def F.chain_Chain_api_Agg_At.j2 (Q : S_api_Agg → Bool → H → Prop) (x0 : Option Addr) (x4 : Addr) (x6 : Int) (x22 : Bool) (h : H) : Prop :=
  (x22 = true →
  nn x0 fun a11 =>
  ldL h (a11.add 0) fun y13 =>
  idxA y13 x6 6 fun a15 =>
  ld_S_api_Agg h (a15.add 1) fun y17 =>
  stH h x4 y17.cells fun h19 =>
  ld_S_api_Agg h19 x4 fun y20 =>
  Q y20 true h19) ∧
  (x22 = false →
  F.chain_Chain_api_Agg_At.j1 Q x4 h)
/-- (*spate/chain.Chain[spate/api.Agg]).At -/
def F.chain_Chain_api_Agg_At (p0 : Option Addr) (p1 : Int) (h : H) (Q : S_api_Agg → Bool → H → Prop) : Prop :=
  new h (((⟨0, 0, 0, 0⟩ : S_api_Agg) : S_api_Agg).cells.toArray) ty_34 fun a2 h1 =>
  F.chain_Chain_api_Agg_place p0 p1 h1 fun r9 h8 =>
  ((decide (r9 ≥ 0)) = true →
  nn p0 fun a23 =>
  ldL h8 (a23.add 0) fun y25 =>
  idxA y25 r9 6 fun a27 =>
  ldB h8 (a27.add 5) fun y29 =>
  F.chain_Chain_api_Agg_At.j2 Q p0 a2 r9 (!y29) h8) ∧
  ((decide (r9 ≥ 0)) = false →
  F.chain_Chain_api_Agg_At.j2 Q p0 a2 r9 false h8)
theorem F.chain_Chain_api_Agg_At_ok {p0 : Option Addr} {p1 : Int} {h : H} {Q : S_api_Agg → Bool → H → Prop} (H : F.chain_Chain_api_Agg_At p0 p1 h Q) : Fn PP 98 ([(.pointer p0), (.int .i64 p1)] : List Value).toArray h fun r h' => ∃ r0 r1, r = .tuple #[(.agg r0.cells.toArray), (.bool r1)] ∧ Q r0 r1 h' := by
  unfold F.chain_Chain_api_Agg_At at H
  refine fn_of Tryz.func98 Tryz.ntmps98 rfl rfl fun w0 => ?_
  refine tr_sub [(0, (.pointer p0)), (1, (.int .i64 p1))] ⟨rfl, rfl, trivial⟩ ?_
  refine tr_seq ?_
  refine tr_region ?_
  refine tr_e (f_alloc (cs := ((⟨0, 0, 0, 0⟩ : S_api_Agg) : S_api_Agg).cells.toArray) Tryz.zeroValue34 rfl H) rfl rfl ?_
  rintro _ h1 ⟨a2, rfl, H⟩
  refine tr_p (y_assign rfl) rfl rfl ?_
  refine tr_nil ?_
  refine tr_thenN ?_
  refine tr_seq_j (fun L' h => ∃ (x4 : Addr), L' = [(4, (.pointer (some x4)))] ∧ F.chain_Chain_api_Agg_At.j1 Q x4 h) ?_ ?_
  · rintro L' h ⟨x4, rfl, H⟩
    unfold F.chain_Chain_api_Agg_At.j1 at H
    refine tr_seq ?_
    refine tr_region ?_
    obtain ⟨y3, k4, H⟩ := H
    refine tr_h (y_ldS Tryz.isAgg34 Tryz.sizeOf34 rfl rfl) k4 rfl rfl ?_
    refine tr_e (f_store (vs := y3.cells) Tryz.sizeOf34 rfl rfl cellsOfStruct rfl (by intro v hv; exact ones_S_api_Agg _ v hv) H) rfl rfl ?_
    rintro _ h5 ⟨rfl, H⟩
    refine tr_p (y_assign rfl) rfl rfl ?_
    refine tr_nil ?_
    refine tr_thenN ?_
    refine tr_ret ?_
    obtain ⟨y6, k7, H⟩ := H
    exact tr_rv2 rfl (rv_cellS Tryz.isAgg34 Tryz.sizeOf34 rfl rfl k7) (rv_tmp rfl) ⟨_, _, rfl, H⟩
  · refine tr_seq ?_
    refine tr_region ?_
    refine tr_p (y_move rfl) rfl rfl ?_
    refine tr_p (y_move rfl) rfl rfl ?_
    refine tr_e (e_call Tryz.call99 rfl (F.chain_Chain_api_Agg_place_ok H)) rfl rfl ?_
    rintro _ h8 ⟨r9, rfl, H⟩
    refine tr_p (y_assign rfl) rfl rfl ?_
    refine tr_nil ?_
    refine tr_thenN ?_
    refine tr_seq_j (fun L' h => ∃ (x0 : Option Addr) (x4 : Addr) (x6 : Int) (x22 : Bool), L' = [(0, (.pointer x0)), (4, (.pointer (some x4))), (6, (.int .i64 x6)), (22, (.bool x22))] ∧ F.chain_Chain_api_Agg_At.j2 Q x0 x4 x6 x22 h) ?_ ?_
    · rintro L' h ⟨x0, x4, x6, x22, rfl, H⟩
      unfold F.chain_Chain_api_Agg_At.j2 at H
      refine tr_cond rfl (fun g10 => ?_) (fun g10 => ?_)
      · replace H := H.1 g10
        refine tr_seq ?_
        refine tr_region ?_
        refine tr_p (y_move rfl) rfl rfl ?_
        obtain ⟨a11, e12, H⟩ := H
        refine tr_p (f_nn rfl e12) rfl rfl ?_
        refine tr_p (y_fa (off := 0) Tryz.runUnderlying133 fo_133_0 rfl) rfl rfl ?_
        obtain ⟨y13, k14, H⟩ := H
        refine tr_h (y_ld Tryz.isAgg131 rfl) k14 rfl rfl ?_
        refine tr_p (y_move rfl) rfl rfl ?_
        obtain ⟨a15, e16, H⟩ := H
        refine tr_p (f_idx (s := y13) Tryz.runUnderlying131 Tryz.sizeOf135 rfl rfl e16) rfl rfl ?_
        refine tr_p (y_fa (off := 1) Tryz.runUnderlying135 fo_135_1 rfl) rfl rfl ?_
        obtain ⟨y17, k18, H⟩ := H
        refine tr_h (y_ldS Tryz.isAgg34 Tryz.sizeOf34 rfl rfl) k18 rfl rfl ?_
        refine tr_e (f_store (vs := y17.cells) Tryz.sizeOf34 rfl rfl cellsOfStruct rfl (by intro v hv; exact ones_S_api_Agg _ v hv) H) rfl rfl ?_
        rintro _ h19 ⟨rfl, H⟩
        refine tr_p (y_assign rfl) rfl rfl ?_
        refine tr_nil ?_
        refine tr_thenN ?_
        refine tr_ret ?_
        refine tr_thenR ?_
        obtain ⟨y20, k21, H⟩ := H
        exact tr_rv2 rfl (rv_cellS Tryz.isAgg34 Tryz.sizeOf34 rfl rfl k21) (rv_tmp rfl) ⟨_, _, rfl, H⟩
      · replace H := H.2 g10
        refine tr_skip ?_
        refine tr_thenN ?_
        exact tr_join [(4, (.pointer (some x4)))] ⟨rfl, trivial⟩ ⟨_, rfl, H⟩
    · refine tr_region ?_
      refine tr_p (y_move rfl) rfl rfl ?_
      refine tr_p (y_geq rfl rfl) rfl rfl ?_
      refine tr_p (y_move rfl) rfl rfl ?_
      refine tr_split (t := 12) rfl (fun g22 => ?_) (fun g22 => ?_)
      · replace H := H.1 g22
        refine tr_p (y_move rfl) rfl rfl ?_
        obtain ⟨a23, e24, H⟩ := H
        refine tr_p (f_nn rfl e24) rfl rfl ?_
        refine tr_p (y_fa (off := 0) Tryz.runUnderlying133 fo_133_0 rfl) rfl rfl ?_
        obtain ⟨y25, k26, H⟩ := H
        refine tr_h (y_ld Tryz.isAgg131 rfl) k26 rfl rfl ?_
        refine tr_p (y_move rfl) rfl rfl ?_
        obtain ⟨a27, e28, H⟩ := H
        refine tr_p (f_idx (s := y25) Tryz.runUnderlying131 Tryz.sizeOf135 rfl rfl e28) rfl rfl ?_
        refine tr_p (y_fa (off := 5) Tryz.runUnderlying135 fo_135_2 rfl) rfl rfl ?_
        obtain ⟨y29, k30, H⟩ := H
        refine tr_h (y_ld Tryz.isAgg4 rfl) k30 rfl rfl ?_
        refine tr_p (y_not rfl) rfl rfl ?_
        refine tr_p (y_pick_t rfl rfl) rfl rfl ?_
        refine tr_nil ?_
        refine tr_thenN ?_
        exact tr_join [(0, (.pointer p0)), (4, (.pointer (some a2))), (6, (.int .i64 r9)), (22, (.bool (!y29)))] ⟨rfl, rfl, rfl, rfl, trivial⟩ ⟨_, _, _, _, rfl, H⟩
      · replace H := H.2 g22
        refine tr_s rfl rfl ?_
        refine tr_s rfl rfl ?_
        refine tr_s rfl rfl ?_
        refine tr_s rfl rfl ?_
        refine tr_s rfl rfl ?_
        refine tr_s rfl rfl ?_
        refine tr_s rfl rfl ?_
        refine tr_s rfl rfl ?_
        refine tr_s rfl rfl ?_
        refine tr_p (y_pick_f rfl rfl) rfl rfl ?_
        refine tr_nil ?_
        refine tr_thenN ?_
        exact tr_join [(0, (.pointer p0)), (4, (.pointer (some a2))), (6, (.int .i64 r9)), (22, (.bool false))] ⟨rfl, rfl, rfl, rfl, trivial⟩ ⟨_, _, _, _, rfl, H⟩
/-- spate/shard.at -/
def F.shard_at (p0 : Option Addr) (p1 : Int) (h : H) (Q : S_api_Agg → Bool → H → Prop) : Prop :=
  new h (((⟨0, 0, 0, 0⟩ : S_api_Agg) : S_api_Agg).cells.toArray) ty_34 fun a2 h1 =>
  (p0.isNone = true →
  stH h1 a2 ((⟨0, 0, 0, 0⟩ : S_api_Agg).cells) fun h4 =>
  ld_S_api_Agg h4 a2 fun y5 =>
  Q y5 false h4) ∧
  (p0.isNone = false →
  (((p1 == 0)) = true →
  F.chain_Chain_api_Agg_Newest p0 h1 fun r9 r10 r11 h8 =>
  new h8 (((⟨0, 0, 0, 0⟩ : S_api_Agg) : S_api_Agg).cells.toArray) ty_34 fun a13 h12 =>
  stH h12 a13 r9.cells fun h14 =>
  ld_S_api_Agg h14 a13 fun y15 =>
  stH h14 a2 y15.cells fun h17 =>
  ld_S_api_Agg h17 a2 fun y18 =>
  Q y18 r11 h17) ∧
  (((p1 == 0)) = false →
  F.chain_Chain_api_Agg_At p0 p1 h1 fun r21 r22 h20 =>
  stH h20 a2 r21.cells fun h23 =>
  ld_S_api_Agg h23 a2 fun y24 =>
  Q y24 r22 h23))
theorem F.shard_at_ok {p0 : Option Addr} {p1 : Int} {h : H} {Q : S_api_Agg → Bool → H → Prop} (H : F.shard_at p0 p1 h Q) : Fn PP 61 ([(.pointer p0), (.int .i64 p1)] : List Value).toArray h fun r h' => ∃ r0 r1, r = .tuple #[(.agg r0.cells.toArray), (.bool r1)] ∧ Q r0 r1 h' := by
  unfold F.shard_at at H
  refine fn_of Tryz.func61 Tryz.ntmps61 rfl rfl fun w0 => ?_
  refine tr_sub [(0, (.pointer p0)), (1, (.int .i64 p1))] ⟨rfl, rfl, trivial⟩ ?_
  refine tr_seq ?_
  refine tr_region ?_
  refine tr_e (f_alloc (cs := ((⟨0, 0, 0, 0⟩ : S_api_Agg) : S_api_Agg).cells.toArray) Tryz.zeroValue34 rfl H) rfl rfl ?_
  rintro _ h1 ⟨a2, rfl, H⟩
  refine tr_p (y_assign rfl) rfl rfl ?_
  refine tr_nil ?_
  refine tr_thenN ?_
  refine tr_seq ?_
  refine tr_seq ?_
  refine tr_region ?_
  refine tr_p (y_move rfl) rfl rfl ?_
  refine tr_p (y_pnil_eql Tryz.runUnderlying70 rfl rfl) rfl rfl ?_
  refine tr_nil ?_
  refine tr_thenN ?_
  refine tr_cond rfl (fun g3 => ?_) (fun g3 => ?_)
  · replace H := H.1 g3
    refine tr_seq ?_
    refine tr_region ?_
    refine tr_p (f_build rfl (bd_34_ )) rfl rfl ?_
    refine tr_e (f_store (vs := (⟨0, 0, 0, 0⟩ : S_api_Agg).cells) Tryz.sizeOf34 rfl rfl cellsOfStruct rfl (by intro v hv; exact ones_S_api_Agg _ v hv) H) rfl rfl ?_
    rintro _ h4 ⟨rfl, H⟩
    refine tr_p (y_assign rfl) rfl rfl ?_
    refine tr_nil ?_
    refine tr_thenN ?_
    refine tr_ret ?_
    refine tr_thenR ?_
    obtain ⟨y5, k6, H⟩ := H
    exact tr_rv2 rfl (rv_cellS Tryz.isAgg34 Tryz.sizeOf34 rfl rfl k6) (rv_tmp rfl) ⟨_, _, rfl, H⟩
  · replace H := H.2 g3
    refine tr_skip ?_
    refine tr_thenN ?_
    refine tr_seq ?_
    refine tr_seq ?_
    refine tr_region ?_
    refine tr_p (y_move rfl) rfl rfl ?_
    refine tr_p (y_eql rfl rfl) rfl rfl ?_
    refine tr_nil ?_
    refine tr_thenN ?_
    refine tr_cond rfl (fun g7 => ?_) (fun g7 => ?_)
    · replace H := H.1 g7
      refine tr_seq ?_
      refine tr_region ?_
      refine tr_p (y_move rfl) rfl rfl ?_
      refine tr_e (e_call Tryz.call42 rfl (F.chain_Chain_api_Agg_Newest_ok H)) rfl rfl ?_
      rintro _ h8 ⟨r9, r10, r11, rfl, H⟩
      refine tr_p (y_move rfl) rfl rfl ?_
      refine tr_p (y_ext rfl rfl) rfl rfl ?_
      refine tr_p (y_ext rfl rfl) rfl rfl ?_
      refine tr_p (y_ext rfl rfl) rfl rfl ?_
      refine tr_e (f_alloc (cs := ((⟨0, 0, 0, 0⟩ : S_api_Agg) : S_api_Agg).cells.toArray) Tryz.zeroValue34 rfl H) rfl rfl ?_
      rintro _ h12 ⟨a13, rfl, H⟩
      refine tr_e (f_store (vs := r9.cells) Tryz.sizeOf34 rfl rfl cellsOfStruct rfl (by intro v hv; exact ones_S_api_Agg _ v hv) H) rfl rfl ?_
      rintro _ h14 ⟨rfl, H⟩
      refine tr_p (y_assign rfl) rfl rfl ?_
      refine tr_p (y_assign rfl) rfl rfl ?_
      refine tr_nil ?_
      refine tr_thenN ?_
      refine tr_seq ?_
      refine tr_region ?_
      obtain ⟨y15, k16, H⟩ := H
      refine tr_h (y_ldS Tryz.isAgg34 Tryz.sizeOf34 rfl rfl) k16 rfl rfl ?_
      refine tr_p (y_move rfl) rfl rfl ?_
      refine tr_e (f_store (vs := y15.cells) Tryz.sizeOf34 rfl rfl cellsOfStruct rfl (by intro v hv; exact ones_S_api_Agg _ v hv) H) rfl rfl ?_
      rintro _ h17 ⟨rfl, H⟩
      refine tr_p (y_assign rfl) rfl rfl ?_
      refine tr_nil ?_
      refine tr_thenN ?_
      refine tr_ret ?_
      refine tr_thenR ?_
      obtain ⟨y18, k19, H⟩ := H
      exact tr_rv2 rfl (rv_cellS Tryz.isAgg34 Tryz.sizeOf34 rfl rfl k19) (rv_tmp rfl) ⟨_, _, rfl, H⟩
    · replace H := H.2 g7
      refine tr_skip ?_
      refine tr_thenN ?_
      refine tr_seq ?_
      refine tr_region ?_
      refine tr_p (y_move rfl) rfl rfl ?_
      refine tr_p (y_move rfl) rfl rfl ?_
      refine tr_e (e_call Tryz.call98 rfl (F.chain_Chain_api_Agg_At_ok H)) rfl rfl ?_
      rintro _ h20 ⟨r21, r22, rfl, H⟩
      refine tr_p (y_ext rfl rfl) rfl rfl ?_
      refine tr_p (y_ext rfl rfl) rfl rfl ?_
      refine tr_e (f_store (vs := r21.cells) Tryz.sizeOf34 rfl rfl cellsOfStruct rfl (by intro v hv; exact ones_S_api_Agg _ v hv) H) rfl rfl ?_
      rintro _ h23 ⟨rfl, H⟩
      refine tr_p (y_assign rfl) rfl rfl ?_
      refine tr_nil ?_
      refine tr_thenN ?_
      refine tr_ret ?_
      obtain ⟨y24, k25, H⟩ := H
      exact tr_rv2 rfl (rv_cellS Tryz.isAgg34 Tryz.sizeOf34 rfl rfl k25) (rv_tmp rfl) ⟨_, _, rfl, H⟩
/-- (*spate/shard.Shard).At -/
def F.shard_Shard_At (p0 : Option Addr) (p1 : S_api_Cell) (p2 : Int) (h : H) (Q : S_api_Agg → H → Prop) : Prop :=
  new h p1.cells.toArray ty_32 fun a2 h1 =>
  new h1 (((⟨0, 0, 0, 0⟩ : S_api_Agg) : S_api_Agg).cells.toArray) ty_34 fun a4 h3 =>
  ld_S_api_Cell h3 a2 fun y5 =>
  F.shard_Shard_chain p0 y5 h3 fun r8 h7 =>
  F.shard_at r8 p2 h7 fun r10 r11 h9 =>
  new h9 (((⟨0, 0, 0, 0⟩ : S_api_Agg) : S_api_Agg).cells.toArray) ty_34 fun a13 h12 =>
  stH h12 a13 r10.cells fun h14 =>
  ld_S_api_Agg h14 a13 fun y15 =>
  stH h14 a4 y15.cells fun h17 =>
  ld_S_api_Agg h17 a4 fun y18 =>
  Q y18 h17
theorem F.shard_Shard_At_ok {p0 : Option Addr} {p1 : S_api_Cell} {p2 : Int} {h : H} {Q : S_api_Agg → H → Prop} (H : F.shard_Shard_At p0 p1 p2 h Q) : Fn PP 26 ([(.pointer p0), (.agg p1.cells.toArray), (.int .i64 p2)] : List Value).toArray h fun r h' => ∃ r0, r = (.agg r0.cells.toArray) ∧ Q r0 h' := by
  unfold F.shard_Shard_At at H
  refine fn_of Tryz.func26 Tryz.ntmps26 rfl rfl fun w0 => ?_
  refine tr_sub [(0, (.pointer p0)), (1, (.agg p1.cells.toArray)), (2, (.int .i64 p2))] ⟨rfl, rfl, rfl, trivial⟩ ?_
  refine tr_seq ?_
  refine tr_region ?_
  refine tr_e (f_box (cs := p1.cells.toArray) rfl rfl H) rfl rfl ?_
  rintro _ h1 ⟨a2, rfl, H⟩
  refine tr_e (f_alloc (cs := ((⟨0, 0, 0, 0⟩ : S_api_Agg) : S_api_Agg).cells.toArray) Tryz.zeroValue34 rfl H) rfl rfl ?_
  rintro _ h3 ⟨a4, rfl, H⟩
  refine tr_nil ?_
  refine tr_thenN ?_
  refine tr_seq ?_
  refine tr_region ?_
  refine tr_p (y_move rfl) rfl rfl ?_
  obtain ⟨y5, k6, H⟩ := H
  refine tr_h (y_ldS Tryz.isAgg32 Tryz.sizeOf32 rfl rfl) k6 rfl rfl ?_
  refine tr_e (e_call Tryz.call64 rfl (F.shard_Shard_chain_ok H)) rfl rfl ?_
  rintro _ h7 ⟨r8, rfl, H⟩
  refine tr_p (y_move rfl) rfl rfl ?_
  refine tr_e (e_call Tryz.call61 rfl (F.shard_at_ok H)) rfl rfl ?_
  rintro _ h9 ⟨r10, r11, rfl, H⟩
  refine tr_p (y_move rfl) rfl rfl ?_
  refine tr_p (y_ext rfl rfl) rfl rfl ?_
  refine tr_p (y_ext rfl rfl) rfl rfl ?_
  refine tr_e (f_alloc (cs := ((⟨0, 0, 0, 0⟩ : S_api_Agg) : S_api_Agg).cells.toArray) Tryz.zeroValue34 rfl H) rfl rfl ?_
  rintro _ h12 ⟨a13, rfl, H⟩
  refine tr_e (f_store (vs := r10.cells) Tryz.sizeOf34 rfl rfl cellsOfStruct rfl (by intro v hv; exact ones_S_api_Agg _ v hv) H) rfl rfl ?_
  rintro _ h14 ⟨rfl, H⟩
  refine tr_p (y_assign rfl) rfl rfl ?_
  refine tr_nil ?_
  refine tr_thenN ?_
  refine tr_seq ?_
  refine tr_region ?_
  obtain ⟨y15, k16, H⟩ := H
  refine tr_h (y_ldS Tryz.isAgg34 Tryz.sizeOf34 rfl rfl) k16 rfl rfl ?_
  refine tr_e (f_store (vs := y15.cells) Tryz.sizeOf34 rfl rfl cellsOfStruct rfl (by intro v hv; exact ones_S_api_Agg _ v hv) H) rfl rfl ?_
  rintro _ h17 ⟨rfl, H⟩
  refine tr_nil ?_
  refine tr_thenN ?_
  refine tr_ret ?_
  obtain ⟨y18, k19, H⟩ := H
  exact tr_rv1 rfl (rv_cellS Tryz.isAgg34 Tryz.sizeOf34 rfl rfl k19) ⟨_, rfl, H⟩
/-- (*spate/shard.Shard).Get -/
def F.shard_Shard_Get (p0 : Option Addr) (p1 : S_api_Cell) (h : H) (Q : S_api_Agg → H → Prop) : Prop :=
  new h p1.cells.toArray ty_32 fun a2 h1 =>
  new h1 (((⟨0, 0, 0, 0⟩ : S_api_Agg) : S_api_Agg).cells.toArray) ty_34 fun a4 h3 =>
  ld_S_api_Cell h3 a2 fun y5 =>
  F.shard_Shard_At p0 y5 0 h3 fun r8 h7 =>
  stH h7 a4 r8.cells fun h9 =>
  ld_S_api_Agg h9 a4 fun y10 =>
  Q y10 h9
theorem F.shard_Shard_Get_ok {p0 : Option Addr} {p1 : S_api_Cell} {h : H} {Q : S_api_Agg → H → Prop} (H : F.shard_Shard_Get p0 p1 h Q) : Fn PP 28 ([(.pointer p0), (.agg p1.cells.toArray)] : List Value).toArray h fun r h' => ∃ r0, r = (.agg r0.cells.toArray) ∧ Q r0 h' := by
  unfold F.shard_Shard_Get at H
  refine fn_of Tryz.func28 Tryz.ntmps28 rfl rfl fun w0 => ?_
  refine tr_sub [(0, (.pointer p0)), (1, (.agg p1.cells.toArray))] ⟨rfl, rfl, trivial⟩ ?_
  refine tr_seq ?_
  refine tr_region ?_
  refine tr_e (f_box (cs := p1.cells.toArray) rfl rfl H) rfl rfl ?_
  rintro _ h1 ⟨a2, rfl, H⟩
  refine tr_e (f_alloc (cs := ((⟨0, 0, 0, 0⟩ : S_api_Agg) : S_api_Agg).cells.toArray) Tryz.zeroValue34 rfl H) rfl rfl ?_
  rintro _ h3 ⟨a4, rfl, H⟩
  refine tr_nil ?_
  refine tr_thenN ?_
  refine tr_seq ?_
  refine tr_region ?_
  refine tr_p (y_move rfl) rfl rfl ?_
  obtain ⟨y5, k6, H⟩ := H
  refine tr_h (y_ldS Tryz.isAgg32 Tryz.sizeOf32 rfl rfl) k6 rfl rfl ?_
  refine tr_e (e_call Tryz.call26 rfl (F.shard_Shard_At_ok H)) rfl rfl ?_
  rintro _ h7 ⟨r8, rfl, H⟩
  refine tr_e (f_store (vs := r8.cells) Tryz.sizeOf34 rfl rfl cellsOfStruct rfl (by intro v hv; exact ones_S_api_Agg _ v hv) H) rfl rfl ?_
  rintro _ h9 ⟨rfl, H⟩
  refine tr_nil ?_
  refine tr_thenN ?_
  refine tr_ret ?_
  obtain ⟨y10, k11, H⟩ := H
  exact tr_rv1 rfl (rv_cellS Tryz.isAgg34 Tryz.sizeOf34 rfl rfl k11) ⟨_, rfl, H⟩
def F.spatelaw7_head.j1 (Q : Bool → H → Prop) (x1 : Option Addr) (h : H) : Prop :=
  new h (((⟨0, (⟨#[]⟩ : ByteArray), 0⟩ : S_api_Cell) : S_api_Cell).cells.toArray) ty_32 fun a5 h4 =>
  stH h4 a5 ((⟨0, (⟨#[97]⟩ : ByteArray), 0⟩ : S_api_Cell).cells) fun h6 =>
  ld_S_api_Cell h6 a5 fun y7 =>
  F.spatelaw7_one 5 h6 fun r10 h9 =>
  Cells h9 a5 y7.cells ∧
  F.shard_Shard_Put x1 1 (⟨y7, r10⟩ : S_api_Row) h9 fun r13 h12 =>
  ld_S_api_Cell h12 a5 fun y14 =>
  F.spatelaw7_one 6 h12 fun r17 h16 =>
  Cells h16 a5 y14.cells ∧
  F.shard_Shard_Put x1 2 (⟨y14, r17⟩ : S_api_Row) h16 fun r20 h19 =>
  (((r13 == 0)) = true →
  (((r20 == 0)) = true →
  nn x1 fun a23 =>
  F.shard_counts_Units (some (a23.add 0)) h19 fun r26 h25 =>
  (((r26 == 3)) = true →
  nn x1 fun a28 =>
  F.shard_counts_Cells (some (a28.add 0)) h25 fun r31 h30 =>
  (((r31 == 1)) = true →
  F.shard_Shard_Most x1 h30 fun r34 h33 =>
  (((r34 == 2)) = true →
  ld_S_api_Cell h33 a5 fun y36 =>
  F.shard_Shard_Get x1 y36 h33 fun r39 h38 =>
  F.spatelaw7_one 6 h38 fun r41 h40 =>
  (((r39.Count == r41.Count) && ((r39.Sum == r41.Sum) && ((r39.Min == r41.Min) && ((r39.Max == r41.Max) && true)))) = true →
  ld_S_api_Cell h40 a5 fun y43 =>
  F.shard_Shard_At x1 y43 1 h40 fun r46 h45 =>
  F.spatelaw7_one 5 h45 fun r48 h47 =>
  Q ((r46.Count == r48.Count) && ((r46.Sum == r48.Sum) && ((r46.Min == r48.Min) && ((r46.Max == r48.Max) && true)))) h47) ∧
  (((r39.Count == r41.Count) && ((r39.Sum == r41.Sum) && ((r39.Min == r41.Min) && ((r39.Max == r41.Max) && true)))) = false →
  Q false h40)) ∧
  (((r34 == 2)) = false →
  Q false h33)) ∧
  (((r31 == 1)) = false →
  Q false h30)) ∧
  (((r26 == 3)) = false →
  Q false h25)) ∧
  (((r20 == 0)) = false →
  Q false h19)) ∧
  (((r13 == 0)) = false →
  Q false h19)
def F.spatelaw7_head.j2 (Q : Bool → H → Prop) (x1 : Option Addr) (x15 : Bool) (h : H) : Prop :=
  (x15 = true →
  Q false h) ∧
  (x15 = false →
  F.spatelaw7_head.j1 Q x1 h)
/-- spate/spatelaw7.head -/
def F.spatelaw7_head  (h : H) (Q : Bool → H → Prop) : Prop :=
  F.shard_New 6 h fun r2 r3 h1 =>
  (((r3 != 0)) = true →
  F.spatelaw7_head.j2 Q r2 true h1) ∧
  (((r3 != 0)) = false →
  F.spatelaw7_head.j2 Q r2 r2.isNone h1)
theorem F.spatelaw7_head_ok  {h : H} {Q : Bool → H → Prop} (H : F.spatelaw7_head  h Q) : Fn PP 9 ([] : List Value).toArray h fun r h' => ∃ r0, r = (.bool r0) ∧ Q r0 h' := by
  unfold F.spatelaw7_head at H
  refine fn_of Tryz.func9 Tryz.ntmps9 rfl rfl fun w0 => ?_
  refine tr_sub [] trivial ?_
  refine tr_seq ?_
  refine tr_region ?_
  refine tr_p (y_assign rfl) rfl rfl ?_
  refine tr_nil ?_
  refine tr_thenN ?_
  refine tr_seq ?_
  refine tr_region ?_
  refine tr_e (e_call Tryz.call7 rfl (F.shard_New_ok H)) rfl rfl ?_
  rintro _ h1 ⟨r2, r3, rfl, H⟩
  refine tr_p (y_move rfl) rfl rfl ?_
  refine tr_p (y_ext rfl rfl) rfl rfl ?_
  refine tr_p (y_ext rfl rfl) rfl rfl ?_
  refine tr_p (y_assign rfl) rfl rfl ?_
  refine tr_p (y_assign rfl) rfl rfl ?_
  refine tr_nil ?_
  refine tr_thenN ?_
  refine tr_seq_j (fun L' h => ∃ (x1 : Option Addr), L' = [(1, (.pointer x1))] ∧ F.spatelaw7_head.j1 Q x1 h) ?_ ?_
  · rintro L' h ⟨x1, rfl, H⟩
    unfold F.spatelaw7_head.j1 at H
    refine tr_seq ?_
    refine tr_region ?_
    refine tr_p (f_build rfl (bd_32_1 (⟨#[97]⟩ : ByteArray))) rfl rfl ?_
    refine tr_e (f_alloc (cs := ((⟨0, (⟨#[]⟩ : ByteArray), 0⟩ : S_api_Cell) : S_api_Cell).cells.toArray) Tryz.zeroValue32 rfl H) rfl rfl ?_
    rintro _ h4 ⟨a5, rfl, H⟩
    refine tr_e (f_store (vs := (⟨0, (⟨#[97]⟩ : ByteArray), 0⟩ : S_api_Cell).cells) Tryz.sizeOf32 rfl rfl cellsOfStruct rfl (by intro v hv; exact ones_S_api_Cell _ v hv) H) rfl rfl ?_
    rintro _ h6 ⟨rfl, H⟩
    refine tr_nil ?_
    refine tr_thenN ?_
    refine tr_seq ?_
    refine tr_draw mixed [0, 0, 0, 6, 15, 31] (by kernel_rfl) ?_
    refine g_p 0 1 rfl (by kernel_rfl) (y_move rfl) rfl rfl ?_
    obtain ⟨y7, k8, H⟩ := H
    refine g_h 1 3 rfl (by kernel_rfl) (y_ldS Tryz.isAgg32 Tryz.sizeOf32 rfl rfl) k8 rfl rfl ?_
    refine g_e 2 7 [(1, fun h => Cells h a5 y7.cells)] (by kernel_rfl) rfl (by kernel_rfl) (e_call Tryz.call17 rfl (F.spatelaw7_one_ok H)) rfl rfl ?_
    rintro _ h9 ⟨r10, rfl, H⟩
    obtain ⟨k11, H⟩ := H
    refine ⟨And.intro k11 trivial, ?_⟩
    refine g_p 3 15 rfl (by kernel_rfl) (f_build rfl (bd_51_0_1 y7 r10)) rfl rfl ?_
    refine g_e 4 31 [] (by kernel_rfl) rfl (by kernel_rfl) (e_call Tryz.call16 rfl (F.shard_Shard_Put_ok H)) rfl rfl ?_
    rintro _ h12 ⟨r13, rfl, H⟩
    refine ⟨trivial, ?_⟩
    refine g_p 5 63 rfl (by kernel_rfl) (y_assign rfl) rfl rfl ?_
    refine g_d (by kernel_rfl) ?_
    refine tr_thenN ?_
    refine tr_seq ?_
    refine tr_draw mixed [0, 0, 0, 6, 15, 31] (by kernel_rfl) ?_
    refine g_p 0 1 rfl (by kernel_rfl) (y_move rfl) rfl rfl ?_
    obtain ⟨y14, k15, H⟩ := H
    refine g_h 1 3 rfl (by kernel_rfl) (y_ldS Tryz.isAgg32 Tryz.sizeOf32 rfl rfl) k15 rfl rfl ?_
    refine g_e 2 7 [(1, fun h => Cells h a5 y14.cells)] (by kernel_rfl) rfl (by kernel_rfl) (e_call Tryz.call17 rfl (F.spatelaw7_one_ok H)) rfl rfl ?_
    rintro _ h16 ⟨r17, rfl, H⟩
    obtain ⟨k18, H⟩ := H
    refine ⟨And.intro k18 trivial, ?_⟩
    refine g_p 3 15 rfl (by kernel_rfl) (f_build rfl (bd_51_0_1 y14 r17)) rfl rfl ?_
    refine g_e 4 31 [] (by kernel_rfl) rfl (by kernel_rfl) (e_call Tryz.call16 rfl (F.shard_Shard_Put_ok H)) rfl rfl ?_
    rintro _ h19 ⟨r20, rfl, H⟩
    refine ⟨trivial, ?_⟩
    refine g_p 5 63 rfl (by kernel_rfl) (y_assign rfl) rfl rfl ?_
    refine g_d (by kernel_rfl) ?_
    refine tr_thenN ?_
    refine tr_seq ?_
    refine tr_region ?_
    refine tr_p (y_move rfl) rfl rfl ?_
    refine tr_p (y_eql rfl rfl) rfl rfl ?_
    refine tr_p (y_move rfl) rfl rfl ?_
    refine tr_split (t := 29) rfl (fun g21 => ?_) (fun g21 => ?_)
    · replace H := H.1 g21
      refine tr_p (y_move rfl) rfl rfl ?_
      refine tr_p (y_eql rfl rfl) rfl rfl ?_
      refine tr_p (y_pick_t rfl rfl) rfl rfl ?_
      refine tr_p (y_move rfl) rfl rfl ?_
      refine tr_split (t := 33) rfl (fun g22 => ?_) (fun g22 => ?_)
      · replace H := H.1 g22
        refine tr_p (y_move rfl) rfl rfl ?_
        obtain ⟨a23, e24, H⟩ := H
        refine tr_p (f_nn rfl e24) rfl rfl ?_
        refine tr_p (y_fa (off := 0) Tryz.runUnderlying46 fo_46_0 rfl) rfl rfl ?_
        refine tr_e (e_call Tryz.call14 rfl (F.shard_counts_Units_ok H)) rfl rfl ?_
        rintro _ h25 ⟨r26, rfl, H⟩
        refine tr_p (y_eql rfl rfl) rfl rfl ?_
        refine tr_p (y_pick_t rfl rfl) rfl rfl ?_
        refine tr_p (y_move rfl) rfl rfl ?_
        refine tr_split (t := 40) rfl (fun g27 => ?_) (fun g27 => ?_)
        · replace H := H.1 g27
          refine tr_p (y_move rfl) rfl rfl ?_
          obtain ⟨a28, e29, H⟩ := H
          refine tr_p (f_nn rfl e29) rfl rfl ?_
          refine tr_p (y_fa (off := 0) Tryz.runUnderlying46 fo_46_0 rfl) rfl rfl ?_
          refine tr_e (e_call Tryz.call30 rfl (F.shard_counts_Cells_ok H)) rfl rfl ?_
          rintro _ h30 ⟨r31, rfl, H⟩
          refine tr_p (y_eql rfl rfl) rfl rfl ?_
          refine tr_p (y_pick_t rfl rfl) rfl rfl ?_
          refine tr_p (y_move rfl) rfl rfl ?_
          refine tr_split (t := 47) rfl (fun g32 => ?_) (fun g32 => ?_)
          · replace H := H.1 g32
            refine tr_p (y_move rfl) rfl rfl ?_
            refine tr_e (e_call Tryz.call31 rfl (F.shard_Shard_Most_ok H)) rfl rfl ?_
            rintro _ h33 ⟨r34, rfl, H⟩
            refine tr_p (y_eql rfl rfl) rfl rfl ?_
            refine tr_p (y_pick_t rfl rfl) rfl rfl ?_
            refine tr_p (y_move rfl) rfl rfl ?_
            refine tr_split (t := 52) rfl (fun g35 => ?_) (fun g35 => ?_)
            · replace H := H.1 g35
              refine tr_p (y_move rfl) rfl rfl ?_
              obtain ⟨y36, k37, H⟩ := H
              refine tr_h (y_ldS Tryz.isAgg32 Tryz.sizeOf32 rfl rfl) k37 rfl rfl ?_
              refine tr_e (e_call Tryz.call28 rfl (F.shard_Shard_Get_ok H)) rfl rfl ?_
              rintro _ h38 ⟨r39, rfl, H⟩
              refine tr_e (e_call Tryz.call17 rfl (F.spatelaw7_one_ok H)) rfl rfl ?_
              rintro _ h40 ⟨r41, rfl, H⟩
              refine tr_p (st_eql (b := ((r39.Count == r41.Count) && ((r39.Sum == r41.Sum) && ((r39.Min == r41.Min) && ((r39.Max == r41.Max) && true))))) eqg_34 (fun w => eqst_34 r39 r41 9998 w) rfl rfl) rfl rfl ?_
              refine tr_p (y_pick_t rfl rfl) rfl rfl ?_
              refine tr_p (y_move rfl) rfl rfl ?_
              refine tr_split (t := 59) rfl (fun g42 => ?_) (fun g42 => ?_)
              · replace H := H.1 g42
                refine tr_p (y_move rfl) rfl rfl ?_
                obtain ⟨y43, k44, H⟩ := H
                refine tr_h (y_ldS Tryz.isAgg32 Tryz.sizeOf32 rfl rfl) k44 rfl rfl ?_
                refine tr_e (e_call Tryz.call26 rfl (F.shard_Shard_At_ok H)) rfl rfl ?_
                rintro _ h45 ⟨r46, rfl, H⟩
                refine tr_e (e_call Tryz.call17 rfl (F.spatelaw7_one_ok H)) rfl rfl ?_
                rintro _ h47 ⟨r48, rfl, H⟩
                refine tr_p (st_eql (b := ((r46.Count == r48.Count) && ((r46.Sum == r48.Sum) && ((r46.Min == r48.Min) && ((r46.Max == r48.Max) && true))))) eqg_34 (fun w => eqst_34 r46 r48 9998 w) rfl rfl) rfl rfl ?_
                refine tr_p (y_pick_t rfl rfl) rfl rfl ?_
                refine tr_p (y_assign rfl) rfl rfl ?_
                refine tr_nil ?_
                refine tr_thenN ?_
                refine tr_ret ?_
                exact tr_ret1 rfl rfl ⟨_, rfl, H⟩
              · replace H := H.2 g42
                refine tr_s rfl rfl ?_
                refine tr_s rfl rfl ?_
                refine tr_s rfl rfl ?_
                refine tr_s rfl rfl ?_
                refine tr_s rfl rfl ?_
                refine tr_p (y_pick_f rfl rfl) rfl rfl ?_
                refine tr_p (y_assign rfl) rfl rfl ?_
                refine tr_nil ?_
                refine tr_thenN ?_
                refine tr_ret ?_
                exact tr_ret1 rfl rfl ⟨_, rfl, H⟩
            · replace H := H.2 g35
              refine tr_s rfl rfl ?_
              refine tr_s rfl rfl ?_
              refine tr_s rfl rfl ?_
              refine tr_s rfl rfl ?_
              refine tr_s rfl rfl ?_
              refine tr_p (y_pick_f rfl rfl) rfl rfl ?_
              refine tr_p (y_move rfl) rfl rfl ?_
              refine tr_s rfl rfl ?_
              refine tr_s rfl rfl ?_
              refine tr_s rfl rfl ?_
              refine tr_s rfl rfl ?_
              refine tr_s rfl rfl ?_
              refine tr_p (y_pick_f rfl rfl) rfl rfl ?_
              refine tr_p (y_assign rfl) rfl rfl ?_
              refine tr_nil ?_
              refine tr_thenN ?_
              refine tr_ret ?_
              exact tr_ret1 rfl rfl ⟨_, rfl, H⟩
          · replace H := H.2 g32
            refine tr_s rfl rfl ?_
            refine tr_s rfl rfl ?_
            refine tr_s rfl rfl ?_
            refine tr_p (y_pick_f rfl rfl) rfl rfl ?_
            refine tr_p (y_move rfl) rfl rfl ?_
            refine tr_s rfl rfl ?_
            refine tr_s rfl rfl ?_
            refine tr_s rfl rfl ?_
            refine tr_s rfl rfl ?_
            refine tr_s rfl rfl ?_
            refine tr_p (y_pick_f rfl rfl) rfl rfl ?_
            refine tr_p (y_move rfl) rfl rfl ?_
            refine tr_s rfl rfl ?_
            refine tr_s rfl rfl ?_
            refine tr_s rfl rfl ?_
            refine tr_s rfl rfl ?_
            refine tr_s rfl rfl ?_
            refine tr_p (y_pick_f rfl rfl) rfl rfl ?_
            refine tr_p (y_assign rfl) rfl rfl ?_
            refine tr_nil ?_
            refine tr_thenN ?_
            refine tr_ret ?_
            exact tr_ret1 rfl rfl ⟨_, rfl, H⟩
        · replace H := H.2 g27
          refine tr_s rfl rfl ?_
          refine tr_s rfl rfl ?_
          refine tr_s rfl rfl ?_
          refine tr_s rfl rfl ?_
          refine tr_s rfl rfl ?_
          refine tr_p (y_pick_f rfl rfl) rfl rfl ?_
          refine tr_p (y_move rfl) rfl rfl ?_
          refine tr_s rfl rfl ?_
          refine tr_s rfl rfl ?_
          refine tr_s rfl rfl ?_
          refine tr_p (y_pick_f rfl rfl) rfl rfl ?_
          refine tr_p (y_move rfl) rfl rfl ?_
          refine tr_s rfl rfl ?_
          refine tr_s rfl rfl ?_
          refine tr_s rfl rfl ?_
          refine tr_s rfl rfl ?_
          refine tr_s rfl rfl ?_
          refine tr_p (y_pick_f rfl rfl) rfl rfl ?_
          refine tr_p (y_move rfl) rfl rfl ?_
          refine tr_s rfl rfl ?_
          refine tr_s rfl rfl ?_
          refine tr_s rfl rfl ?_
          refine tr_s rfl rfl ?_
          refine tr_s rfl rfl ?_
          refine tr_p (y_pick_f rfl rfl) rfl rfl ?_
          refine tr_p (y_assign rfl) rfl rfl ?_
          refine tr_nil ?_
          refine tr_thenN ?_
          refine tr_ret ?_
          exact tr_ret1 rfl rfl ⟨_, rfl, H⟩
      · replace H := H.2 g22
        refine tr_s rfl rfl ?_
        refine tr_s rfl rfl ?_
        refine tr_s rfl rfl ?_
        refine tr_s rfl rfl ?_
        refine tr_s rfl rfl ?_
        refine tr_p (y_pick_f rfl rfl) rfl rfl ?_
        refine tr_p (y_move rfl) rfl rfl ?_
        refine tr_s rfl rfl ?_
        refine tr_s rfl rfl ?_
        refine tr_s rfl rfl ?_
        refine tr_s rfl rfl ?_
        refine tr_s rfl rfl ?_
        refine tr_p (y_pick_f rfl rfl) rfl rfl ?_
        refine tr_p (y_move rfl) rfl rfl ?_
        refine tr_s rfl rfl ?_
        refine tr_s rfl rfl ?_
        refine tr_s rfl rfl ?_
        refine tr_p (y_pick_f rfl rfl) rfl rfl ?_
        refine tr_p (y_move rfl) rfl rfl ?_
        refine tr_s rfl rfl ?_
        refine tr_s rfl rfl ?_
        refine tr_s rfl rfl ?_
        refine tr_s rfl rfl ?_
        refine tr_s rfl rfl ?_
        refine tr_p (y_pick_f rfl rfl) rfl rfl ?_
        refine tr_p (y_move rfl) rfl rfl ?_
        refine tr_s rfl rfl ?_
        refine tr_s rfl rfl ?_
        refine tr_s rfl rfl ?_
        refine tr_s rfl rfl ?_
        refine tr_s rfl rfl ?_
        refine tr_p (y_pick_f rfl rfl) rfl rfl ?_
        refine tr_p (y_assign rfl) rfl rfl ?_
        refine tr_nil ?_
        refine tr_thenN ?_
        refine tr_ret ?_
        exact tr_ret1 rfl rfl ⟨_, rfl, H⟩
    · replace H := H.2 g21
      refine tr_s rfl rfl ?_
      refine tr_s rfl rfl ?_
      refine tr_p (y_pick_f rfl rfl) rfl rfl ?_
      refine tr_p (y_move rfl) rfl rfl ?_
      refine tr_s rfl rfl ?_
      refine tr_s rfl rfl ?_
      refine tr_s rfl rfl ?_
      refine tr_s rfl rfl ?_
      refine tr_s rfl rfl ?_
      refine tr_p (y_pick_f rfl rfl) rfl rfl ?_
      refine tr_p (y_move rfl) rfl rfl ?_
      refine tr_s rfl rfl ?_
      refine tr_s rfl rfl ?_
      refine tr_s rfl rfl ?_
      refine tr_s rfl rfl ?_
      refine tr_s rfl rfl ?_
      refine tr_p (y_pick_f rfl rfl) rfl rfl ?_
      refine tr_p (y_move rfl) rfl rfl ?_
      refine tr_s rfl rfl ?_
      refine tr_s rfl rfl ?_
      refine tr_s rfl rfl ?_
      refine tr_p (y_pick_f rfl rfl) rfl rfl ?_
      refine tr_p (y_move rfl) rfl rfl ?_
      refine tr_s rfl rfl ?_
      refine tr_s rfl rfl ?_
      refine tr_s rfl rfl ?_
      refine tr_s rfl rfl ?_
      refine tr_s rfl rfl ?_
      refine tr_p (y_pick_f rfl rfl) rfl rfl ?_
      refine tr_p (y_move rfl) rfl rfl ?_
      refine tr_s rfl rfl ?_
      refine tr_s rfl rfl ?_
      refine tr_s rfl rfl ?_
      refine tr_s rfl rfl ?_
      refine tr_s rfl rfl ?_
      refine tr_p (y_pick_f rfl rfl) rfl rfl ?_
      refine tr_p (y_assign rfl) rfl rfl ?_
      refine tr_nil ?_
      refine tr_thenN ?_
      refine tr_ret ?_
      exact tr_ret1 rfl rfl ⟨_, rfl, H⟩
  · refine tr_seq_j (fun L' h => ∃ (x1 : Option Addr) (x15 : Bool), L' = [(1, (.pointer x1)), (15, (.bool x15))] ∧ F.spatelaw7_head.j2 Q x1 x15 h) ?_ ?_
    · rintro L' h ⟨x1, x15, rfl, H⟩
      unfold F.spatelaw7_head.j2 at H
      refine tr_cond rfl (fun g49 => ?_) (fun g49 => ?_)
      · replace H := H.1 g49
        refine tr_seq ?_
        refine tr_region ?_
        refine tr_p (y_assign rfl) rfl rfl ?_
        refine tr_nil ?_
        refine tr_thenN ?_
        refine tr_ret ?_
        refine tr_thenR ?_
        exact tr_ret1 rfl rfl ⟨_, rfl, H⟩
      · replace H := H.2 g49
        refine tr_skip ?_
        refine tr_thenN ?_
        exact tr_join [(1, (.pointer x1))] ⟨rfl, trivial⟩ ⟨_, rfl, H⟩
    · refine tr_region ?_
      refine tr_p (y_move rfl) rfl rfl ?_
      refine tr_p (y_neq rfl rfl) rfl rfl ?_
      refine tr_p (y_move rfl) rfl rfl ?_
      refine tr_split (t := 12) rfl (fun g50 => ?_) (fun g50 => ?_)
      · replace H := H.1 g50
        refine tr_s rfl rfl ?_
        refine tr_s rfl rfl ?_
        refine tr_p (y_pick_t rfl rfl) rfl rfl ?_
        refine tr_nil ?_
        refine tr_thenN ?_
        exact tr_join [(1, (.pointer r2)), (15, (.bool true))] ⟨rfl, rfl, trivial⟩ ⟨_, _, rfl, H⟩
      · replace H := H.2 g50
        refine tr_p (y_move rfl) rfl rfl ?_
        refine tr_p (y_pnil_eql Tryz.runUnderlying24 rfl rfl) rfl rfl ?_
        refine tr_p (y_pick_f rfl rfl) rfl rfl ?_
        refine tr_nil ?_
        refine tr_thenN ?_
        exact tr_join [(1, (.pointer r2)), (15, (.bool r2.isNone))] ⟨rfl, rfl, trivial⟩ ⟨_, _, rfl, H⟩
def F.spatelaw7_ShardTogether.j3 (Q : Bool → H → Prop) (C1 : Int → Sl → Sl → (Option Addr) → Int → H → Prop) (x0 : Int) (x1 : Sl) (x2 : Sl) (x7 : Option Addr) (x9 : Int) (h : H) : Prop :=
  (6 : Int) ≠ 0 ∧
  idxA x1 x9 15 fun a7 =>
  ld_S_spatelaw7_Step h a7 fun y9 =>
  F.spatelaw7_apply x7 (IntKind.wrap .i64 (1 + (IntKind.wrap .i64 (Int.tdiv x9 6)))) y9 h fun r12 h11 =>
  C1 x0 x1 x2 x7 (IntKind.wrap .i64 (x9 + 1)) h11
def F.spatelaw7_ShardTogether.j6 (Q : Bool → H → Prop) (C1 : Int → Sl → (Option Addr) → Sl → Int → H → Prop) (x0 : Int) (x2 : Sl) (x7 : Option Addr) (x10 : Sl) (x11 : Int) (h : H) : Prop :=
  C1 x0 x2 x7 x10 (IntKind.wrap .i64 (x11 + 1)) h
def F.spatelaw7_ShardTogether.j8 (Q : Bool → H → Prop) (C1 : Int → Sl → (Option Addr) → Sl → Int → H → Prop) (C2 : Int → Sl → (Option Addr) → Sl → Int → Addr → Bool → Int → H → Prop) (x0 : Int) (x2 : Sl) (x7 : Option Addr) (x10 : Sl) (x11 : Int) (x12 : Addr) (x13 : Bool) (x14 : Int) (h : H) : Prop :=
  C2 x0 x2 x7 x10 x11 x12 x13 (IntKind.wrap .i64 (x14 + 1)) h
def F.spatelaw7_ShardTogether.l7 (Q : Bool → H → Prop) (C1 : Int → Sl → (Option Addr) → Sl → Int → H → Prop) : Nat → Int → Sl → (Option Addr) → Sl → Int → Addr → Bool → Int → H → Prop
  | 0, _, _, _, _, _, _, _, _, _ => False
  | q7 + 1, x0, x2, x7, x10, x11, x12, x13, x14, h =>
    ((decide (x14 < (x10.len : Int))) = true →
    (x13 = true →
    F.spatelaw7_ShardTogether.j8 Q C1 (F.spatelaw7_ShardTogether.l7 Q C1 q7) x0 x2 x7 x10 x11 x12 true x14 h) ∧
    (x13 = false →
    idxA x10 x14 3 fun a26 =>
    ld_S_api_Cell h a26 fun y28 =>
    ld_S_api_Cell h x12 fun y30 =>
    F.spatelaw7_ShardTogether.j8 Q C1 (F.spatelaw7_ShardTogether.l7 Q C1 q7) x0 x2 x7 x10 x11 x12 ((y28.View == y30.View) && ((y28.Key.toList == y30.Key.toList) && ((y28.Start == y30.Start) && true))) x14 h)) ∧
    ((decide (x14 < (x10.len : Int))) = false →
    ((!x13) = true →
    ld_S_api_Cell h x12 fun y33 =>
    newL h ((y33.cells).toArray) ty_32 1 fun s36 h35 =>
    runL PP (Builtin.append_ #[23, 23] 23 #[x10.enc, s36.enc]) h35 fun s38 h37 =>
    F.spatelaw7_ShardTogether.j6 Q C1 x0 x2 x7 s38 x11 h37) ∧
    ((!x13) = false →
    F.spatelaw7_ShardTogether.j6 Q C1 x0 x2 x7 x10 x11 h))
def F.spatelaw7_ShardTogether.l9 (Q : Bool → H → Prop) : Nat → (Option Addr) → Sl → Int → Int → Int → H → Prop
  | 0, _, _, _, _, _, _ => False
  | q9 + 1, x7, x10, x15, x16, x17, h =>
    ((decide (x17 < (x10.len : Int))) = true →
    idxA x10 x17 3 fun a66 =>
    ld_S_api_Cell h a66 fun y68 =>
    F.spatelaw7_one x17 h fun r71 h70 =>
    Cells h70 a66 y68.cells ∧
    F.shard_Shard_Put x7 6 (⟨y68, r71⟩ : S_api_Row) h70 fun r74 h73 =>
    (((r74 != 0)) = true →
    Q false h73) ∧
    (((r74 != 0)) = false →
    (F.spatelaw7_ShardTogether.l9 Q q9) x7 x10 x15 x16 (IntKind.wrap .i64 (x17 + 1)) h73)) ∧
    ((decide (x17 < (x10.len : Int))) = false →
    nn x7 fun a76 =>
    F.shard_counts_Units (some (a76.add 0)) h fun r79 h78 =>
    (((r79 == (IntKind.wrap .i64 (x16 + x15)))) = true →
    F.shard_Shard_Need x7 6 x10 h78 fun r82 h81 =>
    (((r82 == 0)) = true →
    F.spatelaw7_head  h81 fun r85 h84 =>
    Q r85 h84) ∧
    (((r82 == 0)) = false →
    Q false h81)) ∧
    (((r79 == (IntKind.wrap .i64 (x16 + x15)))) = false →
    Q false h78))
def F.spatelaw7_ShardTogether.l5 (Q : Bool → H → Prop) : Nat → Int → Sl → (Option Addr) → Sl → Int → H → Prop
  | 0, _, _, _, _, _, _ => False
  | q5 + 1, x0, x2, x7, x10, x11, h =>
    ((decide (x11 < (x2.len : Int))) = true →
    idxA x2 x11 3 fun a15 =>
    ld_S_api_Cell h a15 fun y17 =>
    F.spatelaw7_few y17 h fun r20 h19 =>
    new h19 (((⟨0, (⟨#[]⟩ : ByteArray), 0⟩ : S_api_Cell) : S_api_Cell).cells.toArray) ty_32 fun a22 h21 =>
    stH h21 a22 r20.cells fun h23 =>
    ∃ m, F.spatelaw7_ShardTogether.l7 Q (F.spatelaw7_ShardTogether.l5 Q q5) m x0 x2 x7 x10 x11 a22 false 0 h23) ∧
    ((decide (x11 < (x2.len : Int))) = false →
    F.spatelaw7_LendCells x10 h fun r41 h40 =>
    F.shard_Shard_Need x7 6 r41 h40 fun r43 h42 =>
    newL h42 (([]).toArray) ty_32 0 fun s45 h44 =>
    runL PP (Builtin.append_ #[23, 23] 23 #[s45.enc, x10.enc]) h44 fun s47 h46 =>
    runL PP (Builtin.append_ #[23, 23] 23 #[s47.enc, x10.enc]) h46 fun s49 h48 =>
    F.shard_Shard_Need x7 6 s49 h48 fun r51 h50 =>
    (((r51 != r43)) = true →
    Q false h50) ∧
    (((r51 != r43)) = false →
    nn x7 fun a53 =>
    F.shard_counts_Units (some (a53.add 0)) h50 fun r56 h55 =>
    F.shard_Shard_Fits x7 6 x10 h55 fun r58 h57 =>
    ((!r58) = true →
    F.spatelaw7_within x0 40 h57 fun r61 h60 =>
    ((decide ((IntKind.wrap .i64 (r56 + r43)) > (IntKind.wrap .i64 (2 + r61)))) = true →
    F.spatelaw7_head  h60 fun r64 h63 =>
    Q r64 h63) ∧
    ((decide ((IntKind.wrap .i64 (r56 + r43)) > (IntKind.wrap .i64 (2 + r61)))) = false →
    Q false h60)) ∧
    ((!r58) = false →
    ∃ m, F.spatelaw7_ShardTogether.l9 Q m x7 x10 r43 r56 0 h57)))
def F.spatelaw7_ShardTogether.j4 (Q : Bool → H → Prop) (C1 : Int → Sl → Sl → (Option Addr) → Int → H → Prop) (x0 : Int) (x1 : Sl) (x2 : Sl) (x7 : Option Addr) (x9 : Int) (x44 : Bool) (h : H) : Prop :=
  (x44 = true →
  F.spatelaw7_ShardTogether.j3 Q C1 x0 x1 x2 x7 x9 h) ∧
  (x44 = false →
  ∃ m, F.spatelaw7_ShardTogether.l5 Q m x0 x2 x7 (⟨none, 0, 0⟩ : Sl) 0 h)
def F.spatelaw7_ShardTogether.l2 (Q : Bool → H → Prop) : Nat → Int → Sl → Sl → (Option Addr) → Int → H → Prop
  | 0, _, _, _, _, _, _ => False
  | q2 + 1, x0, x1, x2, x7, x9, h =>
    ((decide (x9 < (x1.len : Int))) = true →
    F.spatelaw7_ShardTogether.j4 Q (F.spatelaw7_ShardTogether.l2 Q q2) x0 x1 x2 x7 x9 (decide (x9 < 30)) h) ∧
    ((decide (x9 < (x1.len : Int))) = false →
    F.spatelaw7_ShardTogether.j4 Q (F.spatelaw7_ShardTogether.l2 Q q2) x0 x1 x2 x7 x9 false h)
def F.spatelaw7_ShardTogether.j1 (Q : Bool → H → Prop) (x0 : Int) (x1 : Sl) (x2 : Sl) (x7 : Option Addr) (h : H) : Prop :=
  ∃ m, F.spatelaw7_ShardTogether.l2 Q m x0 x1 x2 x7 0 h
def F.spatelaw7_ShardTogether.j10 (Q : Bool → H → Prop) (x0 : Int) (x1 : Sl) (x2 : Sl) (x7 : Option Addr) (x35 : Bool) (h : H) : Prop :=
  (x35 = true →
  F.spatelaw7_head  h fun r92 h91 =>
  Q r92 h91) ∧
  (x35 = false →
  F.spatelaw7_ShardTogether.j1 Q x0 x1 x2 x7 h)
/-- spate/spatelaw7.ShardTogether -/
def F.spatelaw7_ShardTogether (p0 : Int) (p1 : Sl) (p2 : Sl) (h : H) (Q : Bool → H → Prop) : Prop :=
  F.spatelaw7_within p0 40 h fun r2 h1 =>
  F.shard_New (IntKind.wrap .i64 (2 + r2)) h1 fun r4 r5 h3 =>
  (((r5 != 0)) = true →
  F.spatelaw7_ShardTogether.j10 Q p0 p1 p2 r4 true h3) ∧
  (((r5 != 0)) = false →
  (r4.isNone = true →
  F.spatelaw7_ShardTogether.j10 Q p0 p1 p2 r4 true h3) ∧
  (r4.isNone = false →
  F.spatelaw7_ShardTogether.j10 Q p0 p1 p2 r4 (decide ((p2.len : Int) > 60)) h3))
theorem F.spatelaw7_ShardTogether_ok {p0 : Int} {p1 : Sl} {p2 : Sl} {h : H} {Q : Bool → H → Prop} (H : F.spatelaw7_ShardTogether p0 p1 p2 h Q) : Fn PP 3 ([(.int .i64 p0), p1.enc, p2.enc] : List Value).toArray h fun r h' => ∃ r0, r = (.bool r0) ∧ Q r0 h' := by
  unfold F.spatelaw7_ShardTogether at H
  refine fn_of Tryz.func3 Tryz.ntmps3 rfl rfl fun w0 => ?_
  refine tr_sub [(0, (.int .i64 p0)), (1, p1.enc), (2, p2.enc)] ⟨rfl, rfl, rfl, trivial⟩ ?_
  refine tr_seq ?_
  refine tr_region ?_
  refine tr_p (y_assign rfl) rfl rfl ?_
  refine tr_nil ?_
  refine tr_thenN ?_
  refine tr_seq ?_
  refine tr_region ?_
  refine tr_p (y_move rfl) rfl rfl ?_
  refine tr_e (e_call Tryz.call8 rfl (F.spatelaw7_within_ok H)) rfl rfl ?_
  rintro _ h1 ⟨r2, rfl, H⟩
  refine tr_p (y_add rfl rfl) rfl rfl ?_
  refine tr_e (e_call Tryz.call7 rfl (F.shard_New_ok H)) rfl rfl ?_
  rintro _ h3 ⟨r4, r5, rfl, H⟩
  refine tr_p (y_move rfl) rfl rfl ?_
  refine tr_p (y_ext rfl rfl) rfl rfl ?_
  refine tr_p (y_ext rfl rfl) rfl rfl ?_
  refine tr_p (y_assign rfl) rfl rfl ?_
  refine tr_p (y_assign rfl) rfl rfl ?_
  refine tr_nil ?_
  refine tr_thenN ?_
  refine tr_seq_j (fun L' h => ∃ (x0 : Int) (x1 : Sl) (x2 : Sl) (x7 : Option Addr), L' = [(0, (.int .i64 x0)), (1, x1.enc), (2, x2.enc), (7, (.pointer x7))] ∧ F.spatelaw7_ShardTogether.j1 Q x0 x1 x2 x7 h) ?_ ?_
  · rintro L' h ⟨x0, x1, x2, x7, rfl, H⟩
    unfold F.spatelaw7_ShardTogether.j1 at H
    refine tr_seq ?_
    refine tr_seq ?_
    refine tr_region ?_
    refine tr_p (y_assign rfl) rfl rfl ?_
    refine tr_nil ?_
    refine tr_thenN ?_
    refine tr_block ?_
    obtain ⟨m89, H⟩ := H
    refine tr_sub [(0, (.int .i64 x0)), (1, x1.enc), (2, x2.enc), (7, (.pointer x7)), (9, (.int .i64 0))] ⟨rfl, rfl, rfl, rfl, rfl, trivial⟩ ?_
    refine tr_loop_j (fun m L' h => ∃ (x0 : Int) (x1 : Sl) (x2 : Sl) (x7 : Option Addr) (x9 : Int), L' = [(0, (.int .i64 x0)), (1, x1.enc), (2, x2.enc), (7, (.pointer x7)), (9, (.int .i64 x9))] ∧ F.spatelaw7_ShardTogether.l2 Q m x0 x1 x2 x7 x9 h) ?_ ?_ m89 ⟨_, _, _, _, _, rfl, H⟩
    · rintro L' h ⟨_, _, _, _, _, _, H⟩; exact H
    · rintro q2 L' h ⟨x0, x1, x2, x7, x9, rfl, H⟩
      unfold F.spatelaw7_ShardTogether.l2 at H
      refine tr_seq_j (fun L' h => ∃ (x0 : Int) (x1 : Sl) (x2 : Sl) (x7 : Option Addr) (x9 : Int), L' = [(0, (.int .i64 x0)), (1, x1.enc), (2, x2.enc), (7, (.pointer x7)), (9, (.int .i64 x9))] ∧ F.spatelaw7_ShardTogether.j3 Q (F.spatelaw7_ShardTogether.l2 Q q2) x0 x1 x2 x7 x9 h) ?_ ?_
      · rintro L' h ⟨x0, x1, x2, x7, x9, rfl, H⟩
        unfold F.spatelaw7_ShardTogether.j3 at H
        refine tr_seq ?_
        refine tr_block ?_
        refine tr_region ?_
        refine tr_p (y_move rfl) rfl rfl ?_
        refine tr_p (y_move rfl) rfl rfl ?_
        obtain ⟨e6, H⟩ := H
        refine tr_p (y_quo rfl rfl e6) rfl rfl ?_
        refine tr_p (y_add rfl rfl) rfl rfl ?_
        refine tr_p (y_move rfl) rfl rfl ?_
        refine tr_p (y_move rfl) rfl rfl ?_
        obtain ⟨a7, e8, H⟩ := H
        refine tr_p (f_idx (s := x1) Tryz.runUnderlying22 Tryz.sizeOf37 rfl rfl e8) rfl rfl ?_
        obtain ⟨y9, k10, H⟩ := H
        refine tr_h (y_ldS Tryz.isAgg37 Tryz.sizeOf37 rfl rfl) k10 rfl rfl ?_
        refine tr_e (e_call Tryz.call10 rfl (F.spatelaw7_apply_ok H)) rfl rfl ?_
        rintro _ h11 ⟨r12, rfl, H⟩
        refine tr_nil ?_
        refine tr_blockN ?_
        refine tr_thenN ?_
        refine tr_region ?_
        refine tr_p (y_move rfl) rfl rfl ?_
        refine tr_p (y_add rfl rfl) rfl rfl ?_
        refine tr_p (y_assign rfl) rfl rfl ?_
        refine tr_nil ?_
        refine tr_thenN ?_
        exact tr_join [(0, (.int .i64 x0)), (1, x1.enc), (2, x2.enc), (7, (.pointer x7)), (9, (.int .i64 (IntKind.wrap .i64 (x9 + 1))))] ⟨rfl, rfl, rfl, rfl, rfl, trivial⟩ ⟨_, _, _, _, _, rfl, H⟩
      · refine tr_seq_j (fun L' h => ∃ (x0 : Int) (x1 : Sl) (x2 : Sl) (x7 : Option Addr) (x9 : Int) (x44 : Bool), L' = [(0, (.int .i64 x0)), (1, x1.enc), (2, x2.enc), (7, (.pointer x7)), (9, (.int .i64 x9)), (44, (.bool x44))] ∧ F.spatelaw7_ShardTogether.j4 Q (F.spatelaw7_ShardTogether.l2 Q q2) x0 x1 x2 x7 x9 x44 h) ?_ ?_
        · rintro L' h ⟨x0, x1, x2, x7, x9, x44, rfl, H⟩
          unfold F.spatelaw7_ShardTogether.j4 at H
          refine tr_cond rfl (fun g13 => ?_) (fun g13 => ?_)
          · replace H := H.1 g13
            refine tr_skip ?_
            refine tr_thenN ?_
            exact tr_join [(0, (.int .i64 x0)), (1, x1.enc), (2, x2.enc), (7, (.pointer x7)), (9, (.int .i64 x9))] ⟨rfl, rfl, rfl, rfl, rfl, trivial⟩ ⟨_, _, _, _, _, rfl, H⟩
          · replace H := H.2 g13
            refine tr_exit ?_
            refine tr_thenE ?_
            refine tr_thenE ?_
            refine tr_hit ?_
            refine tr_thenN ?_
            refine tr_seq ?_
            refine tr_region ?_
            refine tr_p (y_assign rfl) rfl rfl ?_
            refine tr_nil ?_
            refine tr_thenN ?_
            refine tr_seq ?_
            refine tr_seq ?_
            refine tr_region ?_
            refine tr_p (y_assign rfl) rfl rfl ?_
            refine tr_nil ?_
            refine tr_thenN ?_
            refine tr_block ?_
            obtain ⟨m87, H⟩ := H
            refine tr_sub [(0, (.int .i64 x0)), (2, x2.enc), (7, (.pointer x7)), (10, (⟨none, 0, 0⟩ : Sl).enc), (11, (.int .i64 0))] ⟨rfl, rfl, rfl, rfl, rfl, trivial⟩ ?_
            refine tr_loop_j (fun m L' h => ∃ (x0 : Int) (x2 : Sl) (x7 : Option Addr) (x10 : Sl) (x11 : Int), L' = [(0, (.int .i64 x0)), (2, x2.enc), (7, (.pointer x7)), (10, x10.enc), (11, (.int .i64 x11))] ∧ F.spatelaw7_ShardTogether.l5 Q m x0 x2 x7 x10 x11 h) ?_ ?_ m87 ⟨_, _, _, _, _, rfl, H⟩
            · rintro L' h ⟨_, _, _, _, _, _, H⟩; exact H
            · rintro q5 L' h ⟨x0, x2, x7, x10, x11, rfl, H⟩
              unfold F.spatelaw7_ShardTogether.l5 at H
              refine tr_seq ?_
              refine tr_seq ?_
              refine tr_region ?_
              refine tr_p (y_move rfl) rfl rfl ?_
              refine tr_p (y_move rfl) rfl rfl ?_
              refine tr_p (y_len (ts := #[]) Tryz.runUnderlying23 (o := x2.ptr) (n := x2.len) (cap := x2.cap) rfl) rfl rfl ?_
              refine tr_p (y_lss rfl rfl) rfl rfl ?_
              refine tr_nil ?_
              refine tr_thenN ?_
              refine tr_cond rfl (fun g14 => ?_) (fun g14 => ?_)
              · replace H := H.1 g14
                refine tr_skip ?_
                refine tr_thenN ?_
                refine tr_seq_j (fun L' h => ∃ (x0 : Int) (x2 : Sl) (x7 : Option Addr) (x10 : Sl) (x11 : Int), L' = [(0, (.int .i64 x0)), (2, x2.enc), (7, (.pointer x7)), (10, x10.enc), (11, (.int .i64 x11))] ∧ F.spatelaw7_ShardTogether.j6 Q (F.spatelaw7_ShardTogether.l5 Q q5) x0 x2 x7 x10 x11 h) ?_ ?_
                · rintro L' h ⟨x0, x2, x7, x10, x11, rfl, H⟩
                  unfold F.spatelaw7_ShardTogether.j6 at H
                  refine tr_region ?_
                  refine tr_p (y_move rfl) rfl rfl ?_
                  refine tr_p (y_add rfl rfl) rfl rfl ?_
                  refine tr_p (y_assign rfl) rfl rfl ?_
                  refine tr_nil ?_
                  refine tr_thenN ?_
                  exact tr_join [(0, (.int .i64 x0)), (2, x2.enc), (7, (.pointer x7)), (10, x10.enc), (11, (.int .i64 (IntKind.wrap .i64 (x11 + 1))))] ⟨rfl, rfl, rfl, rfl, rfl, trivial⟩ ⟨_, _, _, _, _, rfl, H⟩
                · refine tr_block ?_
                  refine tr_seq ?_
                  refine tr_region ?_
                  refine tr_p (y_move rfl) rfl rfl ?_
                  refine tr_p (y_move rfl) rfl rfl ?_
                  obtain ⟨a15, e16, H⟩ := H
                  refine tr_p (f_idx (s := x2) Tryz.runUnderlying23 Tryz.sizeOf32 rfl rfl e16) rfl rfl ?_
                  obtain ⟨y17, k18, H⟩ := H
                  refine tr_h (y_ldS Tryz.isAgg32 Tryz.sizeOf32 rfl rfl) k18 rfl rfl ?_
                  refine tr_e (e_call Tryz.call11 rfl (F.spatelaw7_few_ok H)) rfl rfl ?_
                  rintro _ h19 ⟨r20, rfl, H⟩
                  refine tr_e (f_alloc (cs := ((⟨0, (⟨#[]⟩ : ByteArray), 0⟩ : S_api_Cell) : S_api_Cell).cells.toArray) Tryz.zeroValue32 rfl H) rfl rfl ?_
                  rintro _ h21 ⟨a22, rfl, H⟩
                  refine tr_e (f_store (vs := r20.cells) Tryz.sizeOf32 rfl rfl cellsOfStruct rfl (by intro v hv; exact ones_S_api_Cell _ v hv) H) rfl rfl ?_
                  rintro _ h23 ⟨rfl, H⟩
                  refine tr_nil ?_
                  refine tr_thenN ?_
                  refine tr_seq ?_
                  refine tr_region ?_
                  refine tr_p (y_assign rfl) rfl rfl ?_
                  refine tr_nil ?_
                  refine tr_thenN ?_
                  refine tr_seq ?_
                  refine tr_seq ?_
                  refine tr_region ?_
                  refine tr_p (y_assign rfl) rfl rfl ?_
                  refine tr_nil ?_
                  refine tr_thenN ?_
                  refine tr_block ?_
                  obtain ⟨m39, H⟩ := H
                  refine tr_sub [(0, (.int .i64 x0)), (2, x2.enc), (7, (.pointer x7)), (10, x10.enc), (11, (.int .i64 x11)), (12, (.pointer (some a22))), (13, (.bool false)), (14, (.int .i64 0))] ⟨rfl, rfl, rfl, rfl, rfl, rfl, rfl, rfl, trivial⟩ ?_
                  refine tr_loop_j (fun m L' h => ∃ (x0 : Int) (x2 : Sl) (x7 : Option Addr) (x10 : Sl) (x11 : Int) (x12 : Addr) (x13 : Bool) (x14 : Int), L' = [(0, (.int .i64 x0)), (2, x2.enc), (7, (.pointer x7)), (10, x10.enc), (11, (.int .i64 x11)), (12, (.pointer (some x12))), (13, (.bool x13)), (14, (.int .i64 x14))] ∧ F.spatelaw7_ShardTogether.l7 Q (F.spatelaw7_ShardTogether.l5 Q q5) m x0 x2 x7 x10 x11 x12 x13 x14 h) ?_ ?_ m39 ⟨_, _, _, _, _, _, _, _, rfl, H⟩
                  · rintro L' h ⟨_, _, _, _, _, _, _, _, _, H⟩; exact H
                  · rintro q7 L' h ⟨x0, x2, x7, x10, x11, x12, x13, x14, rfl, H⟩
                    unfold F.spatelaw7_ShardTogether.l7 at H
                    refine tr_seq ?_
                    refine tr_seq ?_
                    refine tr_region ?_
                    refine tr_p (y_move rfl) rfl rfl ?_
                    refine tr_p (y_move rfl) rfl rfl ?_
                    refine tr_p (y_len (ts := #[]) Tryz.runUnderlying23 (o := x10.ptr) (n := x10.len) (cap := x10.cap) rfl) rfl rfl ?_
                    refine tr_p (y_lss rfl rfl) rfl rfl ?_
                    refine tr_nil ?_
                    refine tr_thenN ?_
                    refine tr_cond rfl (fun g24 => ?_) (fun g24 => ?_)
                    · replace H := H.1 g24
                      refine tr_skip ?_
                      refine tr_thenN ?_
                      refine tr_seq_j (fun L' h => ∃ (x0 : Int) (x2 : Sl) (x7 : Option Addr) (x10 : Sl) (x11 : Int) (x12 : Addr) (x13 : Bool) (x14 : Int), L' = [(0, (.int .i64 x0)), (2, x2.enc), (7, (.pointer x7)), (10, x10.enc), (11, (.int .i64 x11)), (12, (.pointer (some x12))), (13, (.bool x13)), (14, (.int .i64 x14))] ∧ F.spatelaw7_ShardTogether.j8 Q (F.spatelaw7_ShardTogether.l5 Q q5) (F.spatelaw7_ShardTogether.l7 Q (F.spatelaw7_ShardTogether.l5 Q q5) q7) x0 x2 x7 x10 x11 x12 x13 x14 h) ?_ ?_
                      · rintro L' h ⟨x0, x2, x7, x10, x11, x12, x13, x14, rfl, H⟩
                        unfold F.spatelaw7_ShardTogether.j8 at H
                        refine tr_region ?_
                        refine tr_p (y_move rfl) rfl rfl ?_
                        refine tr_p (y_add rfl rfl) rfl rfl ?_
                        refine tr_p (y_assign rfl) rfl rfl ?_
                        refine tr_nil ?_
                        refine tr_thenN ?_
                        exact tr_join [(0, (.int .i64 x0)), (2, x2.enc), (7, (.pointer x7)), (10, x10.enc), (11, (.int .i64 x11)), (12, (.pointer (some x12))), (13, (.bool x13)), (14, (.int .i64 (IntKind.wrap .i64 (x14 + 1))))] ⟨rfl, rfl, rfl, rfl, rfl, rfl, rfl, rfl, trivial⟩ ⟨_, _, _, _, _, _, _, _, rfl, H⟩
                      · refine tr_block ?_
                        refine tr_draw mixed [0, 1, 3, 3, 15, 31, 3, 127, 255, 511] (by kernel_rfl) ?_
                        refine g_p 0 1 rfl (by kernel_rfl) (y_move rfl) rfl rfl ?_
                        refine g_p 1 3 rfl (by kernel_rfl) (y_move rfl) rfl rfl ?_
                        refine g_split (t := 74) rfl (fun g25 => ?_) (fun g25 => ?_)
                        · replace H := H.1 g25
                          refine g_s 2 7 rfl (by kernel_rfl) rfl rfl ?_
                          refine g_s 3 15 rfl (by kernel_rfl) rfl rfl ?_
                          refine g_s 4 31 rfl (by kernel_rfl) rfl rfl ?_
                          refine g_s 5 63 rfl (by kernel_rfl) rfl rfl ?_
                          refine g_s 6 127 rfl (by kernel_rfl) rfl rfl ?_
                          refine g_s 7 255 rfl (by kernel_rfl) rfl rfl ?_
                          refine g_p 8 511 rfl (by kernel_rfl) (y_pick_t rfl rfl) rfl rfl ?_
                          refine g_e 9 1023 [] (by kernel_rfl) rfl (by kernel_rfl) (yp_ev (y_assign rfl)) rfl rfl ?_
                          rintro _ _ ⟨rfl, rfl⟩
                          refine ⟨trivial, ?_⟩
                          refine g_d (by kernel_rfl) ?_
                          refine tr_blockN ?_
                          refine tr_thenN ?_
                          exact tr_join [(0, (.int .i64 x0)), (2, x2.enc), (7, (.pointer x7)), (10, x10.enc), (11, (.int .i64 x11)), (12, (.pointer (some x12))), (13, (.bool true)), (14, (.int .i64 x14))] ⟨rfl, rfl, rfl, rfl, rfl, rfl, rfl, rfl, trivial⟩ ⟨_, _, _, _, _, _, _, _, rfl, H⟩
                        · replace H := H.2 g25
                          refine g_p 2 7 rfl (by kernel_rfl) (y_move rfl) rfl rfl ?_
                          refine g_p 3 15 rfl (by kernel_rfl) (y_move rfl) rfl rfl ?_
                          obtain ⟨a26, e27, H⟩ := H
                          refine g_p 4 31 rfl (by kernel_rfl) (f_idx (s := x10) Tryz.runUnderlying23 Tryz.sizeOf32 rfl rfl e27) rfl rfl ?_
                          obtain ⟨y28, k29, H⟩ := H
                          refine g_h 5 63 rfl (by kernel_rfl) (y_ldS Tryz.isAgg32 Tryz.sizeOf32 rfl rfl) k29 rfl rfl ?_
                          obtain ⟨y30, k31, H⟩ := H
                          refine g_h 6 127 rfl (by kernel_rfl) (y_ldS Tryz.isAgg32 Tryz.sizeOf32 rfl rfl) k31 rfl rfl ?_
                          refine g_p 7 255 rfl (by kernel_rfl) (st_eql (b := ((y28.View == y30.View) && ((y28.Key.toList == y30.Key.toList) && ((y28.Start == y30.Start) && true)))) eqg_32 (fun w => eqst_32 y28 y30 9998 w) rfl rfl) rfl rfl ?_
                          refine g_p 8 511 rfl (by kernel_rfl) (y_pick_f rfl rfl) rfl rfl ?_
                          refine g_e 9 1023 [] (by kernel_rfl) rfl (by kernel_rfl) (yp_ev (y_assign rfl)) rfl rfl ?_
                          rintro _ _ ⟨rfl, rfl⟩
                          refine ⟨trivial, ?_⟩
                          refine g_d (by kernel_rfl) ?_
                          refine tr_blockN ?_
                          refine tr_thenN ?_
                          exact tr_join [(0, (.int .i64 x0)), (2, x2.enc), (7, (.pointer x7)), (10, x10.enc), (11, (.int .i64 x11)), (12, (.pointer (some x12))), (13, (.bool ((y28.View == y30.View) && ((y28.Key.toList == y30.Key.toList) && ((y28.Start == y30.Start) && true))))), (14, (.int .i64 x14))] ⟨rfl, rfl, rfl, rfl, rfl, rfl, rfl, rfl, trivial⟩ ⟨_, _, _, _, _, _, _, _, rfl, H⟩
                    · replace H := H.2 g24
                      refine tr_exit ?_
                      refine tr_thenE ?_
                      refine tr_thenE ?_
                      refine tr_hit ?_
                      refine tr_thenN ?_
                      refine tr_seq ?_
                      refine tr_region ?_
                      refine tr_p (y_move rfl) rfl rfl ?_
                      refine tr_p (y_not rfl) rfl rfl ?_
                      refine tr_nil ?_
                      refine tr_thenN ?_
                      refine tr_cond rfl (fun g32 => ?_) (fun g32 => ?_)
                      · replace H := H.1 g32
                        refine tr_region ?_
                        refine tr_p (y_move rfl) rfl rfl ?_
                        obtain ⟨y33, k34, H⟩ := H
                        refine tr_h (y_ldS Tryz.isAgg32 Tryz.sizeOf32 rfl rfl) k34 rfl rfl ?_
                        refine tr_e (f_buildL (cs := (y33.cells).toArray) rfl rfl (bl_23_1_0 y33) H) rfl rfl ?_
                        rintro _ h35 ⟨s36, rfl, H⟩
                        refine tr_e (f_app rfl H) rfl rfl ?_
                        rintro _ h37 ⟨s38, rfl, H⟩
                        refine tr_p (y_assign rfl) rfl rfl ?_
                        refine tr_nil ?_
                        refine tr_blockN ?_
                        refine tr_thenN ?_
                        exact tr_join [(0, (.int .i64 x0)), (2, x2.enc), (7, (.pointer x7)), (10, s38.enc), (11, (.int .i64 x11))] ⟨rfl, rfl, rfl, rfl, rfl, trivial⟩ ⟨_, _, _, _, _, rfl, H⟩
                      · replace H := H.2 g32
                        refine tr_skip ?_
                        refine tr_blockN ?_
                        refine tr_thenN ?_
                        exact tr_join [(0, (.int .i64 x0)), (2, x2.enc), (7, (.pointer x7)), (10, x10.enc), (11, (.int .i64 x11))] ⟨rfl, rfl, rfl, rfl, rfl, trivial⟩ ⟨_, _, _, _, _, rfl, H⟩
              · replace H := H.2 g14
                refine tr_exit ?_
                refine tr_thenE ?_
                refine tr_thenE ?_
                refine tr_hit ?_
                refine tr_thenN ?_
                refine tr_seq ?_
                refine tr_region ?_
                refine tr_p (y_move rfl) rfl rfl ?_
                refine tr_p (y_move rfl) rfl rfl ?_
                refine tr_e (e_call Tryz.call13 rfl (F.spatelaw7_LendCells_ok H)) rfl rfl ?_
                rintro _ h40 ⟨r41, rfl, H⟩
                refine tr_e (e_call Tryz.call12 rfl (F.shard_Shard_Need_ok H)) rfl rfl ?_
                rintro _ h42 ⟨r43, rfl, H⟩
                refine tr_p (y_assign rfl) rfl rfl ?_
                refine tr_nil ?_
                refine tr_thenN ?_
                refine tr_seq ?_
                refine tr_seq ?_
                refine tr_region ?_
                refine tr_p (y_move rfl) rfl rfl ?_
                refine tr_e (f_buildL (cs := ([]).toArray) rfl rfl (bl_23_0_) H) rfl rfl ?_
                rintro _ h44 ⟨s45, rfl, H⟩
                refine tr_p (y_move rfl) rfl rfl ?_
                refine tr_e (f_app rfl H) rfl rfl ?_
                rintro _ h46 ⟨s47, rfl, H⟩
                refine tr_p (y_move rfl) rfl rfl ?_
                refine tr_e (f_app rfl H) rfl rfl ?_
                rintro _ h48 ⟨s49, rfl, H⟩
                refine tr_e (e_call Tryz.call12 rfl (F.shard_Shard_Need_ok H)) rfl rfl ?_
                rintro _ h50 ⟨r51, rfl, H⟩
                refine tr_p (y_move rfl) rfl rfl ?_
                refine tr_p (y_neq rfl rfl) rfl rfl ?_
                refine tr_nil ?_
                refine tr_thenN ?_
                refine tr_cond rfl (fun g52 => ?_) (fun g52 => ?_)
                · replace H := H.1 g52
                  refine tr_seq ?_
                  refine tr_region ?_
                  refine tr_p (y_assign rfl) rfl rfl ?_
                  refine tr_nil ?_
                  refine tr_thenN ?_
                  refine tr_ret ?_
                  refine tr_thenR ?_
                  exact tr_ret1 rfl rfl ⟨_, rfl, H⟩
                · replace H := H.2 g52
                  refine tr_skip ?_
                  refine tr_thenN ?_
                  refine tr_seq ?_
                  refine tr_region ?_
                  refine tr_p (y_move rfl) rfl rfl ?_
                  obtain ⟨a53, e54, H⟩ := H
                  refine tr_p (f_nn rfl e54) rfl rfl ?_
                  refine tr_p (y_fa (off := 0) Tryz.runUnderlying46 fo_46_0 rfl) rfl rfl ?_
                  refine tr_e (e_call Tryz.call14 rfl (F.shard_counts_Units_ok H)) rfl rfl ?_
                  rintro _ h55 ⟨r56, rfl, H⟩
                  refine tr_p (y_assign rfl) rfl rfl ?_
                  refine tr_nil ?_
                  refine tr_thenN ?_
                  refine tr_seq ?_
                  refine tr_seq ?_
                  refine tr_region ?_
                  refine tr_p (y_move rfl) rfl rfl ?_
                  refine tr_p (y_move rfl) rfl rfl ?_
                  refine tr_e (e_call Tryz.call15 rfl (F.shard_Shard_Fits_ok H)) rfl rfl ?_
                  rintro _ h57 ⟨r58, rfl, H⟩
                  refine tr_p (y_not rfl) rfl rfl ?_
                  refine tr_nil ?_
                  refine tr_thenN ?_
                  refine tr_cond rfl (fun g59 => ?_) (fun g59 => ?_)
                  · replace H := H.1 g59
                    refine tr_seq ?_
                    refine tr_region ?_
                    refine tr_p (y_move rfl) rfl rfl ?_
                    refine tr_p (y_move rfl) rfl rfl ?_
                    refine tr_p (y_add rfl rfl) rfl rfl ?_
                    refine tr_p (y_move rfl) rfl rfl ?_
                    refine tr_e (e_call Tryz.call8 rfl (F.spatelaw7_within_ok H)) rfl rfl ?_
                    rintro _ h60 ⟨r61, rfl, H⟩
                    refine tr_p (y_add rfl rfl) rfl rfl ?_
                    refine tr_p (y_gtr rfl rfl) rfl rfl ?_
                    refine tr_p (y_move rfl) rfl rfl ?_
                    refine tr_split (t := 116) rfl (fun g62 => ?_) (fun g62 => ?_)
                    · replace H := H.1 g62
                      refine tr_e (e_call Tryz.call9 rfl (F.spatelaw7_head_ok H)) rfl rfl ?_
                      rintro _ h63 ⟨r64, rfl, H⟩
                      refine tr_p (y_pick_t rfl rfl) rfl rfl ?_
                      refine tr_p (y_assign rfl) rfl rfl ?_
                      refine tr_nil ?_
                      refine tr_thenN ?_
                      refine tr_ret ?_
                      refine tr_thenR ?_
                      exact tr_ret1 rfl rfl ⟨_, rfl, H⟩
                    · replace H := H.2 g62
                      refine tr_s rfl rfl ?_
                      refine tr_p (y_pick_f rfl rfl) rfl rfl ?_
                      refine tr_p (y_assign rfl) rfl rfl ?_
                      refine tr_nil ?_
                      refine tr_thenN ?_
                      refine tr_ret ?_
                      refine tr_thenR ?_
                      exact tr_ret1 rfl rfl ⟨_, rfl, H⟩
                  · replace H := H.2 g59
                    refine tr_skip ?_
                    refine tr_thenN ?_
                    refine tr_seq ?_
                    refine tr_seq ?_
                    refine tr_region ?_
                    refine tr_p (y_assign rfl) rfl rfl ?_
                    refine tr_nil ?_
                    refine tr_thenN ?_
                    refine tr_block ?_
                    obtain ⟨m86, H⟩ := H
                    refine tr_sub [(7, (.pointer x7)), (10, x10.enc), (15, (.int .i64 r43)), (16, (.int .i64 r56)), (17, (.int .i64 0))] ⟨rfl, rfl, rfl, rfl, rfl, trivial⟩ ?_
                    refine tr_loop_j (fun m L' h => ∃ (x7 : Option Addr) (x10 : Sl) (x15 : Int) (x16 : Int) (x17 : Int), L' = [(7, (.pointer x7)), (10, x10.enc), (15, (.int .i64 x15)), (16, (.int .i64 x16)), (17, (.int .i64 x17))] ∧ F.spatelaw7_ShardTogether.l9 Q m x7 x10 x15 x16 x17 h) ?_ ?_ m86 ⟨_, _, _, _, _, rfl, H⟩
                    · rintro L' h ⟨_, _, _, _, _, _, H⟩; exact H
                    · rintro q9 L' h ⟨x7, x10, x15, x16, x17, rfl, H⟩
                      unfold F.spatelaw7_ShardTogether.l9 at H
                      refine tr_seq ?_
                      refine tr_seq ?_
                      refine tr_region ?_
                      refine tr_p (y_move rfl) rfl rfl ?_
                      refine tr_p (y_move rfl) rfl rfl ?_
                      refine tr_p (y_len (ts := #[]) Tryz.runUnderlying23 (o := x10.ptr) (n := x10.len) (cap := x10.cap) rfl) rfl rfl ?_
                      refine tr_p (y_lss rfl rfl) rfl rfl ?_
                      refine tr_nil ?_
                      refine tr_thenN ?_
                      refine tr_cond rfl (fun g65 => ?_) (fun g65 => ?_)
                      · replace H := H.1 g65
                        refine tr_skip ?_
                        refine tr_thenN ?_
                        refine tr_seq ?_
                        refine tr_block ?_
                        refine tr_seq ?_
                        refine tr_draw mixed [0, 0, 0, 6, 14, 0, 32, 126, 255, 511] (by kernel_rfl) ?_
                        refine g_p 0 1 rfl (by kernel_rfl) (y_move rfl) rfl rfl ?_
                        refine g_p 1 3 rfl (by kernel_rfl) (y_move rfl) rfl rfl ?_
                        refine g_p 2 7 rfl (by kernel_rfl) (y_move rfl) rfl rfl ?_
                        obtain ⟨a66, e67, H⟩ := H
                        refine g_p 3 15 rfl (by kernel_rfl) (f_idx (s := x10) Tryz.runUnderlying23 Tryz.sizeOf32 rfl rfl e67) rfl rfl ?_
                        obtain ⟨y68, k69, H⟩ := H
                        refine g_h 4 31 rfl (by kernel_rfl) (y_ldS Tryz.isAgg32 Tryz.sizeOf32 rfl rfl) k69 rfl rfl ?_
                        refine g_p 5 63 rfl (by kernel_rfl) (y_move rfl) rfl rfl ?_
                        refine g_e 6 127 [(4, fun h => Cells h a66 y68.cells)] (by kernel_rfl) rfl (by kernel_rfl) (e_call Tryz.call17 rfl (F.spatelaw7_one_ok H)) rfl rfl ?_
                        rintro _ h70 ⟨r71, rfl, H⟩
                        obtain ⟨k72, H⟩ := H
                        refine ⟨And.intro k72 trivial, ?_⟩
                        refine g_p 7 255 rfl (by kernel_rfl) (f_build rfl (bd_51_0_1 y68 r71)) rfl rfl ?_
                        refine g_e 8 511 [] (by kernel_rfl) rfl (by kernel_rfl) (e_call Tryz.call16 rfl (F.shard_Shard_Put_ok H)) rfl rfl ?_
                        rintro _ h73 ⟨r74, rfl, H⟩
                        refine ⟨trivial, ?_⟩
                        refine g_p 9 1023 rfl (by kernel_rfl) (y_neq rfl rfl) rfl rfl ?_
                        refine g_d (by kernel_rfl) ?_
                        refine tr_thenN ?_
                        refine tr_cond rfl (fun g75 => ?_) (fun g75 => ?_)
                        · replace H := H.1 g75
                          refine tr_seq ?_
                          refine tr_region ?_
                          refine tr_p (y_assign rfl) rfl rfl ?_
                          refine tr_nil ?_
                          refine tr_thenN ?_
                          refine tr_ret ?_
                          refine tr_blockR ?_
                          refine tr_thenR ?_
                          refine tr_thenR ?_
                          refine tr_blockR ?_
                          refine tr_thenR ?_
                          exact tr_ret1 rfl rfl ⟨_, rfl, H⟩
                        · replace H := H.2 g75
                          refine tr_skip ?_
                          refine tr_blockN ?_
                          refine tr_thenN ?_
                          refine tr_region ?_
                          refine tr_p (y_move rfl) rfl rfl ?_
                          refine tr_p (y_add rfl rfl) rfl rfl ?_
                          refine tr_p (y_assign rfl) rfl rfl ?_
                          refine tr_nil ?_
                          refine tr_thenN ?_
                          exact tr_join [(7, (.pointer x7)), (10, x10.enc), (15, (.int .i64 x15)), (16, (.int .i64 x16)), (17, (.int .i64 (IntKind.wrap .i64 (x17 + 1))))] ⟨rfl, rfl, rfl, rfl, rfl, trivial⟩ ⟨_, _, _, _, _, rfl, H⟩
                      · replace H := H.2 g65
                        refine tr_exit ?_
                        refine tr_thenE ?_
                        refine tr_thenE ?_
                        refine tr_hit ?_
                        refine tr_thenN ?_
                        refine tr_seq ?_
                        refine tr_region ?_
                        refine tr_p (y_move rfl) rfl rfl ?_
                        obtain ⟨a76, e77, H⟩ := H
                        refine tr_p (f_nn rfl e77) rfl rfl ?_
                        refine tr_p (y_fa (off := 0) Tryz.runUnderlying46 fo_46_0 rfl) rfl rfl ?_
                        refine tr_e (e_call Tryz.call14 rfl (F.shard_counts_Units_ok H)) rfl rfl ?_
                        rintro _ h78 ⟨r79, rfl, H⟩
                        refine tr_p (y_move rfl) rfl rfl ?_
                        refine tr_p (y_move rfl) rfl rfl ?_
                        refine tr_p (y_add rfl rfl) rfl rfl ?_
                        refine tr_p (y_eql rfl rfl) rfl rfl ?_
                        refine tr_p (y_move rfl) rfl rfl ?_
                        refine tr_split (t := 143) rfl (fun g80 => ?_) (fun g80 => ?_)
                        · replace H := H.1 g80
                          refine tr_p (y_move rfl) rfl rfl ?_
                          refine tr_p (y_move rfl) rfl rfl ?_
                          refine tr_e (e_call Tryz.call12 rfl (F.shard_Shard_Need_ok H)) rfl rfl ?_
                          rintro _ h81 ⟨r82, rfl, H⟩
                          refine tr_p (y_eql rfl rfl) rfl rfl ?_
                          refine tr_p (y_pick_t rfl rfl) rfl rfl ?_
                          refine tr_p (y_move rfl) rfl rfl ?_
                          refine tr_split (t := 149) rfl (fun g83 => ?_) (fun g83 => ?_)
                          · replace H := H.1 g83
                            refine tr_e (e_call Tryz.call9 rfl (F.spatelaw7_head_ok H)) rfl rfl ?_
                            rintro _ h84 ⟨r85, rfl, H⟩
                            refine tr_p (y_pick_t rfl rfl) rfl rfl ?_
                            refine tr_p (y_assign rfl) rfl rfl ?_
                            refine tr_nil ?_
                            refine tr_thenN ?_
                            refine tr_ret ?_
                            exact tr_ret1 rfl rfl ⟨_, rfl, H⟩
                          · replace H := H.2 g83
                            refine tr_s rfl rfl ?_
                            refine tr_p (y_pick_f rfl rfl) rfl rfl ?_
                            refine tr_p (y_assign rfl) rfl rfl ?_
                            refine tr_nil ?_
                            refine tr_thenN ?_
                            refine tr_ret ?_
                            exact tr_ret1 rfl rfl ⟨_, rfl, H⟩
                        · replace H := H.2 g80
                          refine tr_s rfl rfl ?_
                          refine tr_s rfl rfl ?_
                          refine tr_s rfl rfl ?_
                          refine tr_s rfl rfl ?_
                          refine tr_p (y_pick_f rfl rfl) rfl rfl ?_
                          refine tr_p (y_move rfl) rfl rfl ?_
                          refine tr_s rfl rfl ?_
                          refine tr_p (y_pick_f rfl rfl) rfl rfl ?_
                          refine tr_p (y_assign rfl) rfl rfl ?_
                          refine tr_nil ?_
                          refine tr_thenN ?_
                          refine tr_ret ?_
                          exact tr_ret1 rfl rfl ⟨_, rfl, H⟩
        · refine tr_region ?_
          refine tr_p (y_move rfl) rfl rfl ?_
          refine tr_p (y_move rfl) rfl rfl ?_
          refine tr_p (y_len (ts := #[]) Tryz.runUnderlying22 (o := x1.ptr) (n := x1.len) (cap := x1.cap) rfl) rfl rfl ?_
          refine tr_p (y_lss rfl rfl) rfl rfl ?_
          refine tr_p (y_move rfl) rfl rfl ?_
          refine tr_split (t := 41) rfl (fun g88 => ?_) (fun g88 => ?_)
          · replace H := H.1 g88
            refine tr_p (y_move rfl) rfl rfl ?_
            refine tr_p (y_lss rfl rfl) rfl rfl ?_
            refine tr_p (y_pick_t rfl rfl) rfl rfl ?_
            refine tr_nil ?_
            refine tr_thenN ?_
            exact tr_join [(0, (.int .i64 x0)), (1, x1.enc), (2, x2.enc), (7, (.pointer x7)), (9, (.int .i64 x9)), (44, (.bool (decide (x9 < 30))))] ⟨rfl, rfl, rfl, rfl, rfl, rfl, trivial⟩ ⟨_, _, _, _, _, _, rfl, H⟩
          · replace H := H.2 g88
            refine tr_s rfl rfl ?_
            refine tr_s rfl rfl ?_
            refine tr_p (y_pick_f rfl rfl) rfl rfl ?_
            refine tr_nil ?_
            refine tr_thenN ?_
            exact tr_join [(0, (.int .i64 x0)), (1, x1.enc), (2, x2.enc), (7, (.pointer x7)), (9, (.int .i64 x9)), (44, (.bool false))] ⟨rfl, rfl, rfl, rfl, rfl, rfl, trivial⟩ ⟨_, _, _, _, _, _, rfl, H⟩
  · refine tr_seq_j (fun L' h => ∃ (x0 : Int) (x1 : Sl) (x2 : Sl) (x7 : Option Addr) (x35 : Bool), L' = [(0, (.int .i64 x0)), (1, x1.enc), (2, x2.enc), (7, (.pointer x7)), (35, (.bool x35))] ∧ F.spatelaw7_ShardTogether.j10 Q x0 x1 x2 x7 x35 h) ?_ ?_
    · rintro L' h ⟨x0, x1, x2, x7, x35, rfl, H⟩
      unfold F.spatelaw7_ShardTogether.j10 at H
      refine tr_cond rfl (fun g90 => ?_) (fun g90 => ?_)
      · replace H := H.1 g90
        refine tr_seq ?_
        refine tr_region ?_
        refine tr_e (e_call Tryz.call9 rfl (F.spatelaw7_head_ok H)) rfl rfl ?_
        rintro _ h91 ⟨r92, rfl, H⟩
        refine tr_p (y_assign rfl) rfl rfl ?_
        refine tr_nil ?_
        refine tr_thenN ?_
        refine tr_ret ?_
        refine tr_thenR ?_
        exact tr_ret1 rfl rfl ⟨_, rfl, H⟩
      · replace H := H.2 g90
        refine tr_skip ?_
        refine tr_thenN ?_
        exact tr_join [(0, (.int .i64 x0)), (1, x1.enc), (2, x2.enc), (7, (.pointer x7))] ⟨rfl, rfl, rfl, rfl, trivial⟩ ⟨_, _, _, _, rfl, H⟩
    · refine tr_region ?_
      refine tr_p (y_move rfl) rfl rfl ?_
      refine tr_p (y_neq rfl rfl) rfl rfl ?_
      refine tr_p (y_move rfl) rfl rfl ?_
      refine tr_split (t := 27) rfl (fun g93 => ?_) (fun g93 => ?_)
      · replace H := H.1 g93
        refine tr_s rfl rfl ?_
        refine tr_s rfl rfl ?_
        refine tr_p (y_pick_t rfl rfl) rfl rfl ?_
        refine tr_p (y_move rfl) rfl rfl ?_
        refine tr_s rfl rfl ?_
        refine tr_s rfl rfl ?_
        refine tr_s rfl rfl ?_
        refine tr_p (y_pick_t rfl rfl) rfl rfl ?_
        refine tr_nil ?_
        refine tr_thenN ?_
        exact tr_join [(0, (.int .i64 p0)), (1, p1.enc), (2, p2.enc), (7, (.pointer r4)), (35, (.bool true))] ⟨rfl, rfl, rfl, rfl, rfl, trivial⟩ ⟨_, _, _, _, _, rfl, H⟩
      · replace H := H.2 g93
        refine tr_p (y_move rfl) rfl rfl ?_
        refine tr_p (y_pnil_eql Tryz.runUnderlying24 rfl rfl) rfl rfl ?_
        refine tr_p (y_pick_f rfl rfl) rfl rfl ?_
        refine tr_p (y_move rfl) rfl rfl ?_
        refine tr_split (t := 31) rfl (fun g94 => ?_) (fun g94 => ?_)
        · replace H := H.1 g94
          refine tr_s rfl rfl ?_
          refine tr_s rfl rfl ?_
          refine tr_s rfl rfl ?_
          refine tr_p (y_pick_t rfl rfl) rfl rfl ?_
          refine tr_nil ?_
          refine tr_thenN ?_
          exact tr_join [(0, (.int .i64 p0)), (1, p1.enc), (2, p2.enc), (7, (.pointer r4)), (35, (.bool true))] ⟨rfl, rfl, rfl, rfl, rfl, trivial⟩ ⟨_, _, _, _, _, rfl, H⟩
        · replace H := H.2 g94
          refine tr_p (y_move rfl) rfl rfl ?_
          refine tr_p (y_len (ts := #[]) Tryz.runUnderlying23 (o := p2.ptr) (n := p2.len) (cap := p2.cap) rfl) rfl rfl ?_
          refine tr_p (y_gtr rfl rfl) rfl rfl ?_
          refine tr_p (y_pick_f rfl rfl) rfl rfl ?_
          refine tr_nil ?_
          refine tr_thenN ?_
          exact tr_join [(0, (.int .i64 p0)), (1, p1.enc), (2, p2.enc), (7, (.pointer r4)), (35, (.bool (decide ((p2.len : Int) > 60))))] ⟨rfl, rfl, rfl, rfl, rfl, trivial⟩ ⟨_, _, _, _, _, rfl, H⟩
end Go.Proofs.YtoccbnhahaoeiaaGreat.V
namespace Go.Proofs.YtoccbnhahaoeiaaGreat.V
open Go
set_option linter.unusedVariables false
set_option linter.unusedSimpArgs false
abbrev Cel := S_api_Cell
theorem cU_one (b : UInt8) : ∀ v ∈ cU b, v.oneCell' = true := one1 rfl
theorem Blk.cells3 {h : H} {n : Nat} {c : Cel} {e : TypeId} (k : Blk h n c.cells.toArray e) : Cells h ⟨n, 0, none⟩ c.cells := fun j v hv => by rw [add_lit, Nat.zero_add]; exact k.cell (by simpa using hv)
def mayC (c : Cel) : Int := if c.View < 0 ∨ c.View > 4 then 23 else if (c.Key.size : Int) > 32 then 21 else if c.Start < -2305843009213693952 ∨ c.Start > 2305843009213693952 then 22 else 0
theorem mayC_spec {h : H} {c : Cel} {Q : Int → H → Prop} (k : ∀ h', Ext h h' → Q (mayC c) h') : F.merge_may c h Q := by
  unfold F.merge_may
  refine new_of fun n h1 e1 e2 e3 e4 => ?_
  have k := k h1 e3
  unfold mayC at k
  simp only [F.merge_may.j1, F.merge_may.j2, add_lit, Nat.zero_add, ldI_iff (e2.cell (i := 0) (v := .int .i64 c.View) rfl), ldS_iff (e2.cell (i := 1) (v := .string c.Key) rfl), ldI_iff (e2.cell (i := 2) (v := .int .i64 c.Start) rfl), decide_eq_true_eq, decide_eq_false_iff_not]
  have hb : ¬ (c.View < 0 ∨ c.View > 4) → ((c.Key.size : Int) > 32 → Q 21 h1) ∧ (¬ (c.Key.size : Int) > 32 → (c.Start < -2305843009213693952 → (True → Q 22 h1) ∧ (true = false → Q 0 h1)) ∧ (¬ c.Start < -2305843009213693952 → (c.Start > 2305843009213693952 → Q 22 h1) ∧ (¬ c.Start > 2305843009213693952 → Q 0 h1))) := fun g => by
    rw [if_neg g] at k
    refine ⟨fun g1 => by rw [if_pos g1] at k; exact k, fun g1 => ?_⟩
    rw [if_neg g1] at k
    refine ⟨fun g2 => ⟨fun _ => by rw [if_pos (.inl g2)] at k; exact k, fun h => by cases h⟩, fun g2 => ⟨fun g3 => by rw [if_pos (.inr g3)] at k; exact k, fun g3 => by rw [if_neg (by omega)] at k; exact k⟩⟩
  refine ⟨fun g => ⟨fun _ => by rw [if_pos (.inl g)] at k; exact k, fun h => by cases h⟩, fun g => ⟨fun g2 => by rw [if_pos (.inr g2)] at k; exact k, fun g2 => hb (by omega)⟩⟩
def escL : List UInt8 → List UInt8
  | [] => []
  | b :: r => if b = 0 then 0 :: 255 :: escL r else b :: escL r
theorem escL_snoc (b : UInt8) : ∀ l, escL (l ++ [b]) = escL l ++ (if b = 0 then [0, 255] else [b])
  | [] => by by_cases h : b = 0 <;> simp [escL, h]
  | x :: r => by simp only [List.cons_append, escL, escL_snoc b r]; split <;> simp
theorem escL_len : ∀ l : List UInt8, (escL l).length ≤ 2 * l.length
  | [] => by simp [escL]
  | b :: r => by have := escL_len r; simp only [escL]; split <;> simp <;> omega
def beT (u : Nat) : Nat → List UInt8
  | 0 => []
  | j + 1 => UInt8.ofNat (u / 2 ^ (8 * j)) :: beT u j
theorem beT_len (u : Nat) : ∀ j, (beT u j).length = j
  | 0 => rfl
  | j + 1 => by simp [beT, beT_len u j]
def upU (n : Int) : Nat := (IntKind.wrap .u64 (IntKind.wrap .u64 n + 9223372036854775808)).toNat
def keyL (c : Cel) : List UInt8 := UInt8.ofNat c.View.toNat :: (escL c.Key.data.toList ++ [0, 1] ++ beT (upU c.Start) 8)
theorem wrap_u64 (n : Int) : IntKind.wrap .u64 n = n % 18446744073709551616 := by
  unfold IntKind.wrap; simp [IntKind.bits, IntKind.signed]
theorem wrap_u8 (n : Int) : IntKind.wrap .u8 n = n % 256 := by
  unfold IntKind.wrap; simp [IntKind.bits, IntKind.signed]
theorem upU_eq (n : Int) : ((upU n : Nat) : Int) = IntKind.wrap .u64 (IntKind.wrap .u64 n + 9223372036854775808) := by
  unfold upU
  rw [Int.toNat_of_nonneg]
  rw [wrap_u64]; omega
theorem fdiv_pow (u i : Nat) : Int.fdiv (u : Int) (2 ^ i : Int) = ((u / 2 ^ i : Nat) : Int) := by
  have e : (2 ^ i : Int) = ((2 ^ i : Nat) : Int) := by simp
  rw [e, Int.ofNat_fdiv]
theorem u8_of (n : Nat) : ((UInt8.ofNat n).toNat : Int) = IntKind.wrap .u8 (n : Int) := by
  rw [wrap_u8]; simp
theorem key_tail {h0 : H} {u : Nat} {Q : ByteArray → Int → H → Prop} {L0 : List UInt8} (hL0 : L0.length ≤ 1000) (k : ∀ h', Ext h0 h' → Q ⟨(L0 ++ beT u 8).toArray⟩ 0 h') :
    ∀ (j m : Nat) (h : H) (s : Sl) (L : List UInt8), j ≤ 8 → j < m → Ext h0 h → Owns h s 5 1 (L.flatMap cU) → Mine h0 s → L ++ beT u j = L0 ++ beT u 8 → F.merge_Key.l2 Q m s (u : Int) (8 * (j : Int) - 8) h
  | j, 0, h, s, L, _, hm, _, _, _, _ => by omega
  | j, m + 1, h, s, L, hj, hm, e0, ow, mi, hL => by
    unfold F.merge_Key.l2
    simp only [decide_eq_true_eq, decide_eq_false_iff_not]
    have hlen : L.length + j = L0.length + 8 := by have := congrArg List.length hL; simpa [beT_len] using this
    refine ⟨fun g => ⟨g, ?_⟩, fun g => ?_⟩
    · obtain ⟨i, rfl⟩ : ∃ i, j = i + 1 := ⟨j - 1, by omega⟩
      have hb : IntKind.wrap .u8 (Int.fdiv (u : Int) (2 ^ (min (8 * ((i + 1 : Nat) : Int) - 8).toNat (IntKind.bits .u64)) : Int)) = ((UInt8.ofNat (u / 2 ^ (8 * i))).toNat : Int) := by
        rw [u8_of, show (8 * ((i + 1 : Nat) : Int) - 8).toNat = 8 * i from by omega, show min (8 * i) (IntKind.bits .u64) = 8 * i from by simp [IntKind.bits]; omega]
        rw [fdiv_pow]
      rw [hb]
      refine push_mine (f := cU) (UInt8.ofNat (u / 2 ^ (8 * i))) e0 mi cU_len (by omega) el_Sluint8 ow cU_one (by omega) fun r h1 q1 q2 q3 q4 q5 => ?_
      rw [w64 (by omega) (by omega), show 8 * ((i + 1 : Nat) : Int) - 8 - 8 = 8 * (i : Int) - 8 from by omega]
      refine key_tail hL0 k i m h1 r _ (by omega) (by omega) q2 q1 q3 ?_
      rw [← hL]; simp [beT]
    · have : j = 0 := by omega
      subst this
      refine cvtT_of (l := L) el_Sluint8.slice Tryz.underlying5 Tryz.underlying9 ow.reads ?_
      have : L = L0 ++ beT u 8 := by simpa [beT] using hL
      rw [this]; exact k h e0
theorem key_loop {h0 : H} {c : Cel} {n : Nat} {Q : ByteArray → Int → H → Prop} {pre : UInt8} (hk : c.Key.size ≤ 32) (k : ∀ h', Ext h0 h' → Q ⟨(pre :: (escL c.Key.data.toList ++ [0, 1] ++ beT (upU c.Start) 8)).toArray⟩ 0 h') (hn : h0.size ≤ n) :
    ∀ (m i : Nat) (h : H) (s : Sl), i ≤ c.Key.size → c.Key.size - i < m → Ext h0 h → Blk h n c.cells.toArray tn_api_Cell → n < h.size → Owns h s 5 1 ((pre :: escL (c.Key.data.toList.take i)).flatMap cU) → Mine h0 s → s.blk ≠ some n →
    F.merge_Key.l1 Q m ⟨n, 0, none⟩ s (c.Key.size : Int) (i : Int) h
  | 0, i, h, s, _, hm, _, _, _, _, _, _ => by omega
  | m + 1, i, h, s, hi, hm, e0, bl, hnl, ow, mi, hne => by
    unfold F.merge_Key.l1
    simp only [decide_eq_true_eq, decide_eq_false_iff_not, add_lit, Nat.zero_add]
    have hel := escL_len (c.Key.data.toList.take i)
    rw [List.length_take, ← size_data] at hel
    refine ⟨fun g => ?_, fun g => ?_⟩
    · rw [ldS_iff (bl.cell (i := 1) (v := .string c.Key) rfl)]
      obtain ⟨b, hb⟩ : ∃ b, c.Key.data.toList[i]? = some b := ⟨_, List.getElem?_eq_getElem (by rw [← size_data]; omega)⟩
      refine idxS_of hb rfl ?_
      have htk : escL (c.Key.data.toList.take (i + 1)) = escL (c.Key.data.toList.take i) ++ (if b = 0 then [0, 255] else [b]) := by rw [List.take_add_one, hb]; exact escL_snoc b _
      refine push_mine (f := cU) b e0 mi cU_len (by omega) el_Sluint8 ow cU_one (by simp; omega) fun r h1 q1 q2 q3 q4 q5 => ?_
      have bl1 : Blk h1 n c.cells.toArray tn_api_Cell := q4.block bl hne
      have hg1 := q4.size
      have hne1 : r.blk ≠ some n := by
        rcases q5 with q5 | ⟨x, q5, q6⟩
        · rw [q5]; exact hne
        · rw [q5]; intro e; cases e; omega
      rw [ldS_iff (bl1.cell (i := 1) (v := .string c.Key) rfl)]
      refine idxS_of hb rfl ?_
      have hw : IntKind.wrap .i64 ((i : Int) + 1) = ((i + 1 : Nat) : Int) := by rw [w64 (by omega) (by omega)]; omega
      rw [hw, beq_iff_eq, beq_eq_false_iff_ne]
      have hb0 : (b.toNat : Int) = 0 ↔ b = 0 := by
        constructor
        · intro h; exact UInt8.toNat_inj.1 (by simpa using (by omega : b.toNat = 0))
        · intro h; subst h; rfl
      rw [hb0, Ne, hb0]
      refine ⟨fun g2 => ?_, fun g2 => ?_⟩
      · refine push_mine (f := cU) 255 q2 q3 cU_len (by omega) el_Sluint8 q1 cU_one (by simp; omega) fun r2 h2 p1 p2 p3 p4 p5 => ?_
        have hne2 : r2.blk ≠ some n := by
          rcases p5 with p5 | ⟨x, p5, p6⟩
          · rw [p5]; exact hne1
          · rw [p5]; intro e; cases e; omega
        refine key_loop hk k hn m (i + 1) h2 r2 (by omega) (by omega) p2 (p4.block bl1 hne1) (by have := p4.size; omega) ?_ p3 hne2
        rw [htk, if_pos g2]; subst g2; simpa using p1
      · refine key_loop hk k hn m (i + 1) h1 r (by omega) (by omega) q2 bl1 (by omega) ?_ q3 hne1
        rw [htk, if_neg g2]; simpa using q1
    · have hii : i = c.Key.size := by omega
      subst hii
      refine newL_of fun x h1 e1 e2 e3 e4 => ?_
      refine app_mine (f := cU) (M := [0, 1]) (e0.trans e3) mi cU_len (by omega) el_Sluint8 (ow.ext e3) (blk_reads (show Blk h1 x (([0, 1] : List UInt8).flatMap cU).toArray 5 from e2) rfl) cU_one (by simp; omega) fun r h2 q1 q2 q3 q4 q5 => ?_
      have bl1 : Blk h2 n c.cells.toArray tn_api_Cell := q4.block (e3.block bl (fun f => f)) hne
      rw [ldI_iff (bl1.cell (i := 2) (v := .int .i64 c.Start) rfl), ← upU_eq]
      refine ⟨9, ?_⟩
      have ht : c.Key.data.toList.take c.Key.size = c.Key.data.toList := List.take_of_length_le (by rw [← size_data]; omega)
      rw [ht] at q1
      have hl2 := escL_len c.Key.data.toList
      rw [← size_data] at hl2
      refine key_tail (L0 := pre :: (escL c.Key.data.toList ++ [0, 1])) (by simp; omega) (by simpa using k) 8 9 h2 r _ (by omega) (by omega) q2 q1 q3 (by simp)
theorem Key_spec {h : H} {c : Cel} {Q : ByteArray → Int → H → Prop} (k0 : mayC c ≠ 0 → ∀ h', Ext h h' → Q ⟨#[]⟩ (mayC c) h') (k1 : mayC c = 0 → ∀ h', Ext h h' → Q ⟨(keyL c).toArray⟩ 0 h') : F.merge_Key c h Q := by
  unfold F.merge_Key
  refine new_of fun n h1 e1 e2 e3 e4 => ?_
  refine ⟨c, e2.cells3, mayC_spec fun h2 f1 => ?_⟩
  have e5 := e3.trans f1
  have bl : Blk h2 n c.cells.toArray tn_api_Cell := f1.block e2 (fun f => f)
  refine ⟨fun g => k0 (by simpa using g) h2 e5, fun g => ?_⟩
  have hm : mayC c = 0 := by simpa using g
  simp only [add_lit, Nat.zero_add]
  rw [ldI_iff (bl.cell (i := 0) (v := .int .i64 c.View) rfl)]
  have hv : 0 ≤ c.View ∧ c.View ≤ 4 ∧ c.Key.size ≤ 32 := by
    unfold mayC at hm
    split at hm
    · omega
    · split at hm
      · omega
      · omega
  have hw : IntKind.wrap .u8 c.View = ((UInt8.ofNat c.View.toNat).toNat : Int) := by rw [u8_of, Int.toNat_of_nonneg hv.1]
  rw [hw]
  refine newL_of fun x h3 g1 g2 g3 g4 => ?_
  have bl3 : Blk h3 n c.cells.toArray tn_api_Cell := g3.block bl (fun f => f)
  rw [ldS_iff (bl3.cell (i := 1) (v := .string c.Key) rfl)]
  have hs := e5.size
  have hs3 := e3.size
  have hf1 := f1.size
  refine ⟨c.Key.size + 1, ?_⟩
  refine key_loop (h0 := h) (pre := UInt8.ofNat c.View.toNat) hv.2.2 (fun h' e => k1 hm h' e) (by omega) _ 0 h3 _ (by omega) (by omega) (e5.trans g3) bl3 (by omega) (show Owns h3 ⟨some ⟨x, 0, none⟩, 1, 1⟩ 5 1 [.int .u8 ((UInt8.ofNat c.View.toNat).toNat : Int)] from blk_owns (m := 1) g2 rfl (by simp [maxLen])) (fun b hb => by simp [Sl.blk] at hb; omega) (by simp [Sl.blk]; omega)
end Go.Proofs.YtoccbnhahaoeiaaGreat.V
namespace Go.Proofs.YtoccbnhahaoeiaaGreat.V
open Go
set_option linter.unusedVariables false
set_option linter.unusedSimpArgs false
/-- The key's letters, and what lies behind them; or the error. -/
def unesc : List UInt8 → Except Int (List UInt8 × List UInt8)
  | [] => .error 11
  | b :: r => if b ≠ 0 then (match unesc r with | .ok p => .ok (b :: p.1, p.2) | .error e => .error e) else
    match r with
    | [] => .error 11
    | x :: r' => if x = 1 then .ok ([], r') else if x ≠ 255 then .error 12 else (match unesc r' with | .ok p => .ok (0 :: p.1, p.2) | .error e => .error e)
def beV : Nat → List UInt8 → Nat
  | u, [] => u
  | u, b :: r => beV (u * 256 + b.toNat) r
def zeroC : Cel := ⟨0, ⟨#[]⟩, 0⟩
def startOf (u : Nat) : Int := IntKind.wrap .i64 (IntKind.wrap .u64 ((u : Int) - 9223372036854775808))
def finC (v : UInt8) (key t : List UInt8) : Cel × Int :=
  if t.length < 8 then (zeroC, 11) else if t.length > 8 then (zeroC, 13) else
  if mayC ⟨(v.toNat : Int), ⟨key.toArray⟩, startOf (beV 0 t)⟩ ≠ 0 then (zeroC, mayC ⟨(v.toNat : Int), ⟨key.toArray⟩, startOf (beV 0 t)⟩) else (⟨(v.toNat : Int), ⟨key.toArray⟩, startOf (beV 0 t)⟩, 0)
def cellM : List UInt8 → Cel × Int
  | [] => (zeroC, 11)
  | v :: r => match unesc r with
    | .error e => (zeroC, e)
    | .ok p => finC v p.1 p.2
theorem unesc_ne {b : UInt8} {r : List UInt8} (h : b ≠ 0) : unesc (b :: r) = (match unesc r with | .ok p => .ok (b :: p.1, p.2) | .error e => .error e) := by
  rw [unesc.eq_def]; simp only [if_pos h]
theorem cellM_cons (v : UInt8) (r : List UInt8) : cellM (v :: r) = (match unesc r with | .error e => (zeroC, e) | .ok p => finC v p.1 p.2) := rfl
end Go.Proofs.YtoccbnhahaoeiaaGreat.V
namespace Go.Proofs.YtoccbnhahaoeiaaGreat.V
open Go
set_option linter.unusedVariables false
set_option linter.unusedSimpArgs false
theorem cmpB_eq : ∀ (a b : List UInt8), Lib.compareBytes a b = if a = b then 0 else if Op.bytesLess a b then -1 else 1
  | [], [] => rfl
  | [], _ :: _ => rfl
  | _ :: _, [] => rfl
  | a :: ra, b :: rb => by
    rw [Lib.compareBytes, cmpB_eq ra rb, Op.bytesLess]
    by_cases h1 : a < b
    · have : a ≠ b := fun e => by subst e; exact absurd h1 (by simp)
      simp [h1, this]
    · by_cases h2 : b < a
      · have : a ≠ b := fun e => by subst e; exact absurd h2 (by simp)
        simp [h1, h2, this]
      · have : a = b := UInt8.le_antisymm (UInt8.not_lt.1 h2) (UInt8.not_lt.1 h1)
        subst this
        simp
def cmpI (x y : Int) : Int := if x < y then -1 else if x > y then 1 else 0
def cmpC (a b : Cel) : Int := if cmpI a.View b.View ≠ 0 then cmpI a.View b.View else if cmpM a.Key b.Key ≠ 0 then cmpM a.Key b.Key else cmpI a.Start b.Start
theorem cmpInt_spec {x y : Int} {h : H} {Q : Int → H → Prop} (k : Q (cmpI x y) h) : F.cmp_Compare_int x y h Q := by
  unfold F.cmp_Compare_int F.cmp_isNaN_int
  unfold cmpI at k
  simp only [bne_self_eq_false, Bool.false_eq_true, false_implies, true_implies, true_and, decide_eq_true_eq, decide_eq_false_iff_not]
  by_cases h1 : x < y
  · simp only [h1, if_true] at k; exact ⟨fun _ => k, fun g => absurd h1 g⟩
  · simp only [h1, if_false] at k
    by_cases h2 : x > y
    · simp only [h2, if_true] at k; exact ⟨fun g => absurd g h1, fun _ => ⟨fun _ => k, fun g => absurd h2 g⟩⟩
    · simp only [h2, if_false] at k; exact ⟨fun g => absurd g h1, fun _ => ⟨fun g => absurd g h2, fun _ => k⟩⟩
theorem cmpInt64_spec {x y : Int} {h : H} {Q : Int → H → Prop} (k : Q (cmpI x y) h) : F.cmp_Compare_int64 x y h Q := by
  unfold F.cmp_Compare_int64 F.cmp_isNaN_int64
  unfold cmpI at k
  simp only [bne_self_eq_false, Bool.false_eq_true, false_implies, true_implies, true_and, decide_eq_true_eq, decide_eq_false_iff_not]
  by_cases h1 : x < y
  · simp only [h1, if_true] at k; exact ⟨fun _ => k, fun g => absurd h1 g⟩
  · simp only [h1, if_false] at k
    by_cases h2 : x > y
    · simp only [h2, if_true] at k; exact ⟨fun g => absurd g h1, fun _ => ⟨fun _ => k, fun g => absurd h2 g⟩⟩
    · simp only [h2, if_false] at k; exact ⟨fun g => absurd g h1, fun _ => ⟨fun g => absurd g h2, fun _ => k⟩⟩
theorem or3_spec {n : Nat} {a b c : Int} {h : H} {Q : Int → H → Prop} (bl : Blk h n #[.int .i64 a, .int .i64 b, .int .i64 c] 3) (k : Q (if a ≠ 0 then a else if b ≠ 0 then b else c) h) : F.cmp_Or_int ⟨some ⟨n, 0, none⟩, 3, 3⟩ h Q := by
  unfold F.cmp_Or_int
  refine ⟨4, ?_⟩
  have c0 : cellH h ⟨n, 0, none⟩ = some (.int .i64 a) := bl.cell rfl
  have c1 : cellH h ⟨n, 1, none⟩ = some (.int .i64 b) := bl.cell rfl
  have c2 : cellH h ⟨n, 2, none⟩ = some (.int .i64 c) := bl.cell rfl
  unfold F.cmp_Or_int.l1
  refine ⟨fun _ => ?_, fun g => by simp at g⟩
  refine idxA_of (i := 0) rfl (by simp) rfl ?_
  rw [Nat.zero_mul, ldI_iff c0, bne_iff_ne, bne_eq_false_iff_eq]
  refine ⟨fun g => by rw [if_pos g] at k; exact k, fun g => ?_⟩
  rw [if_neg (by simpa using g)] at k
  rw [show IntKind.wrap .i64 (0 + 1) = ((1 : Nat) : Int) from by decide]
  unfold F.cmp_Or_int.l1
  refine ⟨fun _ => ?_, fun g => by simp at g⟩
  refine idxA_of (i := 1) rfl (by simp) rfl ?_
  rw [Nat.one_mul, ldI_iff c1, bne_iff_ne, bne_eq_false_iff_eq]
  refine ⟨fun g => by rw [if_pos g] at k; exact k, fun g => ?_⟩
  rw [if_neg (by simpa using g)] at k
  rw [show IntKind.wrap .i64 (((1 : Nat) : Int) + 1) = ((2 : Nat) : Int) from by decide]
  unfold F.cmp_Or_int.l1
  refine ⟨fun _ => ?_, fun g => by simp at g⟩
  refine idxA_of (i := 2) rfl (by simp) rfl ?_
  rw [show 2 * 1 = 2 from rfl, ldI_iff c2, bne_iff_ne, bne_eq_false_iff_eq]
  refine ⟨fun g => k, fun g => ?_⟩
  rw [show IntKind.wrap .i64 (((2 : Nat) : Int) + 1) = ((3 : Nat) : Int) from by decide]
  unfold F.cmp_Or_int.l1
  refine ⟨fun g => by simp at g, fun _ => ?_⟩
  rw [g] at k; exact k
theorem Compare_spec {a b : Cel} {h : H} {Q : Int → H → Prop} (k : ∀ h', Ext h h' → Q (cmpC a b) h') : F.merge_Compare a b h Q := by
  unfold F.merge_Compare
  refine new_of fun n h1 e1 e2 e3 e4 => new_of fun m h3 f1 f2 f3 f4 => ?_
  have b1 : Blk h3 n a.cells.toArray tn_api_Cell := f3.block e2 (fun f => f)
  have b2 : Blk h3 m b.cells.toArray tn_api_Cell := f2
  have a0 : cellH h3 ⟨n, 0, none⟩ = some (.int .i64 a.View) := b1.cell rfl
  have a1 : cellH h3 ⟨n, 1, none⟩ = some (.string a.Key) := b1.cell rfl
  have a2 : cellH h3 ⟨n, 2, none⟩ = some (.int .i64 a.Start) := b1.cell rfl
  have c0 : cellH h3 ⟨m, 0, none⟩ = some (.int .i64 b.View) := b2.cell rfl
  have c1 : cellH h3 ⟨m, 1, none⟩ = some (.string b.Key) := b2.cell rfl
  have c2 : cellH h3 ⟨m, 2, none⟩ = some (.int .i64 b.Start) := b2.cell rfl
  simp only [add_lit, Nat.zero_add, ldI_iff a0, ldI_iff c0, ldS_iff a1, ldS_iff c1, ldI_iff a2, ldI_iff c2]
  refine cmpInt_spec ⟨c2, a2, c1, a1, ?_⟩
  unfold F.strings_Compare F.internal_bytealg_CompareString
  refine ⟨c2, a2, cmpInt64_spec ?_⟩
  refine newL_of fun q h5 g1 g2 g3 g4 => ?_
  exact or3_spec g2 (k h5 ((e3.trans f3).trans g3))
theorem cmpC_self (a : Cel) : cmpC a a = 0 := by
  unfold cmpC cmpI cmpM
  rw [cmpB_eq]; simp
end Go.Proofs.YtoccbnhahaoeiaaGreat.V
namespace Go.Proofs.YtoccbnhahaoeiaaGreat.V
open Go
set_option linter.unusedVariables false
set_option linter.unusedSimpArgs false
theorem cB_zero {x y : List UInt8} : Lib.compareBytes x y = 0 ↔ x = y := by
  rw [cmpB_eq]
  split
  · rename_i h; simp [h]
  · rename_i h; split <;> simp [h]
theorem u8_tri (a b : UInt8) : a < b ∨ a = b ∨ b < a := by
  by_cases h1 : a < b
  · exact .inl h1
  · by_cases h2 : b < a
    · exact .inr (.inr h2)
    · exact .inr (.inl (UInt8.le_antisymm (UInt8.not_lt.1 h2) (UInt8.not_lt.1 h1)))
theorem u8_asym {a b : UInt8} (h : a < b) : ¬ b < a := fun h2 => by
  rw [UInt8.lt_iff_toNat_lt] at h h2; omega
theorem u8_irr (a : UInt8) : ¬ a < a := fun h => by
  rw [UInt8.lt_iff_toNat_lt] at h; omega
theorem cB_anti : ∀ (x y : List UInt8), Lib.compareBytes x y = - Lib.compareBytes y x
  | [], [] => rfl
  | [], _ :: _ => rfl
  | _ :: _, [] => rfl
  | a :: x, b :: y => by
    have ih := cB_anti x y
    simp only [Lib.compareBytes]
    rcases u8_tri a b with h | h | h
    · simp [h, u8_asym h]
    · subst h; simp [u8_irr, ih]
    · simp [h, u8_asym h]
theorem cB_range (x y : List UInt8) : Lib.compareBytes x y = -1 ∨ Lib.compareBytes x y = 0 ∨ Lib.compareBytes x y = 1 := by
  rw [cmpB_eq]; split
  · simp
  · split <;> simp
theorem cB_trans : ∀ (x y z : List UInt8), Lib.compareBytes x y = -1 → Lib.compareBytes y z = -1 → Lib.compareBytes x z = -1
  | [], [], z, h, _ => by simp [Lib.compareBytes] at h
  | [], b :: y, [], _, h => by simp [Lib.compareBytes] at h
  | [], b :: y, c :: z, _, _ => rfl
  | a :: x, [], z, h, _ => by simp [Lib.compareBytes] at h
  | a :: x, b :: y, [], _, h => by simp [Lib.compareBytes] at h
  | a :: x, b :: y, c :: z, h1, h2 => by
    simp only [Lib.compareBytes] at h1 h2 ⊢
    rcases u8_tri a b with g | g | g
    · rcases u8_tri b c with g2 | g2 | g2
      · have : a < c := by rw [UInt8.lt_iff_toNat_lt] at *; omega
        simp [this]
      · subst g2; simp [g]
      · simp [g2, u8_asym g2] at h2
    · subst g
      simp only [u8_irr, if_false] at h1
      rcases u8_tri a c with g2 | g2 | g2
      · simp [g2]
      · subst g2
        simp only [u8_irr, if_false] at h2 ⊢
        exact cB_trans x y z h1 h2
      · simp [g2, u8_asym g2] at h2
    · simp [g, u8_asym g] at h1
theorem cI_anti (x y : Int) : cmpI x y = - cmpI y x := by
  unfold cmpI
  rcases Int.lt_trichotomy x y with h | h | h
  · rw [if_pos h, if_neg (by omega), if_pos (by omega)]
  · subst h; simp
  · rw [if_neg (by omega), if_pos (by omega), if_pos (by omega)]; rfl
theorem cI_zero {x y : Int} : cmpI x y = 0 ↔ x = y := by
  unfold cmpI
  split
  · constructor <;> intro <;> omega
  · split
    · constructor <;> intro <;> omega
    · constructor <;> intro <;> omega
theorem cI_range (x y : Int) : cmpI x y = -1 ∨ cmpI x y = 0 ∨ cmpI x y = 1 := by
  unfold cmpI; split
  · simp
  · split <;> simp
theorem cI_lt {x y : Int} : cmpI x y = -1 ↔ x < y := by
  unfold cmpI
  split
  · constructor <;> intro <;> omega
  · split
    · constructor <;> intro <;> omega
    · constructor <;> intro <;> omega
theorem cC_anti (a b : Cel) : cmpC a b = - cmpC b a := by
  unfold cmpC cmpM
  rw [cI_anti a.View b.View, cB_anti a.Key.data.toList b.Key.data.toList, cI_anti a.Start b.Start]
  split <;> split <;> simp_all <;> omega
theorem cC_range (a b : Cel) : cmpC a b = -1 ∨ cmpC a b = 0 ∨ cmpC a b = 1 := by
  unfold cmpC cmpM
  split
  · exact cI_range _ _
  · split
    · exact cB_range _ _
    · exact cI_range _ _
theorem key_ext {a b : ByteArray} (h : a.data.toList = b.data.toList) : a = b := by
  obtain ⟨x⟩ := a
  obtain ⟨y⟩ := b
  congr 1
  exact Array.toList_inj.1 h
theorem cC_zero {a b : Cel} : cmpC a b = 0 ↔ a = b := by
  constructor
  · intro h
    unfold cmpC cmpM at h
    split at h
    · rename_i g; exact absurd h g
    · rename_i g
      split at h
      · rename_i g2; exact absurd h g2
      · rename_i g2
        have h1 := cI_zero.1 (Classical.not_not.1 g)
        have h2 := key_ext (cB_zero.1 (Classical.not_not.1 g2))
        have h3 := cI_zero.1 h
        obtain ⟨v, k, s⟩ := a
        obtain ⟨v', k', s'⟩ := b
        simp only at h1 h2 h3
        rw [h1, h2, h3]
  · rintro rfl; exact cmpC_self a
theorem cC_lt {a b : Cel} : cmpC a b = -1 ↔ cmpI a.View b.View = -1 ∨ (a.View = b.View ∧ (Lib.compareBytes a.Key.data.toList b.Key.data.toList = -1 ∨ (a.Key.data.toList = b.Key.data.toList ∧ a.Start < b.Start))) := by
  unfold cmpC cmpM
  have r1 := cI_range a.View b.View
  have r2 := cB_range a.Key.data.toList b.Key.data.toList
  have z1 := cI_zero (x := a.View) (y := b.View)
  have z2 := cB_zero (x := a.Key.data.toList) (y := b.Key.data.toList)
  have l3 := cI_lt (x := a.Start) (y := b.Start)
  by_cases h1 : cmpI a.View b.View = 0
  · rw [if_neg (by simp [h1])]
    have e1 := z1.1 h1
    by_cases h2 : Lib.compareBytes a.Key.data.toList b.Key.data.toList = 0
    · rw [if_neg (by simp [h2])]
      have e2 := z2.1 h2
      rw [l3]
      constructor
      · intro h; exact .inr ⟨e1, .inr ⟨e2, h⟩⟩
      · intro h
        rcases h with h | ⟨_, h | h⟩
        · omega
        · omega
        · exact h.2
    · rw [if_pos h2]
      constructor
      · intro h; exact .inr ⟨e1, .inl h⟩
      · intro h
        rcases h with h | ⟨_, h | h⟩
        · omega
        · exact h
        · exact absurd (z2.2 h.1) h2
  · rw [if_pos h1]
    constructor
    · intro h; exact .inl h
    · intro h
      rcases h with h | h
      · exact h
      · exact absurd (z1.2 h.1) h1
theorem cC_trans {a b c : Cel} (h1 : cmpC a b = -1) (h2 : cmpC b c = -1) : cmpC a c = -1 := by
  rw [cC_lt] at *
  rcases h1 with h1 | ⟨e1, h1⟩
  · rw [cI_lt] at h1
    rcases h2 with h2 | ⟨e2, _⟩
    · rw [cI_lt] at h2; exact .inl (cI_lt.2 (by omega))
    · exact .inl (cI_lt.2 (by omega))
  · rcases h2 with h2 | ⟨e2, h2⟩
    · rw [cI_lt] at h2; exact .inl (cI_lt.2 (by omega))
    · refine .inr ⟨by omega, ?_⟩
      rcases h1 with h1 | ⟨k1, h1⟩
      · rcases h2 with h2 | ⟨k2, h2⟩
        · exact .inl (cB_trans _ _ _ h1 h2)
        · rw [← k2]; exact .inl h1
      · rcases h2 with h2 | ⟨k2, h2⟩
        · rw [k1]; exact .inl h2
        · exact .inr ⟨k1.trans k2, by omega⟩
theorem esc_cmp : ∀ (k1 k2 t1 t2 : List UInt8), Lib.compareBytes (escL k1 ++ 0 :: 1 :: t1) (escL k2 ++ 0 :: 1 :: t2) = if Lib.compareBytes k1 k2 ≠ 0 then Lib.compareBytes k1 k2 else Lib.compareBytes t1 t2
  | [], [], t1, t2 => by simp [escL, Lib.compareBytes, u8_irr]
  | [], b :: k2, t1, t2 => by
    simp only [escL]
    by_cases hb : b = 0
    · subst hb; simp [Lib.compareBytes, u8_irr, show (1 : UInt8) < 255 from by decide]
    · have : (0 : UInt8) < b := by
        rcases u8_tri 0 b with h | h | h
        · exact h
        · exact absurd h.symm hb
        · rw [UInt8.lt_iff_toNat_lt] at h; simp at h
      simp [hb, Lib.compareBytes, this]
  | a :: k1, [], t1, t2 => by
    simp only [escL]
    by_cases hb : a = 0
    · subst hb; simp [Lib.compareBytes, u8_irr, show (1 : UInt8) < 255 from by decide, show ¬ (255 : UInt8) < 1 from by decide]
    · have : (0 : UInt8) < a := by
        rcases u8_tri 0 a with h | h | h
        · exact h
        · exact absurd h.symm hb
        · rw [UInt8.lt_iff_toNat_lt] at h; simp at h
      simp [hb, Lib.compareBytes, this, u8_asym this]
  | a :: k1, b :: k2, t1, t2 => by
    have ih := esc_cmp k1 k2 t1 t2
    have pos : ∀ x : UInt8, x ≠ 0 → (0 : UInt8) < x := fun x hx => by
      rcases u8_tri 0 x with h | h | h
      · exact h
      · exact absurd h.symm hx
      · rw [UInt8.lt_iff_toNat_lt] at h; simp at h
    rcases u8_tri a b with h | h | h
    · have hb0 : b ≠ 0 := fun e => by subst e; rw [UInt8.lt_iff_toNat_lt] at h; simp at h
      by_cases ha : a = 0
      · subst ha; simp [escL, hb0, Lib.compareBytes, h]
      · simp [escL, hb0, ha, Lib.compareBytes, h]
    · subst h
      by_cases ha : a = 0
      · subst ha; simp [escL, Lib.compareBytes, u8_irr, ih]
      · simp [escL, ha, Lib.compareBytes, u8_irr, ih]
    · have ha0 : a ≠ 0 := fun e => by subst e; rw [UInt8.lt_iff_toNat_lt] at h; simp at h
      by_cases hb : b = 0
      · subst hb; simp [escL, ha0, Lib.compareBytes, h, u8_asym h]
      · simp [escL, ha0, hb, Lib.compareBytes, h, u8_asym h]
def cmpN (u v : Nat) : Int := if u < v then -1 else if v < u then 1 else 0
theorem be_cmp : ∀ (j u v : Nat), Lib.compareBytes (beT u j) (beT v j) = cmpN (u % 2 ^ (8 * j)) (v % 2 ^ (8 * j))
  | 0, u, v => by simp [beT, Lib.compareBytes, cmpN, Nat.mod_one]
  | j + 1, u, v => by
    have ih := be_cmp j u v
    simp only [beT, Lib.compareBytes, ih]
    have e : 2 ^ (8 * (j + 1)) = 2 ^ (8 * j) * 256 := by rw [show 8 * (j + 1) = 8 * j + 8 from by omega, Nat.pow_add]
    have hu : u % 2 ^ (8 * (j + 1)) = u % 2 ^ (8 * j) + 2 ^ (8 * j) * (u / 2 ^ (8 * j) % 256) := by rw [e, Nat.mod_mul]
    have hv : v % 2 ^ (8 * (j + 1)) = v % 2 ^ (8 * j) + 2 ^ (8 * j) * (v / 2 ^ (8 * j) % 256) := by rw [e, Nat.mod_mul]
    rw [hu, hv]
    have pu := Nat.mod_lt u (Nat.two_pow_pos (8 * j))
    have pv := Nat.mod_lt v (Nat.two_pow_pos (8 * j))
    simp only [UInt8.lt_iff_toNat_lt, UInt8.toNat_ofNat']
    have e8 : (2 : Nat) ^ 8 = 256 := by decide
    rw [e8]
    generalize u / 2 ^ (8 * j) % 256 = x at *
    generalize v / 2 ^ (8 * j) % 256 = y at *
    generalize u % 2 ^ (8 * j) = p at *
    generalize v % 2 ^ (8 * j) = q at *
    generalize 2 ^ (8 * j) = B at *
    unfold cmpN
    rcases Nat.lt_trichotomy x y with h | h | h
    · have : B * (x + 1) ≤ B * y := Nat.mul_le_mul_left _ h
      rw [Nat.mul_add, Nat.mul_one] at this
      rw [if_pos h, if_pos (by omega)]
    · subst h
      rw [if_neg (by omega), if_neg (by omega)]
      by_cases h1 : p < q
      · rw [if_pos h1, if_pos (by omega)]
      · rw [if_neg h1, if_neg (show ¬ (p + B * x < q + B * x) by omega)]
        by_cases h2 : q < p
        · rw [if_pos h2, if_pos (by omega)]
        · rw [if_neg h2, if_neg (by omega)]
    · have : B * (y + 1) ≤ B * x := Nat.mul_le_mul_left _ h
      rw [Nat.mul_add, Nat.mul_one] at this
      rw [if_neg (by omega), if_pos h, if_neg (by omega), if_pos (by omega)]
abbrev I64n (n : Int) : Prop := -9223372036854775808 ≤ n ∧ n < 9223372036854775808
theorem upU_val {n : Int} (h : I64n n) : (upU n : Int) = n + 9223372036854775808 := by
  rw [upU_eq, wrap_u64, wrap_u64]; omega
theorem may_view {c : Cel} (h : mayC c = 0) : 0 ≤ c.View ∧ c.View ≤ 4 ∧ c.Key.size ≤ 32 := by
  unfold mayC at h
  split at h
  · omega
  · split at h
    · omega
    · omega
theorem key_cmp {a b : Cel} (ha : mayC a = 0) (hb : mayC b = 0) (ia : I64n a.Start) (ib : I64n b.Start) : Lib.compareBytes (keyL a) (keyL b) = cmpC a b := by
  obtain ⟨a1, a2, a3⟩ := may_view ha
  obtain ⟨b1, b2, b3⟩ := may_view hb
  unfold keyL cmpC cmpM
  simp only [Lib.compareBytes, List.append_assoc, List.cons_append, List.nil_append]
  rw [esc_cmp, be_cmp]
  have ua := upU_val ia
  have ub := upU_val ib
  have e8 : (2 : Nat) ^ (8 * 8) = 18446744073709551616 := by decide
  rw [e8, Nat.mod_eq_of_lt (by omega), Nat.mod_eq_of_lt (by omega)]
  have hN : cmpN (upU a.Start) (upU b.Start) = cmpI a.Start b.Start := by
    unfold cmpN cmpI
    by_cases h1 : a.Start < b.Start
    · rw [if_pos h1, if_pos (by omega)]
    · rw [if_neg h1, if_neg (by omega)]
      by_cases h2 : a.Start > b.Start
      · rw [if_pos h2, if_pos (by omega)]
      · rw [if_neg h2, if_neg (by omega)]
  rw [hN]
  have va : (UInt8.ofNat a.View.toNat).toNat = a.View.toNat := by rw [UInt8.toNat_ofNat']; omega
  have vb : (UInt8.ofNat b.View.toNat).toNat = b.View.toNat := by rw [UInt8.toNat_ofNat']; omega
  simp only [UInt8.lt_iff_toNat_lt, va, vb]
  unfold cmpI
  rcases Int.lt_trichotomy a.View b.View with h | h | h
  · rw [if_pos (by omega), if_pos (by rw [if_pos h]; omega), if_pos h]
  · rw [h, if_neg (by omega), if_neg (by omega)]; simp
  · rw [if_neg (by omega), if_pos (by omega), if_pos (by rw [if_neg (by omega), if_pos (by omega)]; omega), if_neg (by omega), if_pos (by omega)]
theorem unesc_esc : ∀ (k t : List UInt8), unesc (escL k ++ 0 :: 1 :: t) = .ok (k, t)
  | [], t => by
    show unesc (0 :: 1 :: t) = _
    rw [unesc.eq_def]; simp
  | b :: k, t => by
    have ih := unesc_esc k t
    by_cases hb : b = 0
    · subst hb
      simp only [escL, if_true, List.cons_append]
      rw [unesc.eq_def]
      simp [ih]
    · simp only [escL, if_neg hb, List.cons_append]
      rw [unesc_ne hb, ih]
theorem beV_beT : ∀ (j u w : Nat), beV w (beT u j) = w * 2 ^ (8 * j) + u % 2 ^ (8 * j)
  | 0, u, w => by simp [beT, beV, Nat.mod_one]
  | j + 1, u, w => by
    rw [beT, beV, beV_beT j, UInt8.toNat_ofNat']
    have e : 2 ^ (8 * (j + 1)) = 2 ^ (8 * j) * 256 := by rw [show 8 * (j + 1) = 8 * j + 8 from by omega, Nat.pow_add]
    have hu : u % 2 ^ (8 * (j + 1)) = u % 2 ^ (8 * j) + 2 ^ (8 * j) * (u / 2 ^ (8 * j) % 256) := by rw [e, Nat.mod_mul]
    have e8 : (2 : Nat) ^ 8 = 256 := by decide
    rw [hu, e, e8, Nat.add_mul, Nat.mul_comm (u / 2 ^ (8 * j) % 256), Nat.mul_assoc w 256, Nat.mul_comm 256 (2 ^ (8 * j))]
    omega
theorem cell_back {c : Cel} (h : mayC c = 0) (i : I64n c.Start) : cellM (keyL c) = (c, 0) := by
  obtain ⟨a1, a2, a3⟩ := may_view h
  have u := upU_val i
  unfold keyL
  rw [cellM_cons]
  simp only [List.append_assoc, List.cons_append, List.nil_append]
  rw [unesc_esc]
  simp only [finC, beT_len]
  rw [if_neg (by omega), if_neg (by omega), beV_beT]
  have e8 : (2 : Nat) ^ (8 * 8) = 18446744073709551616 := by decide
  have hs : startOf (0 * 2 ^ (8 * 8) + upU c.Start % 2 ^ (8 * 8)) = c.Start := by
    rw [e8, Nat.mod_eq_of_lt (by omega)]
    unfold startOf
    rw [wrap_u64, Nat.zero_mul, Nat.zero_add, u]
    unfold IntKind.wrap
    simp [IntKind.bits, IntKind.signed]
    omega
  rw [hs]
  have hv : (((UInt8.ofNat c.View.toNat).toNat : Nat) : Int) = c.View := by rw [UInt8.toNat_ofNat']; omega
  rw [hv]
  have hc : (⟨c.View, ⟨c.Key.data.toList.toArray⟩, c.Start⟩ : Cel) = c := by
    obtain ⟨v, ⟨k⟩, s⟩ := c
    simp
  rw [hc, if_neg (by simpa using h)]
section
variable {h0 h : H} {n m q : Nat} {a b c : Cel} {Q : Bool → H → Prop}
end
end Go.Proofs.YtoccbnhahaoeiaaGreat.V
namespace Go.Proofs.YtoccbnhahaoeiaaGreat.V
open Go
set_option linter.unusedVariables false
set_option linter.unusedSimpArgs false
theorem Blk.cells {h : H} {n : Nat} {cs : List Value} {e : TypeId} (b : Blk h n cs.toArray e) : Cells h ⟨n, 0, none⟩ cs := fun i v hv => by
  rw [add_lit, Nat.zero_add]
  exact b.cell (by simpa using hv)
section
variable {P : Program} {h : H}
end
end Go.Proofs.YtoccbnhahaoeiaaGreat.V
namespace Go.Proofs.YtoccbnhahaoeiaaGreat.V.C
open Go Go.Proofs.YtoccbnhahaoeiaaGreat.V
set_option linter.unusedVariables false
set_option linter.unusedSimpArgs false
set_option maxRecDepth 20000
abbrev Ver := S_chain_version_api_Agg
theorem ver_len (x : Ver) : x.cells.length = 6 := rfl
/-- A chain: its own block p; the row that it owns, B; its versions L. -/
def Ch (h : H) (p : Nat) (L : List Ver) (B : Option Nat) : Prop :=
  ∃ s : Sl, Blk h p #[s.enc] tn_chain_Chain_api_Agg ∧ Owns h s tn_chain_version_api_Agg 6 (L.flatMap (·.cells)) ∧ s.blk = B ∧ B ≠ some p
theorem Ch.len {h : H} {s : Sl} {L : List Ver} (o : Owns h s tn_chain_version_api_Agg 6 (L.flatMap (·.cells))) : s.len = L.length := by
  have := o.1
  rw [flat_len _ 6 ver_len] at this
  omega
theorem Ch.at {h : H} {s : Sl} {L : List Ver} (o : Owns h s tn_chain_version_api_Agg 6 (L.flatMap (·.cells))) {i : Nat} {x : Ver} (hx : L[i]? = some x) :
    ∃ b, s.ptr = some ⟨b, 0, none⟩ ∧ cellH h ⟨b, i * 6, none⟩ = some (.int .i64 x.epoch) ∧ Cells h ⟨b, i * 6 + 1, none⟩ x.value.cells ∧ cellH h ⟨b, i * 6 + 5, none⟩ = some (.bool x.dead) ∧ Cells h ⟨b, i * 6, none⟩ x.cells := by
  obtain ⟨b, h1, h2⟩ := own_at (f := fun x : Ver => x.cells) ver_len (by omega) o hx
  have e : ∀ j v, x.cells[j]? = some v → cellH h ⟨b, i * 6 + j, none⟩ = some v := fun j v hv => by
    have := h2 j v hv
    rwa [add_lit] at this
  refine ⟨b, h1, e 0 _ rfl, fun j v hv => ?_, e 5 _ rfl, h2⟩
  rw [add_lit]
  match j, hv with
  | 0, hv => exact e 1 v hv
  | 1, hv => exact e 2 v hv
  | 2, hv => exact e 3 v hv
  | 3, hv => exact e 4 v hv
  | j + 4, hv => simp [S_api_Agg.cells] at hv
theorem Ch.only {S : Nat → Prop} {h h' : H} {p : Nat} {L : List Ver} {B : Option Nat} (c : Ch h p L B) (o : Only S h h') (hp : ¬ S p) (hB : ∀ b, B = some b → ¬ S b) : Ch h' p L B := by
  obtain ⟨s, h1, h2, h3, h4⟩ := c
  exact ⟨s, o.block h1 hp, h2.only o (by rw [h3]; exact hB), h3, h4⟩
theorem Ch.ext {h h' : H} {p : Nat} {L : List Ver} {B : Option Nat} (c : Ch h p L B) (o : Ext h h') : Ch h' p L B := c.only o (fun f => f) fun _ _ f => f
theorem Ch.lt {h : H} {p : Nat} {L : List Ver} {B : Option Nat} (c : Ch h p L B) : p < h.size := by obtain ⟨s, h1, _⟩ := c; exact block_lt h1
theorem Ch.ltB {h : H} {p : Nat} {L : List Ver} {B : Option Nat} (c : Ch h p L B) : ∀ b, B = some b → b < h.size := fun b hb => by
  obtain ⟨s, h1, h2, h3, _⟩ := c; exact h2.blk_lt (by rw [h3]; exact hb)
def lastE (L : List Ver) : Int := match L.getLast? with | some x => x.epoch | none => 0
def mayM (L : List Ver) (e : Int) : Int := if e < 1 ∨ e > 1099511627776 then 1 else if L ≠ [] ∧ e < lastE L then 32 else 0
def layM (L : List Ver) (x : Ver) : List Ver := if L ≠ [] ∧ lastE L = x.epoch then L.dropLast ++ [x] else L ++ [x]
def layN (L : List Ver) (x : Ver) : Int := if L ≠ [] ∧ lastE L = x.epoch then 0 else 1
theorem last_get {L : List Ver} (h : L ≠ []) : L[L.length - 1]? = some (L.getLast h) := by
  rw [← List.getLast?_eq_getElem?, List.getLast?_eq_some_getLast h]
theorem New_spec {h : H} {Q : Option Addr → H → Prop} (k : ∀ p h', p = h.size → Ch h' p [] none → Ext h h' → Q (some ⟨p, 0, none⟩) h') : F.chain_New_api_Agg h Q := by
  unfold F.chain_New_api_Agg
  refine new_of fun n h' e1 e2 e3 e4 => k n h' e1 ⟨⟨none, 0, 0⟩, e2, Owns.nil _ _ _, rfl, by simp⟩ e3
theorem may_spec {h : H} {p : Nat} {L : List Ver} {B : Option Nat} {e : Int} {Q : Int → H → Prop} (c : Ch h p L B) (hL : L.length < 4294967296) (k : Q (mayM L e) h) : F.chain_Chain_api_Agg_may (some ⟨p, 0, none⟩) e h Q := by
  obtain ⟨s, hb, ho, hB, hne⟩ := c
  have hl := Ch.len ho
  have hc0 : cellH h ⟨p, 0, none⟩ = some s.enc := hb.cell rfl
  unfold mayM at k
  simp only [F.chain_Chain_api_Agg_may, F.chain_Chain_api_Agg_may.j1, F.chain_Chain_api_Agg_may.j2, nn_some, add_lit, Nat.add_zero, ldL_iff hc0, decide_eq_true_eq, decide_eq_false_iff_not, hl]
  refine ⟨fun g => ⟨fun _ => by rw [if_pos (.inl g)] at k; exact k, fun h => by cases h⟩, fun g => ⟨fun g2 => by rw [if_pos (.inr g2)] at k; exact k, fun g2 => ?_⟩⟩
  rw [if_neg (by omega)] at k
  by_cases hn : L = []
  · subst hn
    simp at k ⊢
    exact k
  · have hpos : 0 < L.length := List.length_pos_iff.2 hn
    obtain ⟨b, h1, h2, _⟩ := Ch.at ho (last_get hn)
    refine ⟨fun _ => ?_, fun h => by omega⟩
    refine idxA_of (i := L.length - 1) h1 (by omega) (by rw [w64 (by omega) (by omega)]; omega) ?_
    simp only [add_lit, Nat.add_zero]
    rw [ldI_iff h2]
    have hle : lastE L = (L.getLast hn).epoch := by unfold lastE; rw [List.getLast?_eq_some_getLast hn]
    rw [← hle]
    by_cases hlt : e < lastE L
    · rw [if_pos ⟨hn, hlt⟩] at k; exact ⟨fun _ => k, fun h => absurd hlt h⟩
    · rw [if_neg (fun h => hlt h.2)] at k; exact ⟨fun h => absurd h hlt, fun _ => k⟩
end Go.Proofs.YtoccbnhahaoeiaaGreat.V.C
namespace Go.Proofs.YtoccbnhahaoeiaaGreat.V.C
open Go Go.Proofs.YtoccbnhahaoeiaaGreat.V
set_option linter.unusedVariables false
set_option linter.unusedSimpArgs false
set_option maxRecDepth 20000
/-- What a method may turn of a chain. -/
abbrev FP (p : Nat) (B : Option Nat) : Nat → Prop := fun b => b = p ∨ B = some b
def Kin (n : Nat) (B B' : Option Nat) : Prop := B' = B ∨ B' = none ∨ ∃ b, B' = some b ∧ n ≤ b
theorem lay_spec {h : H} {p : Nat} {L : List Ver} {B : Option Nat} {x : Ver} {Q : Int → H → Prop} (c : Ch h p L B) (hL : L.length < 4294967296)
    (k : ∀ h' B', Ch h' p (layM L x) B' → Only (FP p B) h h' → Kin h.size B B' → Q (layN L x) h') : F.chain_Chain_api_Agg_lay (some ⟨p, 0, none⟩) x h Q := by
  have hp := c.lt
  unfold F.chain_Chain_api_Agg_lay
  refine new_of fun n h1 e1 e2 e3 e4 => ?_
  have c1 := c.ext e3
  obtain ⟨s, hb, ho, hB, hne⟩ := c1
  have hl := Ch.len ho
  have hc0 : cellH h1 ⟨p, 0, none⟩ = some s.enc := hb.cell rfl
  have hx0 : cellH h1 ⟨n, 0, none⟩ = some (.int .i64 x.epoch) := e2.cell rfl
  have hxc : Cells h1 ⟨n, 0, none⟩ x.cells := fun j v hv => by rw [add_lit, Nat.zero_add]; exact e2.cell (by simpa using hv)
  -- the new version is appended
  have happ : ¬ (L ≠ [] ∧ lastE L = x.epoch) → F.chain_Chain_api_Agg_lay.j1 Q (some ⟨p, 0, none⟩) ⟨n, 0, none⟩ h1 := fun hno => by
    unfold F.chain_Chain_api_Agg_lay.j1
    simp only [nn_some, add_lit, Nat.add_zero]
    rw [ldL_iff hc0]
    refine ⟨x, hxc, ?_⟩
    refine newL_of fun n2 h2 f1 f2 f3 f4 => ?_
    refine ⟨f3.cell hc0 (fun f => f), ?_⟩
    refine app_of (ys := x.cells) el_Slchain_version_api_Agg (ho.only f3 (fun _ _ f => f)) (blk_reads (by simpa using f2) rfl) (ones_S_chain_version_api_Agg x) (by simp only; omega) fun r h3 r1 r2 r3 r4 => ?_
    have hb3 : Blk h3 p #[s.enc] tn_chain_Chain_api_Agg := r3.block (f3.block hb (fun f => f)) (by rw [hB]; exact hne)
    refine stH_of hb3 (by simp) fun h4 g1 g2 g3 => ?_
    have hr1 : r.blk ≠ some p := by
      rcases r4 with r4 | ⟨b, r4, r5⟩
      · rw [r4, hB]; exact hne
      · rw [r4]; intro e; cases e; omega
    have hm : layM L x = L ++ [x] := if_neg hno
    have hn : layN L x = 1 := if_neg hno
    rw [← hn]
    refine k h4 r.blk ⟨r, g1, ?_, rfl, hr1⟩ ?_ ?_
    · rw [hm, List.flatMap_append]
      exact (by simpa using r1 : Owns h3 r tn_chain_version_api_Agg 6 (L.flatMap (·.cells) ++ x.cells)).only g2 (fun b hb e => hr1 (by rw [hb, e])) |> (by simpa using ·)
    · refine (((e3.only (S := FP p B)).ext f3).trans r3 fun m _ e => .inr (by rw [← hB]; exact e)).trans g2 fun m _ e => .inl e
    · rcases r4 with r4 | ⟨b, r4, r5⟩
      · exact .inl (by rw [r4, hB])
      · exact .inr (.inr ⟨b, r4, by omega⟩)
  -- the newest version is written anew
  have hset : L ≠ [] ∧ lastE L = x.epoch → F.chain_Chain_api_Agg_lay.j2 Q (some ⟨p, 0, none⟩) ⟨n, 0, none⟩ (L.length : Int) true h1 := fun hyes => by
    have hpos : 0 < L.length := List.length_pos_iff.2 hyes.1
    obtain ⟨b, a1, a2, a3, a4, a5⟩ := Ch.at ho (last_get hyes.1)
    refine ⟨fun _ => ?_, fun h => by cases h⟩
    simp only [nn_some, add_lit, Nat.add_zero]
    rw [ldL_iff hc0]
    refine ⟨x, hxc, ?_⟩
    refine idxA_of (i := L.length - 1) a1 (by omega) (by rw [w64 (by omega) (by omega)]; omega) ?_
    have hfl := flat_len (·.cells) 6 ver_len L
    refine own_set ho a1 (by rw [hfl]; simp [S_chain_version_api_Agg.cells, S_api_Agg.cells]; omega) fun h4 g1 g2 g3 => ?_
    have hm : layM L x = L.dropLast ++ [x] := if_pos hyes
    have hn : layN L x = 0 := if_pos hyes
    rw [← hn]
    refine k h4 B ⟨s, g2.block hb (by rw [hB]; exact hne), ?_, hB, hne⟩ ((e3.only (S := FP p B)).trans g2 fun m _ e => .inr (by rw [← hB]; exact e)) (.inl rfl)
    rw [hm, List.flatMap_append]
    have e1 : (L.flatMap (·.cells)).take ((L.length - 1) * 6) = L.dropLast.flatMap (·.cells) := by
      have hd : L = L.dropLast ++ [L.getLast hyes.1] := (List.dropLast_concat_getLast hyes.1).symm
      have hdl := flat_len (·.cells) 6 ver_len L.dropLast
      rw [List.length_dropLast] at hdl
      conv => lhs; rw [hd, List.flatMap_append]
      rw [show ((L.dropLast ++ [L.getLast hyes.1]).length - 1) = L.length - 1 from by simp]
      rw [← hdl, List.take_left]
    have e2 : (L.flatMap (·.cells)).drop ((L.length - 1) * 6 + x.cells.length) = [] := by
      apply List.drop_eq_nil_of_le
      rw [hfl, ver_len]; omega
    rw [e1, e2] at g1
    simpa using g1
  simp only [nn_some, add_lit, Nat.add_zero, ldL_iff hc0, hl]
  by_cases hn : L = []
  · refine ⟨fun g => ?_, fun g => ⟨(fun h => by cases h), fun _ => happ fun h => h.1 hn⟩⟩
    rw [decide_eq_true_iff] at g; subst hn; simp at g
  · have hpos : 0 < L.length := List.length_pos_iff.2 hn
    refine ⟨fun g => ?_, fun g => by rw [decide_eq_false_iff_not] at g; omega⟩
    obtain ⟨b, a1, a2, a3, a4, a5⟩ := Ch.at ho (last_get hn)
    refine idxA_of (i := L.length - 1) a1 (by omega) (by rw [w64 (by omega) (by omega)]; omega) ?_
    simp only [add_lit, Nat.add_zero]
    rw [ldI_iff a2, ldI_iff hx0]
    have hle : lastE L = (L.getLast hn).epoch := by unfold lastE; rw [List.getLast?_eq_some_getLast hn]
    rw [← hle]
    by_cases he : lastE L = x.epoch
    · rw [show (lastE L == x.epoch) = true from by simp [he]]
      exact hset ⟨hn, he⟩
    · rw [show (lastE L == x.epoch) = false from by simp [he]]
      exact ⟨fun h => (by cases h), fun _ => happ fun h => he h.2⟩
end Go.Proofs.YtoccbnhahaoeiaaGreat.V.C
