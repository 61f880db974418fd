/- Parts of the proof of ShardRanges; no condition. -/
import Derived.Test.YtoccbnhahaoeiaaGreatQShardRanges1
namespace Go.Proofs.YtoccbnhahaoeiaaGreat.V
open Go
set_option linter.unusedVariables false
set_option maxRecDepth 100000
def F.xdq (p0 : Option Addr) (p1 : Int) (p2 : S_api_Agg) (h : H) (Q : Int -> Int -> H -> Prop) : Prop :=
  new h p2.cells.toArray ty_34 fun a2 h1 =>
  F.xbi p0 p1 h1 fun r4 h3 =>
  (((r4 != 0)) = true ->
  Q 0 r4 h3) ∧
  (((r4 != 0)) = false ->
  ld_S_api_Agg h3 a2 fun y6 =>
  F.xbg p0 (⟨p1, y6, false⟩ : S_chain_version_api_Agg) h3 fun r9 h8 =>
  Q r9 0 h8)
theorem F.xdq_ok {p0 : Option Addr} {p1 : Int} {p2 : S_api_Agg} {h : H} {Q : Int -> Int -> H -> Prop} (H : F.xdq p0 p1 p2 h Q) : Fn PP 45 ([(.pointer p0), (.int .i64 p1), (.agg p2.cells.toArray)] : List Value).toArray h fun r h' => ∃ r0 r1, r = .tuple #[(.int .i64 r0), (.int .i64 r1)] ∧ Q r0 r1 h' := by
 unfold F.xdq at H;refine fn_of Tryz.func45 Tryz.ntmps45 rfl rfl fun w0 => (tr_sub [(0, (.pointer p0)), (1, (.int .i64 p1)), (2, (.agg p2.cells.toArray))] ⟨rfl, rfl, rfl, trivial⟩ (tr_seq (tr_region (tr_e (f_box (cs := p2.cells.toArray) rfl rfl H) rfl rfl ?_))));rintro _ h1 ⟨a2, rfl, H⟩;refine tq (y_assign rfl) (tq (y_assign rfl) (tr_nil (tr_thenN (tr_seq (tr_seq (tr_region (tq (y_move rfl) (tq (y_move rfl) (tr_e (e_call Tryz.call83 rfl (F.xbi_ok H)) rfl rfl ?_)))))))));rintro _ h3 ⟨r4, rfl, H⟩;refine tq (y_assign rfl) (tr_nil (tr_thenN (tr_seq (tr_region (tq (y_move rfl) (tq (y_neq rfl rfl) (tr_nil (tr_thenN ?_))))))));refine tr_cond rfl (fun g5 => ?_) (fun g5 => ?_)
 ·replace H := H.1 g5;refine tr_seq (tr_region (tq (y_move rfl) (tq (y_assign rfl) (tq (y_assign rfl) (tr_nil (tr_thenN (tr_ret (tr_thenR ?_))))))));exact tr_ret2 rfl rfl rfl ⟨_, _, rfl, H⟩
 ·replace H := H.2 g5;refine tr_skip (tr_thenN (tr_seq (tr_region (tq (y_move rfl) (tq (y_move rfl) ?_)))));obtain ⟨y6, k7, H⟩ := H;refine tr_h (y_ldS Tryz.isAgg34 Tryz.sizeOf34 rfl rfl) k7 rfl rfl (tq (f_build rfl (bd_135_0_1 p1 y6)) (tr_e (e_call Tryz.call84 rfl (F.xbg_ok H)) rfl rfl ?_));rintro _ h8 ⟨r9, rfl, H⟩;refine tq (y_assign rfl) (tq (y_assign rfl) (tr_nil (tr_thenN (tr_ret ?_))));exact tr_ret2 rfl rfl rfl ⟨_, _, rfl, H⟩
def F.xdd  (h : H) (Q : (Option Addr) -> H -> Prop) : Prop :=
  new h ((⟨(⟨none, 0, 0⟩ : Sl)⟩ : S_chain_Chain_api_Agg).cells.toArray) ty_133 fun a2 h1 =>
  Q (some a2) h1
theorem F.xdd_ok  {h : H} {Q : (Option Addr) -> H -> Prop} (H : F.xdd  h Q) : Fn PP 43 ([] : List Value).toArray h fun r h' => ∃ r0, r = (.pointer r0) ∧ Q r0 h' := by
 unfold F.xdd at H;refine fn_of Tryz.func43 Tryz.ntmps43 rfl rfl fun w0 => (tr_sub [] trivial (tr_seq (tr_region (tq (y_assign rfl) (tr_nil (tr_thenN (tr_seq (tr_region (tq (f_build rfl (bd_133_ )) (tr_e (f_box (cs := (⟨(⟨none, 0, 0⟩ : Sl)⟩ : S_chain_Chain_api_Agg).cells.toArray) rfl rfl H) rfl rfl ?_))))))))));rintro _ h1 ⟨a2, rfl, H⟩;refine tq (y_assign rfl) (tr_nil (tr_thenN (tr_ret ?_)));exact tr_ret1 rfl rfl ⟨_, rfl, H⟩
def F.xcc.j1 (Q : H -> Prop) (x0 : Option Addr) (x1 : ByteArray) (x2 : Option Addr) (h : H) : Prop :=
  nn x0 fun a9 =>
  ldL h (a9.add 0) fun y11 =>
  F.xaj y11 x1 h fun r14 r15 h13 =>
  nn x0 fun a16 =>
  ldL h13 (a16.add 0) fun y18 =>
  idxA y18 r14 3 fun a20 =>
  stH h13 a20 ((⟨1, x1, x2⟩ : S_table_place_chain_Chain_api_Agg).cells) fun h22 =>
  nn x0 fun a23 =>
  ldI .i64 h22 (a23.add 3) fun y25 =>
  nn x0 fun a27 =>
  stH h22 (a27.add 3) [(.int .i64 (IntKind.wrap .i64 (y25 + 1)))] fun h29 =>
  Q h29
def F.xcc (p0 : Option Addr) (p1 : ByteArray) (p2 : Option Addr) (h : H) (Q : H -> Prop) : Prop :=
  F.xae p0 4 h fun r2 h1 =>
  F.xcw p0 p1 h1 fun r4 h3 =>
  ((!r4.isNone) = true ->
  nn r4 fun a6 =>
  stH h3 (a6.add 2) [(.pointer p2)] fun h8 =>
  Q h8) ∧
  ((!r4.isNone) = false ->
  nn p0 fun a30 =>
  ldI .i64 h3 (a30.add 3) fun y32 =>
  nn p0 fun a34 =>
  ldL h3 (a34.add 0) fun y36 =>
  ((decide ((IntKind.wrap .i64 (4 * (IntKind.wrap .i64 (y32 + 1)))) > (IntKind.wrap .i64 (3 * (y36.len : Int))))) = true ->
  nn p0 fun a39 =>
  ldL h3 (a39.add 1) fun y41 =>
  F.xae p0 (y41.len : Int) h3 fun r44 h43 =>
  nn p0 fun a45 =>
  ldL h43 (a45.add 0) fun y47 =>
  nn p0 fun a49 =>
  ldL h43 (a49.add 0) fun y51 =>
  runL PP (Instr.makeSlice 110 (.int .i64 (IntKind.wrap .i64 (2 * (y47.len : Int)))) (.int .i64 (IntKind.wrap .i64 (2 * (y47.len : Int))))) h43 fun s54 h53 =>
  cellH h53 (a49.add 0) = some y51.enc ∧
  nn p0 fun a56 =>
  stH h53 (a56.add 0) [s54.enc] fun h58 =>
  nn p0 fun a59 =>
  stH h58 (a59.add 1) [y51.enc] fun h61 =>
  nn p0 fun a62 =>
  stH h61 (a62.add 2) [(.int .i64 0)] fun h64 =>
  F.xcc.j1 Q p0 p1 p2 h64) ∧
  ((decide ((IntKind.wrap .i64 (4 * (IntKind.wrap .i64 (y32 + 1)))) > (IntKind.wrap .i64 (3 * (y36.len : Int))))) = false ->
  F.xcc.j1 Q p0 p1 p2 h3))
theorem F.xcc_ok {p0 : Option Addr} {p1 : ByteArray} {p2 : Option Addr} {h : H} {Q : H -> Prop} (H : F.xcc p0 p1 p2 h Q) : Fn PP 44 ([(.pointer p0), (.string p1), (.pointer p2)] : List Value).toArray h fun r h' => r = .tuple #[] ∧ Q  h' := by
 unfold F.xcc at H;refine fn_of Tryz.func44 Tryz.ntmps44 rfl rfl fun w0 => (tr_sub [(0, (.pointer p0)), (1, (.string p1)), (2, (.pointer p2))] ⟨rfl, rfl, rfl, trivial⟩ (tr_seq (tr_region (tq (y_move rfl) (tr_e (e_call Tryz.call81 rfl (F.xae_ok H)) rfl rfl ?_)))));rintro _ h1 ⟨r2, rfl, H⟩;refine tr_nil (tr_thenN (tr_seq (tr_seq (tr_region (tq (y_move rfl) (tq (y_move rfl) (tr_e (e_call Tryz.call80 rfl (F.xcw_ok H)) rfl rfl ?_)))))));rintro _ h3 ⟨r4, rfl, H⟩;refine tq (y_assign rfl) (tr_nil (tr_thenN (tr_seq (tr_region (tq (y_move rfl) (tq (y_pnil_neq Tryz.runUnderlying127 rfl rfl) (tr_nil (tr_thenN ?_))))))));refine tr_cond rfl (fun g5 => ?_) (fun g5 => ?_)
 ·replace H := H.1 g5;refine tr_seq (tr_region (tq (y_move rfl) (tq (y_move rfl) ?_)));obtain ⟨a6, e7, H⟩ := H;refine tq (f_nn rfl e7) (tq (y_fa (off := 2) Tryz.runUnderlying130 fo_130_2 rfl) (tr_e (f_store (vs := [(.pointer p2)]) Tryz.sizeOf70 rfl rfl rfl rfl (one1 rfl) H) rfl rfl ?_));rintro _ h8 ⟨rfl, H⟩;refine tr_nil (tr_thenN (tr_ret (tr_thenR ?_)));exact tr_ret0 rfl ⟨rfl, H⟩
 ·replace H := H.2 g5;refine tr_skip (tr_thenN ?_);refine tr_seq_j (fun L' h => ∃ (x0 : Option Addr) (x1 : ByteArray) (x2 : Option Addr), L' = [(0, (.pointer x0)), (1, (.string x1)), (2, (.pointer x2))] ∧ F.xcc.j1 Q x0 x1 x2 h) ?_ ?_
  ·rintro L' h ⟨x0, x1, x2, rfl, H⟩;unfold F.xcc.j1 at H;refine tr_seq (tr_region (tq (y_move rfl) ?_));obtain ⟨a9, e10, H⟩ := H;refine tq (f_nn rfl e10) (tq (y_fa (off := 0) Tryz.runUnderlying112 fo_112_0 rfl) ?_);obtain ⟨y11, k12, H⟩ := H;refine tr_h (y_ld Tryz.isAgg110 rfl) k12 rfl rfl (tq (y_move rfl) (tr_e (e_call Tryz.call82 rfl (F.xaj_ok H)) rfl rfl ?_));rintro _ h13 ⟨r14, r15, rfl, H⟩;refine tq (y_move rfl) (tq (y_ext rfl rfl) (tq (y_ext rfl rfl) (tq (y_assign rfl) (tq (y_assign rfl) (tr_nil (tr_thenN (tr_seq (tr_region (tq (y_move rfl) ?_)))))))));obtain ⟨a16, e17, H⟩ := H;refine tq (f_nn rfl e17) (tq (y_fa (off := 0) Tryz.runUnderlying112 fo_112_0 rfl) ?_);obtain ⟨y18, k19, H⟩ := H;refine tr_h (y_ld Tryz.isAgg110 rfl) k19 rfl rfl (tq (y_move rfl) (tq (y_move rfl) (tq (y_move rfl) (tq (f_build rfl (bd_130_0_1_2 1 x1 x2)) ?_))));obtain ⟨a20, e21, H⟩ := H;refine tq (f_idx (s := y18) Tryz.runUnderlying110 Tryz.sizeOf130 rfl rfl e21) (tr_e (f_store (vs := (⟨1, x1, x2⟩ : S_table_place_chain_Chain_api_Agg).cells) Tryz.sizeOf130 rfl rfl cellsOfStruct rfl (by intro v hv; exact ones_S_table_place_chain_Chain_api_Agg _ v hv) H) rfl rfl ?_);rintro _ h22 ⟨rfl, H⟩;refine tr_nil (tr_thenN (tr_region (tq (y_move rfl) ?_)));obtain ⟨a23, e24, H⟩ := H;refine tq (f_nn rfl e24) (tq (y_fa (off := 3) Tryz.runUnderlying112 fo_112_3 rfl) ?_);obtain ⟨y25, k26, H⟩ := H;refine tr_h (y_ld Tryz.isAgg3 rfl) k26 rfl rfl (tq (y_add rfl rfl) ?_);obtain ⟨a27, e28, H⟩ := H;refine tq (f_nn rfl e28) (tq (y_fa (off := 3) Tryz.runUnderlying112 fo_112_3 rfl) (tr_e (f_store (vs := [(.int .i64 (IntKind.wrap .i64 (y25 + 1)))]) Tryz.sizeOf3 rfl rfl rfl rfl (one1 rfl) H) rfl rfl ?_));rintro _ h29 ⟨rfl, H⟩;refine tr_nil ?_;exact tr_end0 rfl ⟨rfl, H⟩
  ·refine tr_seq (tr_draw mixed [0, 1, 3, 7, 15, 31, 0, 64, 192, 448, 960, 1984, 4095] (by kernel_rfl) (g_p 0 1 rfl (by kernel_rfl) (y_move rfl) rfl rfl ?_));obtain ⟨a30, e31, H⟩ := H;refine g_p 1 3 rfl (by kernel_rfl) (f_nn rfl e31) rfl rfl (g_p 2 7 rfl (by kernel_rfl) (y_fa (off := 3) Tryz.runUnderlying112 fo_112_3 rfl) rfl rfl ?_);obtain ⟨y32, k33, H⟩ := H;refine g_h 3 15 rfl (by kernel_rfl) (y_ld Tryz.isAgg3 rfl) k33 rfl rfl (g_p 4 31 rfl (by kernel_rfl) (y_add rfl rfl) rfl rfl (g_p 5 63 rfl (by kernel_rfl) (y_mul rfl rfl) rfl rfl (g_p 6 127 rfl (by kernel_rfl) (y_move rfl) rfl rfl ?_)));obtain ⟨a34, e35, H⟩ := H;refine g_p 7 255 rfl (by kernel_rfl) (f_nn rfl e35) rfl rfl (g_p 8 511 rfl (by kernel_rfl) (y_fa (off := 0) Tryz.runUnderlying112 fo_112_0 rfl) rfl rfl ?_);obtain ⟨y36, k37, H⟩ := H;refine g_h 9 1023 rfl (by kernel_rfl) (y_ld Tryz.isAgg110 rfl) k37 rfl rfl (g_p 10 2047 rfl (by kernel_rfl) (y_len (ts := #[]) Tryz.runUnderlying110 (o := y36.ptr) (n := y36.len) (cap := y36.cap) rfl) rfl rfl (g_p 11 4095 rfl (by kernel_rfl) (y_mul rfl rfl) rfl rfl (g_p 12 8191 rfl (by kernel_rfl) (y_gtr rfl rfl) rfl rfl (g_d (by kernel_rfl) (tr_thenN ?_)))));refine tr_cond rfl (fun g38 => ?_) (fun g38 => ?_)
   ·replace H := H.1 g38;refine tr_seq (tr_region (tq (y_move rfl) (tq (y_move rfl) ?_)));obtain ⟨a39, e40, H⟩ := H;refine tq (f_nn rfl e40) (tq (y_fa (off := 1) Tryz.runUnderlying112 fo_112_1 rfl) ?_);obtain ⟨y41, k42, H⟩ := H;refine tr_h (y_ld Tryz.isAgg110 rfl) k42 rfl rfl (tq (y_len (ts := #[]) Tryz.runUnderlying110 (o := y41.ptr) (n := y41.len) (cap := y41.cap) rfl) (tr_e (e_call Tryz.call81 rfl (F.xae_ok H)) rfl rfl ?_));rintro _ h43 ⟨r44, rfl, H⟩;refine tr_nil (tr_thenN (tr_draw mixed [0, 0, 0, 0, 8, 24, 56, 120, 248, 504, 0, 1024, 3072, 7168, 16377, 32761, 65529, 131067, 262139, 524283, 1048575, 2097151, 4194303] (by kernel_rfl) (g_p 0 1 rfl (by kernel_rfl) (y_move rfl) rfl rfl (g_p 1 3 rfl (by kernel_rfl) (y_move rfl) rfl rfl (g_p 2 7 rfl (by kernel_rfl) (y_move rfl) rfl rfl (g_p 3 15 rfl (by kernel_rfl) (y_move rfl) rfl rfl ?_))))));obtain ⟨a45, e46, H⟩ := H;refine g_p 4 31 rfl (by kernel_rfl) (f_nn rfl e46) rfl rfl (g_p 5 63 rfl (by kernel_rfl) (y_fa (off := 0) Tryz.runUnderlying112 fo_112_0 rfl) rfl rfl ?_);obtain ⟨y47, k48, H⟩ := H;refine g_h 6 127 rfl (by kernel_rfl) (y_ld Tryz.isAgg110 rfl) k48 rfl rfl (g_p 7 255 rfl (by kernel_rfl) (y_len (ts := #[]) Tryz.runUnderlying110 (o := y47.ptr) (n := y47.len) (cap := y47.cap) rfl) rfl rfl (g_p 8 511 rfl (by kernel_rfl) (y_mul rfl rfl) rfl rfl (g_p 10 1535 rfl (by kernel_rfl) (y_move rfl) rfl rfl ?_)));obtain ⟨a49, e50, H⟩ := H;refine g_p 11 3583 rfl (by kernel_rfl) (f_nn rfl e50) rfl rfl (g_p 12 7679 rfl (by kernel_rfl) (y_fa (off := 0) Tryz.runUnderlying112 fo_112_0 rfl) rfl rfl ?_);obtain ⟨y51, k52, H⟩ := H;refine g_h 13 15871 rfl (by kernel_rfl) (y_ld Tryz.isAgg110 rfl) k52 rfl rfl (g_e 9 16383 [(13, fun h => cellH h (a49.add 0) = some y51.enc)] (by kernel_rfl) rfl (by kernel_rfl) (f_make rfl rfl H) rfl rfl ?_);rintro _ h53 ⟨s54, rfl, H⟩;obtain ⟨k55, H⟩ := H;refine ⟨And.intro k55 trivial, ?_⟩;obtain ⟨a56, e57, H⟩ := H;refine g_p 14 32767 rfl (by kernel_rfl) (f_nn rfl e57) rfl rfl (g_p 15 65535 rfl (by kernel_rfl) (y_fa (off := 0) Tryz.runUnderlying112 fo_112_0 rfl) rfl rfl (g_e 16 131071 [] (by kernel_rfl) rfl (by kernel_rfl) (f_store (vs := [s54.enc]) Tryz.sizeOf110 rfl rfl rfl rfl (one1 rfl) H) rfl rfl ?_));rintro _ h58 ⟨rfl, H⟩;refine ⟨trivial, ?_⟩;obtain ⟨a59, e60, H⟩ := H;refine g_p 17 262143 rfl (by kernel_rfl) (f_nn rfl e60) rfl rfl (g_p 18 524287 rfl (by kernel_rfl) (y_fa (off := 1) Tryz.runUnderlying112 fo_112_1 rfl) rfl rfl (g_e 19 1048575 [] (by kernel_rfl) rfl (by kernel_rfl) (f_store (vs := [y51.enc]) Tryz.sizeOf110 rfl rfl rfl rfl (one1 rfl) H) rfl rfl ?_));rintro _ h61 ⟨rfl, H⟩;refine ⟨trivial, ?_⟩;obtain ⟨a62, e63, H⟩ := H;refine g_p 20 2097151 rfl (by kernel_rfl) (f_nn rfl e63) rfl rfl (g_p 21 4194303 rfl (by kernel_rfl) (y_fa (off := 2) Tryz.runUnderlying112 fo_112_2 rfl) rfl rfl (g_e 22 8388607 [] (by kernel_rfl) rfl (by kernel_rfl) (f_store (vs := [(.int .i64 0)]) Tryz.sizeOf3 rfl rfl rfl rfl (one1 rfl) H) rfl rfl ?_));rintro _ h64 ⟨rfl, H⟩;refine ⟨trivial, ?_⟩;refine g_d (by kernel_rfl) (tr_thenN ?_);exact tr_join [(0, (.pointer p0)), (1, (.string p1)), (2, (.pointer p2))] ⟨rfl, rfl, rfl, trivial⟩ ⟨_, _, _, rfl, H⟩
   ·replace H := H.2 g38;refine tr_skip (tr_thenN ?_);exact tr_join [(0, (.pointer p0)), (1, (.string p1)), (2, (.pointer p2))] ⟨rfl, rfl, rfl, trivial⟩ ⟨_, _, _, rfl, H⟩
def F.xdi (p0 : Int) (p1 : Int) (h : H) (Q : Int -> Int -> H -> Prop) : Prop :=
  0 <= (32 : Int) ∧
  0 <= (32 : Int) ∧
  0 <= (32 : Int) ∧
  0 <= (32 : Int) ∧
  0 <= (32 : Int) ∧
  Q (IntKind.wrap .u64 ((IntKind.wrap .u64 ((IntKind.wrap .u64 ((Int.fdiv p0 (2 ^ (min (32 : Int).toNat (IntKind.bits .u64)) : Int)) * (Int.fdiv p1 (2 ^ (min (32 : Int).toNat (IntKind.bits .u64)) : Int)))) + (Int.fdiv (IntKind.wrap .u64 ((IntKind.wrap .u64 ((Int.fdiv p0 (2 ^ (min (32 : Int).toNat (IntKind.bits .u64)) : Int)) * (bitsOf .and .u64 p1 4294967295))) + (Int.fdiv (IntKind.wrap .u64 ((bitsOf .and .u64 p0 4294967295) * (bitsOf .and .u64 p1 4294967295))) (2 ^ (min (32 : Int).toNat (IntKind.bits .u64)) : Int)))) (2 ^ (min (32 : Int).toNat (IntKind.bits .u64)) : Int)))) + (Int.fdiv (IntKind.wrap .u64 ((bitsOf .and .u64 (IntKind.wrap .u64 ((IntKind.wrap .u64 ((Int.fdiv p0 (2 ^ (min (32 : Int).toNat (IntKind.bits .u64)) : Int)) * (bitsOf .and .u64 p1 4294967295))) + (Int.fdiv (IntKind.wrap .u64 ((bitsOf .and .u64 p0 4294967295) * (bitsOf .and .u64 p1 4294967295))) (2 ^ (min (32 : Int).toNat (IntKind.bits .u64)) : Int)))) 4294967295) + (IntKind.wrap .u64 ((bitsOf .and .u64 p0 4294967295) * (Int.fdiv p1 (2 ^ (min (32 : Int).toNat (IntKind.bits .u64)) : Int)))))) (2 ^ (min (32 : Int).toNat (IntKind.bits .u64)) : Int)))) (IntKind.wrap .u64 (p0 * p1)) h
theorem F.xdi_ok {p0 : Int} {p1 : Int} {h : H} {Q : Int -> Int -> H -> Prop} (H : F.xdi p0 p1 h Q) : Fn PP 114 ([(.int .u64 p0), (.int .u64 p1)] : List Value).toArray h fun r h' => ∃ r0 r1, r = .tuple #[(.int .u64 r0), (.int .u64 r1)] ∧ Q r0 r1 h' := by
 unfold F.xdi at H;refine fn_of Tryz.func114 Tryz.ntmps114 rfl rfl fun w0 => (tr_sub [(0, (.int .u64 p0)), (1, (.int .u64 p1))] ⟨rfl, rfl, trivial⟩ (tr_seq (tr_region (tq (y_assign rfl) (tq (y_assign rfl) (tr_nil (tr_thenN (tr_seq (tr_region (tq (y_move rfl) (tq (y_and rfl rfl) (tq (y_assign rfl) (tr_nil ?_)))))))))))));refine tr_thenN (tr_seq (tr_region (tq (y_move rfl) ?_)));obtain ⟨e1, H⟩ := H;refine tq (y_shr rfl rfl e1) (tq (y_assign rfl) (tr_nil (tr_thenN (tr_seq (tr_region (tq (y_move rfl) (tq (y_and rfl rfl) (tq (y_assign rfl) (tr_nil (tr_thenN (tr_seq (tr_region (tq (y_move rfl) ?_)))))))))))));obtain ⟨e2, H⟩ := H;refine tq (y_shr rfl rfl e2) (tq (y_assign rfl) (tr_nil (tr_thenN (tr_seq (tr_region (tq (y_move rfl) (tq (y_move rfl) (tq (y_mul rfl rfl) (tq (y_assign rfl) (tr_nil (tr_thenN (tr_seq (tr_region ?_)))))))))))));refine tq (y_move rfl) (tq (y_move rfl) (tq (y_mul rfl rfl) (tq (y_move rfl) ?_)));obtain ⟨e3, H⟩ := H;refine tq (y_shr rfl rfl e3) (tq (y_add rfl rfl) (tq (y_assign rfl) (tr_nil (tr_thenN (tr_seq (tr_region (tq (y_move rfl) (tq (y_and rfl rfl) (tq (y_assign rfl) (tr_nil (tr_thenN (tr_seq (tr_region ?_)))))))))))));refine tq (y_move rfl) ?_;obtain ⟨e4, H⟩ := H;refine tq (y_shr rfl rfl e4) (tq (y_assign rfl) (tr_nil (tr_thenN (tr_seq (tr_region (tq (y_move rfl) (tq (y_move rfl) (tq (y_move rfl) (tq (y_mul rfl rfl) (tq (y_add rfl rfl) (tq (y_assign rfl) (tr_nil (tr_thenN ?_)))))))))))));refine tr_seq (tr_region (tq (y_move rfl) (tq (y_move rfl) (tq (y_mul rfl rfl) (tq (y_move rfl) (tq (y_add rfl rfl) (tq (y_move rfl) ?_)))))));obtain ⟨e5, H⟩ := H;refine tq (y_shr rfl rfl e5) (tq (y_add rfl rfl) (tq (y_assign rfl) (tr_nil (tr_thenN (tr_seq (tr_region (tq (y_move rfl) (tq (y_move rfl) (tq (y_mul rfl rfl) (tq (y_assign rfl) (tr_nil (tr_thenN (tr_ret ?_)))))))))))));exact tr_ret2 rfl rfl rfl ⟨_, _, rfl, H⟩
def F.xaw.j1 (Q : S_agg_wide -> H -> Prop) (x4 : Addr) (x5 : Int) (x6 : Int) (h : H) : Prop :=
  stH h x4 ((⟨(IntKind.wrap .i64 x5), x6⟩ : S_agg_wide).cells) fun h6 =>
  ld_S_agg_wide h6 x4 fun y7 =>
  Q y7 h6
def F.xaw (p0 : Int) (p1 : Int) (h : H) (Q : S_agg_wide -> H -> Prop) : Prop :=
  new h (((⟨0, 0⟩ : S_agg_wide) : S_agg_wide).cells.toArray) ty_123 fun a2 h1 =>
  F.xdi (IntKind.wrap .u64 p0) (IntKind.wrap .u64 p1) h1 fun r4 r5 h3 =>
  ((decide (p1 < 0)) = true ->
  F.xaw.j1 Q a2 (IntKind.wrap .u64 (r4 - (IntKind.wrap .u64 p0))) r5 h3) ∧
  ((decide (p1 < 0)) = false ->
  F.xaw.j1 Q a2 r4 r5 h3)
theorem F.xaw_ok {p0 : Int} {p1 : Int} {h : H} {Q : S_agg_wide -> H -> Prop} (H : F.xaw p0 p1 h Q) : Fn PP 77 ([(.int .i64 p0), (.int .i64 p1)] : List Value).toArray h fun r h' => ∃ r0, r = (.agg r0.cells.toArray) ∧ Q r0 h' := by
 unfold F.xaw at H;refine fn_of Tryz.func77 Tryz.ntmps77 rfl rfl fun w0 => (tr_sub [(0, (.int .i64 p0)), (1, (.int .i64 p1))] ⟨rfl, rfl, trivial⟩ (tr_seq (tr_region (tr_e (f_alloc (cs := ((⟨0, 0⟩ : S_agg_wide) : S_agg_wide).cells.toArray) Tryz.zeroValue123 rfl H) rfl rfl ?_))));rintro _ h1 ⟨a2, rfl, H⟩;refine tr_nil (tr_thenN (tr_seq (tr_region (tq (y_move rfl) (tq (y_cvt Tryz.runUnderlying2 Tryz.runUnderlying121 rfl) (tq (y_move rfl) (tq (y_cvt Tryz.runUnderlying2 Tryz.runUnderlying121 rfl) (tr_e (e_call Tryz.call114 rfl (F.xdi_ok H)) rfl rfl ?_))))))));rintro _ h3 ⟨r4, r5, rfl, H⟩;refine tq (y_move rfl) (tq (y_ext rfl rfl) (tq (y_ext rfl rfl) (tq (y_assign rfl) (tq (y_assign rfl) (tr_nil (tr_thenN ?_))))));refine tr_seq_j (fun L' h => ∃ (x4 : Addr) (x5 : Int) (x6 : Int), L' = [(4, (.pointer (some x4))), (5, (.int .u64 x5)), (6, (.int .u64 x6))] ∧ F.xaw.j1 Q x4 x5 x6 h) ?_ ?_
 ·rintro L' h ⟨x4, x5, x6, rfl, H⟩;unfold F.xaw.j1 at H;refine tr_seq (tr_region (tq (y_move rfl) (tq (y_cvt Tryz.runUnderlying121 Tryz.runUnderlying2 rfl) (tq (y_move rfl) (tq (f_build rfl (bd_123_0_1 (IntKind.wrap .i64 x5) x6)) (tr_e (f_store (vs := (⟨(IntKind.wrap .i64 x5), x6⟩ : S_agg_wide).cells) Tryz.sizeOf123 rfl rfl cellsOfStruct rfl (by intro v hv; exact ones_S_agg_wide _ v hv) H) rfl rfl ?_))))));rintro _ h6 ⟨rfl, H⟩;refine tr_nil (tr_thenN (tr_ret ?_));obtain ⟨y7, k8, H⟩ := H;exact tr_rv1 rfl (rv_cellS Tryz.isAgg123 Tryz.sizeOf123 rfl rfl k8) ⟨_, rfl, H⟩
 ·refine tr_seq (tr_region (tq (y_move rfl) (tq (y_lss rfl rfl) (tr_nil (tr_thenN ?_)))));refine tr_cond rfl (fun g9 => ?_) (fun g9 => ?_)
  ·replace H := H.1 g9;refine tr_region (tq (y_move rfl) (tq (y_move rfl) (tq (y_cvt Tryz.runUnderlying2 Tryz.runUnderlying121 rfl) (tq (y_sub rfl rfl) (tq (y_assign rfl) (tr_nil (tr_thenN ?_)))))));exact tr_join [(4, (.pointer (some a2))), (5, (.int .u64 (IntKind.wrap .u64 (r4 - (IntKind.wrap .u64 p0))))), (6, (.int .u64 r5))] ⟨rfl, rfl, rfl, trivial⟩ ⟨_, _, _, rfl, H⟩
  ·replace H := H.2 g9;refine tr_skip (tr_thenN ?_);exact tr_join [(4, (.pointer (some a2))), (5, (.int .u64 r4)), (6, (.int .u64 r5))] ⟨rfl, rfl, rfl, trivial⟩ ⟨_, _, _, rfl, H⟩
def F.xbw (p0 : S_agg_wide) (p1 : S_agg_wide) (h : H) (Q : S_agg_wide -> H -> Prop) : Prop :=
  new h p0.cells.toArray ty_123 fun a2 h1 =>
  new h1 p1.cells.toArray ty_123 fun a4 h3 =>
  new h3 (((⟨0, 0⟩ : S_agg_wide) : S_agg_wide).cells.toArray) ty_123 fun a6 h5 =>
  ldI .u64 h5 (a2.add 1) fun y7 =>
  ldI .u64 h5 (a4.add 1) fun y9 =>
  ldI .i64 h5 (a2.add 0) fun y11 =>
  ldI .i64 h5 (a4.add 0) fun y13 =>
  stH h5 a6 ((⟨(IntKind.wrap .i64 ((IntKind.wrap .i64 (y11 + y13)) + (IntKind.wrap .i64 (a64c y7 y9)))), (a64s y7 y9)⟩ : S_agg_wide).cells) fun h15 =>
  ld_S_agg_wide h15 a6 fun y16 =>
  Q y16 h15
theorem F.xbw_ok {p0 : S_agg_wide} {p1 : S_agg_wide} {h : H} {Q : S_agg_wide -> H -> Prop} (H : F.xbw p0 p1 h Q) : Fn PP 78 ([(.agg p0.cells.toArray), (.agg p1.cells.toArray)] : List Value).toArray h fun r h' => ∃ r0, r = (.agg r0.cells.toArray) ∧ Q r0 h' := by
 unfold F.xbw at H;refine fn_of Tryz.func78 Tryz.ntmps78 rfl rfl fun w0 => (tr_sub [(0, (.agg p0.cells.toArray)), (1, (.agg p1.cells.toArray))] ⟨rfl, rfl, trivial⟩ (tr_seq (tr_region (tr_e (f_box (cs := p0.cells.toArray) rfl rfl H) rfl rfl ?_))));rintro _ h1 ⟨a2, rfl, H⟩;refine tr_e (f_box (cs := p1.cells.toArray) rfl rfl H) rfl rfl ?_;rintro _ h3 ⟨a4, rfl, H⟩;refine tr_e (f_alloc (cs := ((⟨0, 0⟩ : S_agg_wide) : S_agg_wide).cells.toArray) Tryz.zeroValue123 rfl H) rfl rfl ?_;rintro _ h5 ⟨a6, rfl, H⟩;refine tr_nil (tr_thenN (tr_seq (tr_region (tq (y_fa (off := 1) Tryz.runUnderlying123 fo_123_1 rfl) ?_))));obtain ⟨y7, k8, H⟩ := H;refine tr_h (y_ld Tryz.isAgg121 rfl) k8 rfl rfl (tq (y_fa (off := 1) Tryz.runUnderlying123 fo_123_1 rfl) ?_);obtain ⟨y9, k10, H⟩ := H;refine tr_h (y_ld Tryz.isAgg121 rfl) k10 rfl rfl (tq (y_add64 add64S_115 rfl) (tq (y_move rfl) (tq (y_ext rfl rfl) (tq (y_ext rfl rfl) (tq (y_assign rfl) (tq (y_assign rfl) (tr_nil (tr_thenN (tr_seq (tr_region (tq (y_fa (off := 0) Tryz.runUnderlying123 fo_123_0 rfl) ?_)))))))))));obtain ⟨y11, k12, H⟩ := H;refine tr_h (y_ld Tryz.isAgg2 rfl) k12 rfl rfl (tq (y_fa (off := 0) Tryz.runUnderlying123 fo_123_0 rfl) ?_);obtain ⟨y13, k14, H⟩ := H;refine tr_h (y_ld Tryz.isAgg2 rfl) k14 rfl rfl (tq (y_add rfl rfl) (tq (y_move rfl) (tq (y_cvt Tryz.runUnderlying121 Tryz.runUnderlying2 rfl) (tq (y_add rfl rfl) (tq (y_move rfl) (tq (f_build rfl (bd_123_0_1 (IntKind.wrap .i64 ((IntKind.wrap .i64 (y11 + y13)) + (IntKind.wrap .i64 (a64c y7 y9)))) (a64s y7 y9))) (tr_e (f_store (vs := (⟨(IntKind.wrap .i64 ((IntKind.wrap .i64 (y11 + y13)) + (IntKind.wrap .i64 (a64c y7 y9)))), (a64s y7 y9)⟩ : S_agg_wide).cells) Tryz.sizeOf123 rfl rfl cellsOfStruct rfl (by intro v hv; exact ones_S_agg_wide _ v hv) H) rfl rfl ?_)))))));rintro _ h15 ⟨rfl, H⟩;refine tr_nil (tr_thenN (tr_ret ?_));obtain ⟨y16, k17, H⟩ := H;exact tr_rv1 rfl (rv_cellS Tryz.isAgg123 Tryz.sizeOf123 rfl rfl k17) ⟨_, rfl, H⟩
def F.xcr (p0 : S_agg_wide) (p1 : S_agg_wide) (h : H) (Q : Bool -> H -> Prop) : Prop :=
  new h p0.cells.toArray ty_123 fun a2 h1 =>
  new h1 p1.cells.toArray ty_123 fun a4 h3 =>
  ldI .i64 h3 (a2.add 0) fun y5 =>
  ldI .i64 h3 (a4.add 0) fun y7 =>
  ((decide (y5 < y7)) = true ->
  Q true h3) ∧
  ((decide (y5 < y7)) = false ->
  ldI .i64 h3 (a2.add 0) fun y10 =>
  ldI .i64 h3 (a4.add 0) fun y12 =>
  (((y10 == y12)) = true ->
  ldI .u64 h3 (a2.add 1) fun y15 =>
  ldI .u64 h3 (a4.add 1) fun y17 =>
  Q (decide (y15 <= y17)) h3) ∧
  (((y10 == y12)) = false ->
  Q false h3))
theorem F.xcr_ok {p0 : S_agg_wide} {p1 : S_agg_wide} {h : H} {Q : Bool -> H -> Prop} (H : F.xcr p0 p1 h Q) : Fn PP 79 ([(.agg p0.cells.toArray), (.agg p1.cells.toArray)] : List Value).toArray h fun r h' => ∃ r0, r = (.bool r0) ∧ Q r0 h' := by
 unfold F.xcr at H;refine fn_of Tryz.func79 Tryz.ntmps79 rfl rfl fun w0 => (tr_sub [(0, (.agg p0.cells.toArray)), (1, (.agg p1.cells.toArray))] ⟨rfl, rfl, trivial⟩ (tr_seq (tr_region (tr_e (f_box (cs := p0.cells.toArray) rfl rfl H) rfl rfl ?_))));rintro _ h1 ⟨a2, rfl, H⟩;refine tr_e (f_box (cs := p1.cells.toArray) rfl rfl H) rfl rfl ?_;rintro _ h3 ⟨a4, rfl, H⟩;refine tq (y_assign rfl) (tr_nil (tr_thenN (tr_seq (tr_region (tq (y_fa (off := 0) Tryz.runUnderlying123 fo_123_0 rfl) ?_)))));obtain ⟨y5, k6, H⟩ := H;refine tr_h (y_ld Tryz.isAgg2 rfl) k6 rfl rfl (tq (y_fa (off := 0) Tryz.runUnderlying123 fo_123_0 rfl) ?_);obtain ⟨y7, k8, H⟩ := H;refine tr_h (y_ld Tryz.isAgg2 rfl) k8 rfl rfl (tq (y_lss rfl rfl) (tq (y_move rfl) ?_));refine tr_split (t := 10) rfl (fun g9 => ?_) (fun g9 => ?_)
 ·replace H := H.1 g9;refine ts (ts (ts (ts (ts (ts (ts (ts (ts (ts (ts (ts (tq (y_pick_t rfl rfl) (tq (y_assign rfl) ?_)))))))))))));refine tr_nil (tr_thenN (tr_ret ?_));exact tr_ret1 rfl rfl ⟨_, rfl, H⟩
 ·replace H := H.2 g9;refine tq (y_fa (off := 0) Tryz.runUnderlying123 fo_123_0 rfl) ?_;obtain ⟨y10, k11, H⟩ := H;refine tr_h (y_ld Tryz.isAgg2 rfl) k11 rfl rfl (tq (y_fa (off := 0) Tryz.runUnderlying123 fo_123_0 rfl) ?_);obtain ⟨y12, k13, H⟩ := H;refine tr_h (y_ld Tryz.isAgg2 rfl) k13 rfl rfl (tq (y_eql rfl rfl) (tq (y_move rfl) ?_));refine tr_split (t := 16) rfl (fun g14 => ?_) (fun g14 => ?_)
  ·replace H := H.1 g14;refine tq (y_fa (off := 1) Tryz.runUnderlying123 fo_123_1 rfl) ?_;obtain ⟨y15, k16, H⟩ := H;refine tr_h (y_ld Tryz.isAgg121 rfl) k16 rfl rfl (tq (y_fa (off := 1) Tryz.runUnderlying123 fo_123_1 rfl) ?_);obtain ⟨y17, k18, H⟩ := H;refine tr_h (y_ld Tryz.isAgg121 rfl) k18 rfl rfl (tq (y_leq rfl rfl) (tq (y_pick_t rfl rfl) (tq (y_pick_f rfl rfl) (tq (y_assign rfl) (tr_nil (tr_thenN (tr_ret ?_)))))));exact tr_ret1 rfl rfl ⟨_, rfl, H⟩
  ·replace H := H.2 g14;refine ts (ts (ts (ts (ts (tq (y_pick_f rfl rfl) (tq (y_pick_f rfl rfl) (tq (y_assign rfl) (tr_nil (tr_thenN (tr_ret ?_))))))))));exact tr_ret1 rfl rfl ⟨_, rfl, H⟩
def F.xbt.j1 (Q : Bool -> H -> Prop) (x1 : Addr) (x3 : Addr) (h : H) : Prop :=
  ldI .i64 h (x1.add 1) fun y25 =>
  F.xaw 1 y25 h fun r28 h27 =>
  new h27 (((⟨0, 0⟩ : S_agg_wide) : S_agg_wide).cells.toArray) ty_123 fun a30 h29 =>
  stH h29 a30 r28.cells fun h31 =>
  ld_S_agg_wide h31 x3 fun y32 =>
  ldI .i64 h31 (x1.add 0) fun y34 =>
  ldI .i64 h31 (x1.add 2) fun y36 =>
  ld_S_agg_wide h31 a30 fun y38 =>
  F.xaw (IntKind.wrap .i64 (y34 - 2)) y36 h31 fun r41 h40 =>
  Cells h40 a30 y38.cells ∧
  Cells h40 x3 y32.cells ∧
  F.xbw y32 r41 h40 fun r45 h44 =>
  Cells h44 a30 y38.cells ∧
  F.xcr r45 y38 h44 fun r48 h47 =>
  (r48 = true ->
  ld_S_agg_wide h47 a30 fun y50 =>
  ld_S_agg_wide h47 x3 fun y52 =>
  ldI .i64 h47 (x1.add 0) fun y54 =>
  ldI .i64 h47 (x1.add 3) fun y56 =>
  F.xaw (IntKind.wrap .i64 (y54 - 2)) y56 h47 fun r59 h58 =>
  Cells h58 x3 y52.cells ∧
  Cells h58 a30 y50.cells ∧
  F.xbw y52 r59 h58 fun r63 h62 =>
  Cells h62 a30 y50.cells ∧
  F.xcr y50 r63 h62 fun r66 h65 =>
  Q r66 h65) ∧
  (r48 = false ->
  Q false h47)
def F.xbt (p0 : S_api_Agg) (h : H) (Q : Bool -> H -> Prop) : Prop :=
  new h p0.cells.toArray ty_34 fun a2 h1 =>
  ldI .i64 h1 (a2.add 0) fun y3 =>
  ((decide (y3 <= 0)) = true ->
  ld_S_api_Agg h1 a2 fun y6 =>
  Q ((y6.Count == (⟨0, 0, 0, 0⟩ : S_api_Agg).Count) && ((y6.Sum == (⟨0, 0, 0, 0⟩ : S_api_Agg).Sum) && ((y6.Min == (⟨0, 0, 0, 0⟩ : S_api_Agg).Min) && ((y6.Max == (⟨0, 0, 0, 0⟩ : S_api_Agg).Max) && true)))) h1) ∧
  ((decide (y3 <= 0)) = false ->
  ldI .i64 h1 (a2.add 0) fun y8 =>
  (((y8 == 1)) = true ->
  ldI .i64 h1 (a2.add 2) fun y11 =>
  ldI .i64 h1 (a2.add 1) fun y13 =>
  (((y11 == y13)) = true ->
  ldI .i64 h1 (a2.add 3) fun y16 =>
  ldI .i64 h1 (a2.add 1) fun y18 =>
  Q ((y16 == y18)) h1) ∧
  (((y11 == y13)) = false ->
  Q false h1)) ∧
  (((y8 == 1)) = false ->
  ldI .i64 h1 (a2.add 2) fun y20 =>
  ldI .i64 h1 (a2.add 3) fun y22 =>
  ((decide (y20 > y22)) = true ->
  Q false h1) ∧
  ((decide (y20 > y22)) = false ->
  ldI .i64 h1 (a2.add 2) fun y67 =>
  ldI .i64 h1 (a2.add 3) fun y69 =>
  (F.xaw 1 y67 h1 fun r72 h71 =>
  cellH h71 (a2.add 3) = some (.int .i64 y69) ∧
  (F.xaw 1 y69 h71 fun r75 h74 =>
  (F.xbw r72 r75 h74 fun r77 h76 =>
  new h76 (((⟨0, 0⟩ : S_agg_wide) : S_agg_wide).cells.toArray) ty_123 fun a79 h78 =>
  stH h78 a79 r77.cells fun h80 =>
  F.xbt.j1 Q a2 a79 h80) ∧
  (new h74 (((⟨0, 0⟩ : S_agg_wide) : S_agg_wide).cells.toArray) ty_123 fun a82 h81 =>
  F.xbw r72 r75 h81 fun r84 h83 =>
  stH h83 a82 r84.cells fun h85 =>
  F.xbt.j1 Q a2 a82 h85)) ∧
  (new h71 (((⟨0, 0⟩ : S_agg_wide) : S_agg_wide).cells.toArray) ty_123 fun a87 h86 =>
  cellH h86 (a2.add 3) = some (.int .i64 y69) ∧
  F.xaw 1 y69 h86 fun r90 h89 =>
  F.xbw r72 r90 h89 fun r92 h91 =>
  stH h91 a87 r92.cells fun h93 =>
  F.xbt.j1 Q a2 a87 h93)) ∧
  (new h1 (((⟨0, 0⟩ : S_agg_wide) : S_agg_wide).cells.toArray) ty_123 fun a95 h94 =>
  cellH h94 (a2.add 3) = some (.int .i64 y69) ∧
  cellH h94 (a2.add 2) = some (.int .i64 y67) ∧
  F.xaw 1 y67 h94 fun r99 h98 =>
  cellH h98 (a2.add 3) = some (.int .i64 y69) ∧
  F.xaw 1 y69 h98 fun r102 h101 =>
  F.xbw r99 r102 h101 fun r104 h103 =>
  stH h103 a95 r104.cells fun h105 =>
  F.xbt.j1 Q a2 a95 h105))))
theorem F.xbt_ok {p0 : S_api_Agg} {h : H} {Q : Bool -> H -> Prop} (H : F.xbt p0 h Q) : Fn PP 40 ([(.agg p0.cells.toArray)] : List Value).toArray h fun r h' => ∃ r0, r = (.bool r0) ∧ Q r0 h' := by
 unfold F.xbt at H;refine fn_of Tryz.func40 Tryz.ntmps40 rfl rfl fun w0 => (tr_sub [(0, (.agg p0.cells.toArray))] ⟨rfl, trivial⟩ (tr_seq (tr_region (tr_e (f_box (cs := p0.cells.toArray) rfl rfl H) rfl rfl ?_))));rintro _ h1 ⟨a2, rfl, H⟩;refine tq (y_assign rfl) (tr_nil (tr_thenN (tr_seq (tr_block (tr_seq (tr_region (tq (y_fa (off := 0) Tryz.runUnderlying34 fo_34_0 rfl) ?_)))))));obtain ⟨y3, k4, H⟩ := H;refine tr_h (y_ld Tryz.isAgg2 rfl) k4 rfl rfl (tq (y_leq rfl rfl) (tq (y_assign rfl) (tr_nil (tr_thenN ?_))));refine tr_cond rfl (fun g5 => ?_) (fun g5 => ?_)
 ·replace H := H.1 g5;refine tr_seq (tr_region ?_);obtain ⟨y6, k7, H⟩ := H;refine tr_h (y_ldS Tryz.isAgg34 Tryz.sizeOf34 rfl rfl) k7 rfl rfl (tq (f_build rfl (bd_34_ )) (tq (st_eql (b := ((y6.Count == (⟨0, 0, 0, 0⟩ : S_api_Agg).Count) && ((y6.Sum == (⟨0, 0, 0, 0⟩ : S_api_Agg).Sum) && ((y6.Min == (⟨0, 0, 0, 0⟩ : S_api_Agg).Min) && ((y6.Max == (⟨0, 0, 0, 0⟩ : S_api_Agg).Max) && true))))) eqg_34 (fun w => eqst_34 y6 (⟨0, 0, 0, 0⟩ : S_api_Agg) 9998 w) rfl rfl) (tq (y_assign rfl) (tr_nil (tr_thenN (tr_ret (tr_blockR (tr_thenR ?_))))))));exact tr_ret1 rfl rfl ⟨_, rfl, H⟩
 ·replace H := H.2 g5;refine tr_seq (tr_region (tq (y_fa (off := 0) Tryz.runUnderlying34 fo_34_0 rfl) ?_));obtain ⟨y8, k9, H⟩ := H;refine tr_h (y_ld Tryz.isAgg2 rfl) k9 rfl rfl (tq (y_eql rfl rfl) (tq (y_assign rfl) (tr_nil (tr_thenN ?_))));refine tr_cond rfl (fun g10 => ?_) (fun g10 => ?_)
  ·replace H := H.1 g10;refine tr_seq (tr_region (tq (y_fa (off := 2) Tryz.runUnderlying34 fo_34_2 rfl) ?_));obtain ⟨y11, k12, H⟩ := H;refine tr_h (y_ld Tryz.isAgg2 rfl) k12 rfl rfl (tq (y_fa (off := 1) Tryz.runUnderlying34 fo_34_1 rfl) ?_);obtain ⟨y13, k14, H⟩ := H;refine tr_h (y_ld Tryz.isAgg2 rfl) k14 rfl rfl (tq (y_eql rfl rfl) (tq (y_move rfl) ?_));refine tr_split (t := 21) rfl (fun g15 => ?_) (fun g15 => ?_)
   ·replace H := H.1 g15;refine tq (y_fa (off := 3) Tryz.runUnderlying34 fo_34_3 rfl) ?_;obtain ⟨y16, k17, H⟩ := H;refine tr_h (y_ld Tryz.isAgg2 rfl) k17 rfl rfl (tq (y_fa (off := 1) Tryz.runUnderlying34 fo_34_1 rfl) ?_);obtain ⟨y18, k19, H⟩ := H;refine tr_h (y_ld Tryz.isAgg2 rfl) k19 rfl rfl (tq (y_eql rfl rfl) (tq (y_pick_t rfl rfl) (tq (y_assign rfl) (tr_nil (tr_thenN (tr_ret (tr_blockR (tr_thenR ?_))))))));exact tr_ret1 rfl rfl ⟨_, rfl, H⟩
   ·replace H := H.2 g15;refine ts (ts (ts (ts (ts (tq (y_pick_f rfl rfl) (tq (y_assign rfl) (tr_nil (tr_thenN (tr_ret (tr_blockR (tr_thenR ?_)))))))))));exact tr_ret1 rfl rfl ⟨_, rfl, H⟩
  ·replace H := H.2 g10;refine tr_seq (tr_region (tq (y_fa (off := 2) Tryz.runUnderlying34 fo_34_2 rfl) ?_));obtain ⟨y20, k21, H⟩ := H;refine tr_h (y_ld Tryz.isAgg2 rfl) k21 rfl rfl (tq (y_fa (off := 3) Tryz.runUnderlying34 fo_34_3 rfl) ?_);obtain ⟨y22, k23, H⟩ := H;refine tr_h (y_ld Tryz.isAgg2 rfl) k23 rfl rfl (tq (y_gtr rfl rfl) (tq (y_assign rfl) (tr_nil (tr_thenN ?_))));refine tr_cond rfl (fun g24 => ?_) (fun g24 => ?_)
   ·replace H := H.1 g24;refine tr_seq (tr_region (tq (y_assign rfl) (tr_nil (tr_thenN (tr_ret (tr_blockR (tr_thenR ?_)))))));exact tr_ret1 rfl rfl ⟨_, rfl, H⟩
   ·replace H := H.2 g24;refine tr_skip (tr_blockN (tr_thenN ?_));refine tr_seq_j (fun L' h => ∃ (x1 : Addr) (x3 : Addr), L' = [(1, (.pointer (some x1))), (3, (.pointer (some x3)))] ∧ F.xbt.j1 Q x1 x3 h) ?_ ?_
    ·rintro L' h ⟨x1, x3, rfl, H⟩;unfold F.xbt.j1 at H;refine tr_seq (tr_region (tq (y_fa (off := 1) Tryz.runUnderlying34 fo_34_1 rfl) ?_));obtain ⟨y25, k26, H⟩ := H;refine tr_h (y_ld Tryz.isAgg2 rfl) k26 rfl rfl (tr_e (e_call Tryz.call77 rfl (F.xaw_ok H)) rfl rfl ?_);rintro _ h27 ⟨r28, rfl, H⟩;refine tr_e (f_alloc (cs := ((⟨0, 0⟩ : S_agg_wide) : S_agg_wide).cells.toArray) Tryz.zeroValue123 rfl H) rfl rfl ?_;rintro _ h29 ⟨a30, rfl, H⟩;refine tr_e (f_store (vs := r28.cells) Tryz.sizeOf123 rfl rfl cellsOfStruct rfl (by intro v hv; exact ones_S_agg_wide _ v hv) H) rfl rfl ?_;rintro _ h31 ⟨rfl, H⟩;refine tr_nil (tr_thenN (tr_seq (tr_draw mixed [0, 0, 2, 6, 0, 16, 62, 127, 0, 511, 1023, 2047, 2047, 2047, 10239, 26623, 2047, 67583, 255999, 522239, 1048575, 2097151, 4194303] (by kernel_rfl) ?_)));obtain ⟨y32, k33, H⟩ := H;refine g_h 0 1 rfl (by kernel_rfl) (y_ldS Tryz.isAgg123 Tryz.sizeOf123 rfl rfl) k33 rfl rfl (g_p 1 3 rfl (by kernel_rfl) (y_fa (off := 0) Tryz.runUnderlying34 fo_34_0 rfl) rfl rfl ?_);obtain ⟨y34, k35, H⟩ := H;refine g_h 2 7 rfl (by kernel_rfl) (y_ld Tryz.isAgg2 rfl) k35 rfl rfl (g_p 3 15 rfl (by kernel_rfl) (y_sub rfl rfl) rfl rfl (g_p 4 31 rfl (by kernel_rfl) (y_fa (off := 2) Tryz.runUnderlying34 fo_34_2 rfl) rfl rfl ?_));obtain ⟨y36, k37, H⟩ := H;refine g_h 5 63 rfl (by kernel_rfl) (y_ld Tryz.isAgg2 rfl) k37 rfl rfl ?_;obtain ⟨y38, k39, H⟩ := H;refine g_h 8 319 rfl (by kernel_rfl) (y_ldS Tryz.isAgg123 Tryz.sizeOf123 rfl rfl) k39 rfl rfl (g_e 6 383 [(8, fun h => Cells h a30 y38.cells), (0, fun h => Cells h x3 y32.cells)] (by kernel_rfl) rfl (by kernel_rfl) (e_call Tryz.call77 rfl (F.xaw_ok H)) rfl rfl ?_);rintro _ h40 ⟨r41, rfl, H⟩;obtain ⟨k42, k43, H⟩ := H;refine ⟨And.intro k42 (And.intro k43 trivial), ?_⟩;refine g_e 7 511 [(8, fun h => Cells h a30 y38.cells)] (by kernel_rfl) rfl (by kernel_rfl) (e_call Tryz.call78 rfl (F.xbw_ok H)) rfl rfl ?_;rintro _ h44 ⟨r45, rfl, H⟩;obtain ⟨k46, H⟩ := H;refine ⟨And.intro k46 trivial, ?_⟩;refine g_e 9 1023 [] (by kernel_rfl) rfl (by kernel_rfl) (e_call Tryz.call79 rfl (F.xcr_ok H)) rfl rfl ?_;rintro _ h47 ⟨r48, rfl, H⟩;refine ⟨trivial, ?_⟩;refine g_p 10 2047 rfl (by kernel_rfl) (y_move rfl) rfl rfl ?_;refine g_split (t := 54) rfl (fun g49 => ?_) (fun g49 => ?_)
     ·replace H := H.1 g49;obtain ⟨y50, k51, H⟩ := H;refine g_h 11 4095 rfl (by kernel_rfl) (y_ldS Tryz.isAgg123 Tryz.sizeOf123 rfl rfl) k51 rfl rfl ?_;obtain ⟨y52, k53, H⟩ := H;refine g_h 12 8191 rfl (by kernel_rfl) (y_ldS Tryz.isAgg123 Tryz.sizeOf123 rfl rfl) k53 rfl rfl (g_p 13 16383 rfl (by kernel_rfl) (y_fa (off := 0) Tryz.runUnderlying34 fo_34_0 rfl) rfl rfl ?_);obtain ⟨y54, k55, H⟩ := H;refine g_h 14 32767 rfl (by kernel_rfl) (y_ld Tryz.isAgg2 rfl) k55 rfl rfl (g_p 15 65535 rfl (by kernel_rfl) (y_sub rfl rfl) rfl rfl (g_p 16 131071 rfl (by kernel_rfl) (y_fa (off := 3) Tryz.runUnderlying34 fo_34_3 rfl) rfl rfl ?_));obtain ⟨y56, k57, H⟩ := H;refine g_h 17 262143 rfl (by kernel_rfl) (y_ld Tryz.isAgg2 rfl) k57 rfl rfl (g_e 18 524287 [(12, fun h => Cells h x3 y52.cells), (11, fun h => Cells h a30 y50.cells)] (by kernel_rfl) rfl (by kernel_rfl) (e_call Tryz.call77 rfl (F.xaw_ok H)) rfl rfl ?_);rintro _ h58 ⟨r59, rfl, H⟩;obtain ⟨k60, k61, H⟩ := H;refine ⟨And.intro k60 (And.intro k61 trivial), ?_⟩;refine g_e 19 1048575 [(11, fun h => Cells h a30 y50.cells)] (by kernel_rfl) rfl (by kernel_rfl) (e_call Tryz.call78 rfl (F.xbw_ok H)) rfl rfl ?_;rintro _ h62 ⟨r63, rfl, H⟩;obtain ⟨k64, H⟩ := H;refine ⟨And.intro k64 trivial, ?_⟩;refine g_e 20 2097151 [] (by kernel_rfl) rfl (by kernel_rfl) (e_call Tryz.call79 rfl (F.xcr_ok H)) rfl rfl ?_;rintro _ h65 ⟨r66, rfl, H⟩;refine ⟨trivial, ?_⟩;refine g_p 21 4194303 rfl (by kernel_rfl) (y_pick_t rfl rfl) rfl rfl (g_p 22 8388607 rfl (by kernel_rfl) (y_assign rfl) rfl rfl (g_d (by kernel_rfl) (tr_thenN (tr_ret ?_))));exact tr_ret1 rfl rfl ⟨_, rfl, H⟩
     ·replace H := H.2 g49;refine g_s 11 4095 rfl (by kernel_rfl) rfl rfl (g_s 12 8191 rfl (by kernel_rfl) rfl rfl (g_s 13 16383 rfl (by kernel_rfl) rfl rfl (g_s 14 32767 rfl (by kernel_rfl) rfl rfl (g_s 15 65535 rfl (by kernel_rfl) rfl rfl (g_s 16 131071 rfl (by kernel_rfl) rfl rfl (g_s 17 262143 rfl (by kernel_rfl) rfl rfl (g_s 18 524287 rfl (by kernel_rfl) rfl rfl (g_s 19 1048575 rfl (by kernel_rfl) rfl rfl (g_s 20 2097151 rfl (by kernel_rfl) rfl rfl (g_p 21 4194303 rfl (by kernel_rfl) (y_pick_f rfl rfl) rfl rfl (g_p 22 8388607 rfl (by kernel_rfl) (y_assign rfl) rfl rfl (g_d (by kernel_rfl) (tr_thenN ?_)))))))))))));refine tr_ret ?_;exact tr_ret1 rfl rfl ⟨_, rfl, H⟩
    ·refine tr_draw mixed [0, 1, 3, 0, 8, 31, 63, 0, 255] (by kernel_rfl) (g_p 0 1 rfl (by kernel_rfl) (y_fa (off := 2) Tryz.runUnderlying34 fo_34_2 rfl) rfl rfl ?_);obtain ⟨y67, k68, H⟩ := H;refine g_h 1 3 rfl (by kernel_rfl) (y_ld Tryz.isAgg2 rfl) k68 rfl rfl (g_p 3 11 rfl (by kernel_rfl) (y_fa (off := 3) Tryz.runUnderlying34 fo_34_3 rfl) rfl rfl ?_);obtain ⟨y69, k70, H⟩ := H;refine g_h 4 27 rfl (by kernel_rfl) (y_ld Tryz.isAgg2 rfl) k70 rfl rfl ?_;refine g_e2 2 31 7 155 [(4, fun h => cellH h (a2.add 3) = some (.int .i64 y69))] [(4, fun h => cellH h (a2.add 3) = some (.int .i64 y69)), (1, fun h => cellH h (a2.add 2) = some (.int .i64 y67))] (by kernel_rfl) (by kernel_rfl) (by kernel_rfl) (by kernel_rfl) (by kernel_rfl) rfl rfl rfl rfl rfl rfl ?_ ?_
     ·replace H := H.1;refine ⟨_, (e_call Tryz.call77 rfl (F.xaw_ok H)), ?_⟩;rintro _ h71 ⟨r72, rfl, H⟩;obtain ⟨k73, H⟩ := H;refine ⟨And.intro k73 trivial, ?_⟩;refine g_e2 5 63 7 159 [] [(4, fun h => cellH h (a2.add 3) = some (.int .i64 y69))] (by kernel_rfl) (by kernel_rfl) (by kernel_rfl) (by kernel_rfl) (by kernel_rfl) rfl rfl rfl rfl rfl rfl ?_ ?_
      ·replace H := H.1;refine ⟨_, (e_call Tryz.call77 rfl (F.xaw_ok H)), ?_⟩;rintro _ h74 ⟨r75, rfl, H⟩;refine ⟨trivial, ?_⟩;refine g_e2 6 127 7 191 [] [] (by kernel_rfl) (by kernel_rfl) (by kernel_rfl) (by kernel_rfl) (by kernel_rfl) rfl rfl rfl rfl rfl rfl ?_ ?_
       ·replace H := H.1;refine ⟨_, (e_call Tryz.call78 rfl (F.xbw_ok H)), ?_⟩;rintro _ h76 ⟨r77, rfl, H⟩;refine ⟨trivial, ?_⟩;refine g_e 7 255 [] (by kernel_rfl) rfl (by kernel_rfl) (f_alloc (cs := ((⟨0, 0⟩ : S_agg_wide) : S_agg_wide).cells.toArray) Tryz.zeroValue123 rfl H) rfl rfl ?_;rintro _ h78 ⟨a79, rfl, H⟩;refine ⟨trivial, ?_⟩;refine g_e 8 511 [] (by kernel_rfl) rfl (by kernel_rfl) (f_store (vs := r77.cells) Tryz.sizeOf123 rfl rfl cellsOfStruct rfl (by intro v hv; exact ones_S_agg_wide _ v hv) H) rfl rfl ?_;rintro _ h80 ⟨rfl, H⟩;refine ⟨trivial, ?_⟩;refine g_d (by kernel_rfl) (tr_thenN ?_);exact tr_join [(1, (.pointer (some a2))), (3, (.pointer (some a79)))] ⟨rfl, rfl, trivial⟩ ⟨_, _, rfl, H⟩
       ·replace H := H.2;refine ⟨_, (f_alloc (cs := ((⟨0, 0⟩ : S_agg_wide) : S_agg_wide).cells.toArray) Tryz.zeroValue123 rfl H), ?_⟩;rintro _ h81 ⟨a82, rfl, H⟩;refine ⟨trivial, ?_⟩;refine g_e 6 255 [] (by kernel_rfl) rfl (by kernel_rfl) (e_call Tryz.call78 rfl (F.xbw_ok H)) rfl rfl ?_;rintro _ h83 ⟨r84, rfl, H⟩;refine ⟨trivial, ?_⟩;refine g_e 8 511 [] (by kernel_rfl) rfl (by kernel_rfl) (f_store (vs := r84.cells) Tryz.sizeOf123 rfl rfl cellsOfStruct rfl (by intro v hv; exact ones_S_agg_wide _ v hv) H) rfl rfl ?_;rintro _ h85 ⟨rfl, H⟩;refine ⟨trivial, ?_⟩;refine g_d (by kernel_rfl) (tr_thenN ?_);exact tr_join [(1, (.pointer (some a2))), (3, (.pointer (some a82)))] ⟨rfl, rfl, trivial⟩ ⟨_, _, rfl, H⟩
      ·replace H := H.2;refine ⟨_, (f_alloc (cs := ((⟨0, 0⟩ : S_agg_wide) : S_agg_wide).cells.toArray) Tryz.zeroValue123 rfl H), ?_⟩;rintro _ h86 ⟨a87, rfl, H⟩;obtain ⟨k88, H⟩ := H;refine ⟨And.intro k88 trivial, ?_⟩;refine g_e 5 191 [] (by kernel_rfl) rfl (by kernel_rfl) (e_call Tryz.call77 rfl (F.xaw_ok H)) rfl rfl ?_;rintro _ h89 ⟨r90, rfl, H⟩;refine ⟨trivial, ?_⟩;refine g_e 6 255 [] (by kernel_rfl) rfl (by kernel_rfl) (e_call Tryz.call78 rfl (F.xbw_ok H)) rfl rfl ?_;rintro _ h91 ⟨r92, rfl, H⟩;refine ⟨trivial, ?_⟩;refine g_e 8 511 [] (by kernel_rfl) rfl (by kernel_rfl) (f_store (vs := r92.cells) Tryz.sizeOf123 rfl rfl cellsOfStruct rfl (by intro v hv; exact ones_S_agg_wide _ v hv) H) rfl rfl ?_;rintro _ h93 ⟨rfl, H⟩;refine ⟨trivial, ?_⟩;refine g_d (by kernel_rfl) (tr_thenN ?_);exact tr_join [(1, (.pointer (some a2))), (3, (.pointer (some a87)))] ⟨rfl, rfl, trivial⟩ ⟨_, _, rfl, H⟩
     ·replace H := H.2;refine ⟨_, (f_alloc (cs := ((⟨0, 0⟩ : S_agg_wide) : S_agg_wide).cells.toArray) Tryz.zeroValue123 rfl H), ?_⟩;rintro _ h94 ⟨a95, rfl, H⟩;obtain ⟨k96, k97, H⟩ := H;refine ⟨And.intro k96 (And.intro k97 trivial), ?_⟩;refine g_e 2 159 [(4, fun h => cellH h (a2.add 3) = some (.int .i64 y69))] (by kernel_rfl) rfl (by kernel_rfl) (e_call Tryz.call77 rfl (F.xaw_ok H)) rfl rfl ?_;rintro _ h98 ⟨r99, rfl, H⟩;obtain ⟨k100, H⟩ := H;refine ⟨And.intro k100 trivial, ?_⟩;refine g_e 5 191 [] (by kernel_rfl) rfl (by kernel_rfl) (e_call Tryz.call77 rfl (F.xaw_ok H)) rfl rfl ?_;rintro _ h101 ⟨r102, rfl, H⟩;refine ⟨trivial, ?_⟩;refine g_e 6 255 [] (by kernel_rfl) rfl (by kernel_rfl) (e_call Tryz.call78 rfl (F.xbw_ok H)) rfl rfl ?_;rintro _ h103 ⟨r104, rfl, H⟩;refine ⟨trivial, ?_⟩;refine g_e 8 511 [] (by kernel_rfl) rfl (by kernel_rfl) (f_store (vs := r104.cells) Tryz.sizeOf123 rfl rfl cellsOfStruct rfl (by intro v hv; exact ones_S_agg_wide _ v hv) H) rfl rfl ?_;rintro _ h105 ⟨rfl, H⟩;refine ⟨trivial, ?_⟩;refine g_d (by kernel_rfl) (tr_thenN ?_);exact tr_join [(1, (.pointer (some a2))), (3, (.pointer (some a95)))] ⟨rfl, rfl, trivial⟩ ⟨_, _, rfl, H⟩
def F.xai.j3 (Q : Int -> H -> Prop) (x0 : Option Addr) (x1 : Int) (x5 : Addr) (x9 : Option Addr) (x11 : Bool) (h : H) : Prop :=
  ld_S_api_Agg h (x5.add 3) fun y31 =>
  F.xdq x9 x1 y31 h fun r34 r35 h33 =>
  nn x0 fun a36 =>
  ldI .i64 h33 ((a36.add 0).add 0) fun y38 =>
  nn x0 fun a40 =>
  stH h33 ((a40.add 0).add 0) [(.int .i64 (IntKind.wrap .i64 (y38 + r34)))] fun h42 =>
  ((!x11) = true ->
  nn x0 fun a44 =>
  ldI .i64 h42 ((a44.add 0).add 0) fun y46 =>
  nn x0 fun a48 =>
  stH h42 ((a48.add 0).add 0) [(.int .i64 (IntKind.wrap .i64 (y46 + 1)))] fun h50 =>
  nn x0 fun a51 =>
  ldI .i64 h50 ((a51.add 0).add 1) fun y53 =>
  nn x0 fun a55 =>
  stH h50 ((a55.add 0).add 1) [(.int .i64 (IntKind.wrap .i64 (y53 + 1)))] fun h57 =>
  Q 0 h57) ∧
  ((!x11) = false ->
  Q 0 h42)
def F.xai.j2 (Q : Int -> H -> Prop) (x0 : Option Addr) (x1 : Int) (x5 : Addr) (x7 : ByteArray) (x9 : Option Addr) (x10 : Bool) (x11 : Bool) (h : H) : Prop :=
  nn x0 fun a16 =>
  ldI .i64 h ((a16.add 0).add 0) fun y18 =>
  ld_S_api_Cell h (x5.add 0) fun y20 =>
  nn x0 fun a22 =>
  ldI .i64 h ((a22.add 0).add 2) fun y24 =>
  F.xbe x0 x1 y20 h fun r27 h26 =>
  cellH h26 ((a22.add 0).add 2) = some (.int .i64 y24) ∧
  cellH h26 ((a16.add 0).add 0) = some (.int .i64 y18) ∧
  ((decide ((IntKind.wrap .i64 (y18 + r27)) > y24)) = true ->
  Q 31 h26) ∧
  ((decide ((IntKind.wrap .i64 (y18 + r27)) > y24)) = false ->
  ((!x10) = true ->
  F.xdd  h26 fun r60 h59 =>
  nn x0 fun a61 =>
  ldP h59 (a61.add 3) fun y63 =>
  F.xcc y63 x7 r60 h59 fun h65 =>
  F.xai.j3 Q x0 x1 x5 r60 x11 h65) ∧
  ((!x10) = false ->
  F.xai.j3 Q x0 x1 x5 x9 x11 h26))
def F.xai.j1 (Q : Int -> H -> Prop) (x0 : Option Addr) (x1 : Int) (x5 : Addr) (x7 : ByteArray) (h : H) : Prop :=
  nn x0 fun a9 =>
  ldP h (a9.add 3) fun y11 =>
  F.xcv y11 x7 h fun r14 r15 h13 =>
  (r15 = true ->
  F.xcg r14 h13 fun r68 r69 r70 h67 =>
  ((decide (r69 > x1)) = true ->
  Q 32 h67) ∧
  ((decide (r69 > x1)) = false ->
  F.xai.j2 Q x0 x1 x5 x7 r14 r15 r70 h67)) ∧
  (r15 = false ->
  F.xai.j2 Q x0 x1 x5 x7 r14 r15 false h13)
def F.xai.j4 (Q : Int -> H -> Prop) (x0 : Option Addr) (x1 : Int) (x5 : Addr) (x7 : ByteArray) (x41 : Bool) (h : H) : Prop :=
  (x41 = true ->
  Q 1 h) ∧
  (x41 = false ->
  F.xai.j1 Q x0 x1 x5 x7 h)
def F.xai (p0 : Option Addr) (p1 : Int) (p2 : S_api_Row) (h : H) (Q : Int -> H -> Prop) : Prop :=
  new h p2.cells.toArray ty_51 fun a2 h1 =>
  ld_S_api_Cell h1 (a2.add 0) fun y3 =>
  F.xak y3 h1 fun r6 r7 h5 =>
  (((r7 != 0)) = true ->
  Q r7 h5) ∧
  (((r7 != 0)) = false ->
  ((decide (p1 < 1)) = true ->
  F.xai.j4 Q p0 p1 a2 r6 true h5) ∧
  ((decide (p1 < 1)) = false ->
  ((decide (p1 > 1099511627776)) = true ->
  F.xai.j4 Q p0 p1 a2 r6 true h5) ∧
  ((decide (p1 > 1099511627776)) = false ->
  ldI .i64 h5 ((a2.add 3).add 0) fun y75 =>
  (((y75 == 0)) = true ->
  F.xai.j4 Q p0 p1 a2 r6 true h5) ∧
  (((y75 == 0)) = false ->
  ld_S_api_Agg h5 (a2.add 3) fun y78 =>
  F.xbt y78 h5 fun r81 h80 =>
  F.xai.j4 Q p0 p1 a2 r6 (!r81) h80))))
theorem F.xai_ok {p0 : Option Addr} {p1 : Int} {p2 : S_api_Row} {h : H} {Q : Int -> H -> Prop} (H : F.xai p0 p1 p2 h Q) : Fn PP 16 ([(.pointer p0), (.int .i64 p1), (.agg p2.cells.toArray)] : List Value).toArray h fun r h' => ∃ r0, r = (.int .i64 r0) ∧ Q r0 h' := by
 unfold F.xai at H;refine fn_of Tryz.func16 Tryz.ntmps16 rfl rfl fun w0 => (tr_sub [(0, (.pointer p0)), (1, (.int .i64 p1)), (2, (.agg p2.cells.toArray))] ⟨rfl, rfl, rfl, trivial⟩ (tr_seq (tr_region (tr_e (f_box (cs := p2.cells.toArray) rfl rfl H) rfl rfl ?_))));rintro _ h1 ⟨a2, rfl, H⟩;refine tq (y_assign rfl) (tr_nil (tr_thenN (tr_seq (tr_region (tq (y_fa (off := 0) Tryz.runUnderlying51 fo_51_0 rfl) ?_)))));obtain ⟨y3, k4, H⟩ := H;refine tr_h (y_ldS Tryz.isAgg32 Tryz.sizeOf32 rfl rfl) k4 rfl rfl (tr_e (e_call Tryz.call39 rfl (F.xak_ok H)) rfl rfl ?_);rintro _ h5 ⟨r6, r7, rfl, H⟩;refine tq (y_move rfl) (tq (y_ext rfl rfl) (tq (y_ext rfl rfl) (tq (y_assign rfl) (tq (y_assign rfl) (tr_nil (tr_thenN (tr_seq (tr_seq (tr_region (tq (y_move rfl) (tq (y_neq rfl rfl) (tr_nil (tr_thenN ?_)))))))))))));refine tr_cond rfl (fun g8 => ?_) (fun g8 => ?_)
 ·replace H := H.1 g8;refine tr_seq (tr_region (tq (y_move rfl) (tq (y_assign rfl) (tr_nil (tr_thenN (tr_ret (tr_thenR ?_)))))));exact tr_ret1 rfl rfl ⟨_, rfl, H⟩
 ·replace H := H.2 g8;refine tr_skip (tr_thenN ?_);refine tr_seq_j (fun L' h => ∃ (x0 : Option Addr) (x1 : Int) (x5 : Addr) (x7 : ByteArray), L' = [(0, (.pointer x0)), (1, (.int .i64 x1)), (5, (.pointer (some x5))), (7, (.string x7))] ∧ F.xai.j1 Q x0 x1 x5 x7 h) ?_ ?_
  ·rintro L' h ⟨x0, x1, x5, x7, rfl, H⟩;unfold F.xai.j1 at H;refine tr_seq (tr_region (tq (y_move rfl) ?_));obtain ⟨a9, e10, H⟩ := H;refine tq (f_nn rfl e10) (tq (y_fa (off := 3) Tryz.runUnderlying46 fo_46_1 rfl) ?_);obtain ⟨y11, k12, H⟩ := H;refine tr_h (y_ld Tryz.isAgg44 rfl) k12 rfl rfl (tq (y_move rfl) (tr_e (e_call Tryz.call41 rfl (F.xcv_ok H)) rfl rfl ?_));rintro _ h13 ⟨r14, r15, rfl, H⟩;refine tq (y_move rfl) (tq (y_ext rfl rfl) (tq (y_ext rfl rfl) (tq (y_assign rfl) (tq (y_assign rfl) (tr_nil (tr_thenN (tr_seq (tr_region (tq (y_assign rfl) (tr_nil (tr_thenN ?_)))))))))));refine tr_seq_j (fun L' h => ∃ (x0 : Option Addr) (x1 : Int) (x5 : Addr) (x7 : ByteArray) (x9 : Option Addr) (x10 : Bool) (x11 : Bool), L' = [(0, (.pointer x0)), (1, (.int .i64 x1)), (5, (.pointer (some x5))), (7, (.string x7)), (9, (.pointer x9)), (10, (.bool x10)), (11, (.bool x11))] ∧ F.xai.j2 Q x0 x1 x5 x7 x9 x10 x11 h) ?_ ?_
   ·rintro L' h ⟨x0, x1, x5, x7, x9, x10, x11, rfl, H⟩;unfold F.xai.j2 at H;refine tr_seq (tr_seq (tr_draw mixed [0, 1, 3, 7, 15, 0, 0, 0, 128, 480, 1023, 0, 2048, 6144, 14336, 30720, 65535] (by kernel_rfl) (g_p 0 1 rfl (by kernel_rfl) (y_move rfl) rfl rfl ?_)));obtain ⟨a16, e17, H⟩ := H;refine g_p 1 3 rfl (by kernel_rfl) (f_nn rfl e17) rfl rfl (g_p 2 7 rfl (by kernel_rfl) (y_fa (off := 0) Tryz.runUnderlying46 fo_46_0 rfl) rfl rfl (g_p 3 15 rfl (by kernel_rfl) (y_fa (off := 0) Tryz.runUnderlying43 fo_43_0 rfl) rfl rfl ?_));obtain ⟨y18, k19, H⟩ := H;refine g_h 4 31 rfl (by kernel_rfl) (y_ld Tryz.isAgg3 rfl) k19 rfl rfl (g_p 5 63 rfl (by kernel_rfl) (y_move rfl) rfl rfl (g_p 6 127 rfl (by kernel_rfl) (y_move rfl) rfl rfl (g_p 7 255 rfl (by kernel_rfl) (y_fa (off := 0) Tryz.runUnderlying51 fo_51_0 rfl) rfl rfl ?_)));obtain ⟨y20, k21, H⟩ := H;refine g_h 8 511 rfl (by kernel_rfl) (y_ldS Tryz.isAgg32 Tryz.sizeOf32 rfl rfl) k21 rfl rfl (g_p 11 2559 rfl (by kernel_rfl) (y_move rfl) rfl rfl ?_);obtain ⟨a22, e23, H⟩ := H;refine g_p 12 6655 rfl (by kernel_rfl) (f_nn rfl e23) rfl rfl (g_p 13 14847 rfl (by kernel_rfl) (y_fa (off := 0) Tryz.runUnderlying46 fo_46_0 rfl) rfl rfl (g_p 14 31231 rfl (by kernel_rfl) (y_fa (off := 2) Tryz.runUnderlying43 fo_43_2 rfl) rfl rfl ?_));obtain ⟨y24, k25, H⟩ := H;refine g_h 15 63999 rfl (by kernel_rfl) (y_ld Tryz.isAgg3 rfl) k25 rfl rfl (g_e 9 64511 [(15, fun h => cellH h ((a22.add 0).add 2) = some (.int .i64 y24)), (4, fun h => cellH h ((a16.add 0).add 0) = some (.int .i64 y18))] (by kernel_rfl) rfl (by kernel_rfl) (e_call Tryz.call38 rfl (F.xbe_ok H)) rfl rfl ?_);rintro _ h26 ⟨r27, rfl, H⟩;obtain ⟨k28, k29, H⟩ := H;refine ⟨And.intro k28 (And.intro k29 trivial), ?_⟩;refine g_p 10 65535 rfl (by kernel_rfl) (y_add rfl rfl) rfl rfl (g_p 16 131071 rfl (by kernel_rfl) (y_gtr rfl rfl) rfl rfl (g_d (by kernel_rfl) (tr_thenN ?_)));refine tr_cond rfl (fun g30 => ?_) (fun g30 => ?_)
    ·replace H := H.1 g30;refine tr_seq (tr_region (tq (y_assign rfl) (tr_nil (tr_thenN (tr_ret (tr_thenR ?_))))));exact tr_ret1 rfl rfl ⟨_, rfl, H⟩
    ·replace H := H.2 g30;refine tr_skip (tr_thenN ?_);refine tr_seq_j (fun L' h => ∃ (x0 : Option Addr) (x1 : Int) (x5 : Addr) (x9 : Option Addr) (x11 : Bool), L' = [(0, (.pointer x0)), (1, (.int .i64 x1)), (5, (.pointer (some x5))), (9, (.pointer x9)), (11, (.bool x11))] ∧ F.xai.j3 Q x0 x1 x5 x9 x11 h) ?_ ?_
     ·rintro L' h ⟨x0, x1, x5, x9, x11, rfl, H⟩;unfold F.xai.j3 at H;refine tr_seq (tr_region (tq (y_move rfl) (tq (y_move rfl) (tq (y_fa (off := 3) Tryz.runUnderlying51 fo_51_1 rfl) ?_))));obtain ⟨y31, k32, H⟩ := H;refine tr_h (y_ldS Tryz.isAgg34 Tryz.sizeOf34 rfl rfl) k32 rfl rfl (tr_e (e_call Tryz.call45 rfl (F.xdq_ok H)) rfl rfl ?_);rintro _ h33 ⟨r34, r35, rfl, H⟩;refine tq (y_move rfl) (tq (y_ext rfl rfl) (tq (y_ext rfl rfl) (tq (y_assign rfl) (tq (y_assign rfl) (tr_nil (tr_thenN (tr_seq (tr_region (tq (y_move rfl) ?_)))))))));obtain ⟨a36, e37, H⟩ := H;refine tq (f_nn rfl e37) (tq (y_fa (off := 0) Tryz.runUnderlying46 fo_46_0 rfl) (tq (y_fa (off := 0) Tryz.runUnderlying43 fo_43_0 rfl) ?_));obtain ⟨y38, k39, H⟩ := H;refine tr_h (y_ld Tryz.isAgg3 rfl) k39 rfl rfl (tq (y_move rfl) (tq (y_add rfl rfl) ?_));obtain ⟨a40, e41, H⟩ := H;refine tq (f_nn rfl e41) (tq (y_fa (off := 0) Tryz.runUnderlying46 fo_46_0 rfl) (tq (y_fa (off := 0) Tryz.runUnderlying43 fo_43_0 rfl) (tr_e (f_store (vs := [(.int .i64 (IntKind.wrap .i64 (y38 + r34)))]) Tryz.sizeOf3 rfl rfl rfl rfl (one1 rfl) H) rfl rfl ?_)));rintro _ h42 ⟨rfl, H⟩;refine tr_nil (tr_thenN (tr_seq (tr_seq (tr_region (tq (y_move rfl) (tq (y_not rfl) (tr_nil (tr_thenN ?_))))))));refine tr_cond rfl (fun g43 => ?_) (fun g43 => ?_)
      ·replace H := H.1 g43;refine tr_seq (tr_region (tq (y_move rfl) ?_));obtain ⟨a44, e45, H⟩ := H;refine tq (f_nn rfl e45) (tq (y_fa (off := 0) Tryz.runUnderlying46 fo_46_0 rfl) (tq (y_fa (off := 0) Tryz.runUnderlying43 fo_43_0 rfl) ?_));obtain ⟨y46, k47, H⟩ := H;refine tr_h (y_ld Tryz.isAgg3 rfl) k47 rfl rfl (tq (y_add rfl rfl) ?_);obtain ⟨a48, e49, H⟩ := H;refine tq (f_nn rfl e49) (tq (y_fa (off := 0) Tryz.runUnderlying46 fo_46_0 rfl) (tq (y_fa (off := 0) Tryz.runUnderlying43 fo_43_0 rfl) (tr_e (f_store (vs := [(.int .i64 (IntKind.wrap .i64 (y46 + 1)))]) Tryz.sizeOf3 rfl rfl rfl rfl (one1 rfl) H) rfl rfl ?_)));rintro _ h50 ⟨rfl, H⟩;refine tr_nil (tr_thenN (tr_region (tq (y_move rfl) ?_)));obtain ⟨a51, e52, H⟩ := H;refine tq (f_nn rfl e52) (tq (y_fa (off := 0) Tryz.runUnderlying46 fo_46_0 rfl) (tq (y_fa (off := 1) Tryz.runUnderlying43 fo_43_1 rfl) ?_));obtain ⟨y53, k54, H⟩ := H;refine tr_h (y_ld Tryz.isAgg3 rfl) k54 rfl rfl (tq (y_add rfl rfl) ?_);obtain ⟨a55, e56, H⟩ := H;refine tq (f_nn rfl e56) (tq (y_fa (off := 0) Tryz.runUnderlying46 fo_46_0 rfl) (tq (y_fa (off := 1) Tryz.runUnderlying43 fo_43_1 rfl) (tr_e (f_store (vs := [(.int .i64 (IntKind.wrap .i64 (y53 + 1)))]) Tryz.sizeOf3 rfl rfl rfl rfl (one1 rfl) H) rfl rfl ?_)));rintro _ h57 ⟨rfl, H⟩;refine tr_nil (tr_thenN (tr_seq (tr_region (tq (y_assign rfl) (tr_nil (tr_thenN (tr_ret ?_)))))));exact tr_ret1 rfl rfl ⟨_, rfl, H⟩
      ·replace H := H.2 g43;refine tr_skip (tr_thenN (tr_seq (tr_region (tq (y_assign rfl) (tr_nil (tr_thenN (tr_ret ?_)))))));exact tr_ret1 rfl rfl ⟨_, rfl, H⟩
     ·refine tr_seq (tr_region (tq (y_move rfl) (tq (y_not rfl) (tr_nil (tr_thenN ?_)))));refine tr_cond rfl (fun g58 => ?_) (fun g58 => ?_)
      ·replace H := H.1 g58;refine tr_seq (tr_region (tr_e (e_call Tryz.call43 rfl (F.xdd_ok H)) rfl rfl ?_));rintro _ h59 ⟨r60, rfl, H⟩;refine tq (y_assign rfl) (tr_nil (tr_thenN (tr_region (tq (y_move rfl) ?_))));obtain ⟨a61, e62, H⟩ := H;refine tq (f_nn rfl e62) (tq (y_fa (off := 3) Tryz.runUnderlying46 fo_46_1 rfl) ?_);obtain ⟨y63, k64, H⟩ := H;refine tr_h (y_ld Tryz.isAgg44 rfl) k64 rfl rfl (tq (y_move rfl) (tq (y_move rfl) (tr_e (e_call Tryz.call44 rfl (F.xcc_ok H)) rfl rfl ?_)));rintro _ h65 ⟨rfl, H⟩;refine tr_nil (tr_thenN ?_);exact tr_join [(0, (.pointer x0)), (1, (.int .i64 x1)), (5, (.pointer (some x5))), (9, (.pointer r60)), (11, (.bool x11))] ⟨rfl, rfl, rfl, rfl, rfl, trivial⟩ ⟨_, _, _, _, _, rfl, H⟩
      ·replace H := H.2 g58;refine tr_skip (tr_thenN ?_);exact tr_join [(0, (.pointer x0)), (1, (.int .i64 x1)), (5, (.pointer (some x5))), (9, (.pointer x9)), (11, (.bool x11))] ⟨rfl, rfl, rfl, rfl, rfl, trivial⟩ ⟨_, _, _, _, _, rfl, H⟩
   ·refine tr_seq (tr_region (tq (y_move rfl) (tr_nil (tr_thenN ?_))));refine tr_cond rfl (fun g66 => ?_) (fun g66 => ?_)
    ·replace H := H.1 g66;refine tr_seq (tr_region (tq (y_assign rfl) (tr_nil (tr_thenN (tr_seq (tr_region (tq (y_move rfl) (tr_e (e_call Tryz.call42 rfl (F.xcg_ok H)) rfl rfl ?_))))))));rintro _ h67 ⟨r68, r69, r70, rfl, H⟩;refine tq (y_move rfl) (tq (y_ext rfl rfl) (tq (y_ext rfl rfl) (tq (y_ext rfl rfl) (tq (y_assign rfl) (tq (y_assign rfl) (tr_nil (tr_thenN (tr_seq (tr_region (tq (y_move rfl) (tq (y_move rfl) (tq (y_gtr rfl rfl) (tr_nil ?_)))))))))))));refine tr_thenN ?_;refine tr_cond rfl (fun g71 => ?_) (fun g71 => ?_)
     ·replace H := H.1 g71;refine tr_seq (tr_region (tq (y_assign rfl) (tr_nil (tr_thenN (tr_ret (tr_thenR ?_))))));exact tr_ret1 rfl rfl ⟨_, rfl, H⟩
     ·replace H := H.2 g71;refine tr_skip (tr_thenN ?_);exact tr_join [(0, (.pointer x0)), (1, (.int .i64 x1)), (5, (.pointer (some x5))), (7, (.string x7)), (9, (.pointer r14)), (10, (.bool r15)), (11, (.bool r70))] ⟨rfl, rfl, rfl, rfl, rfl, rfl, rfl, trivial⟩ ⟨_, _, _, _, _, _, _, rfl, H⟩
    ·replace H := H.2 g66;refine tr_skip (tr_thenN ?_);exact tr_join [(0, (.pointer x0)), (1, (.int .i64 x1)), (5, (.pointer (some x5))), (7, (.string x7)), (9, (.pointer r14)), (10, (.bool r15)), (11, (.bool false))] ⟨rfl, rfl, rfl, rfl, rfl, rfl, rfl, trivial⟩ ⟨_, _, _, _, _, _, _, rfl, H⟩
  ·refine tr_seq_j (fun L' h => ∃ (x0 : Option Addr) (x1 : Int) (x5 : Addr) (x7 : ByteArray) (x41 : Bool), L' = [(0, (.pointer x0)), (1, (.int .i64 x1)), (5, (.pointer (some x5))), (7, (.string x7)), (41, (.bool x41))] ∧ F.xai.j4 Q x0 x1 x5 x7 x41 h) ?_ ?_
   ·rintro L' h ⟨x0, x1, x5, x7, x41, rfl, H⟩;unfold F.xai.j4 at H;refine tr_cond rfl (fun g72 => ?_) (fun g72 => ?_)
    ·replace H := H.1 g72;refine tr_seq (tr_region (tq (y_assign rfl) (tr_nil (tr_thenN (tr_ret (tr_thenR ?_))))));exact tr_ret1 rfl rfl ⟨_, rfl, H⟩
    ·replace H := H.2 g72;refine tr_skip (tr_thenN ?_);exact tr_join [(0, (.pointer x0)), (1, (.int .i64 x1)), (5, (.pointer (some x5))), (7, (.string x7))] ⟨rfl, rfl, rfl, rfl, trivial⟩ ⟨_, _, _, _, rfl, H⟩
   ·refine tr_region (tq (y_move rfl) (tq (y_lss rfl rfl) (tq (y_move rfl) ?_)));refine tr_split (t := 26) rfl (fun g73 => ?_) (fun g73 => ?_)
    ·replace H := H.1 g73;refine ts (ts (tq (y_pick_t rfl rfl) (tq (y_move rfl) (ts (ts (ts (ts (tq (y_pick_t rfl rfl) (tq (y_move rfl) (ts (ts (ts (ts ?_)))))))))))));refine tq (y_pick_t rfl rfl) (tr_nil (tr_thenN ?_));exact tr_join [(0, (.pointer p0)), (1, (.int .i64 p1)), (5, (.pointer (some a2))), (7, (.string r6)), (41, (.bool true))] ⟨rfl, rfl, rfl, rfl, rfl, trivial⟩ ⟨_, _, _, _, _, rfl, H⟩
    ·replace H := H.2 g73;refine tq (y_move rfl) (tq (y_gtr rfl rfl) (tq (y_pick_f rfl rfl) (tq (y_move rfl) ?_)));refine tr_split (t := 30) rfl (fun g74 => ?_) (fun g74 => ?_)
     ·replace H := H.1 g74;refine ts (ts (ts (ts (tq (y_pick_t rfl rfl) (tq (y_move rfl) (ts (ts (ts (ts (tq (y_pick_t rfl rfl) (tr_nil (tr_thenN ?_))))))))))));exact tr_join [(0, (.pointer p0)), (1, (.int .i64 p1)), (5, (.pointer (some a2))), (7, (.string r6)), (41, (.bool true))] ⟨rfl, rfl, rfl, rfl, rfl, trivial⟩ ⟨_, _, _, _, _, rfl, H⟩
     ·replace H := H.2 g74;refine tq (y_fa (off := 3) Tryz.runUnderlying51 fo_51_1 rfl) (tq (y_fa (off := 0) Tryz.runUnderlying34 fo_34_0 rfl) ?_);obtain ⟨y75, k76, H⟩ := H;refine tr_h (y_ld Tryz.isAgg2 rfl) k76 rfl rfl (tq (y_eql rfl rfl) (tq (y_pick_f rfl rfl) (tq (y_move rfl) ?_)));refine tr_split (t := 36) rfl (fun g77 => ?_) (fun g77 => ?_)
      ·replace H := H.1 g77;refine ts (ts (ts (ts (tq (y_pick_t rfl rfl) (tr_nil (tr_thenN ?_))))));exact tr_join [(0, (.pointer p0)), (1, (.int .i64 p1)), (5, (.pointer (some a2))), (7, (.string r6)), (41, (.bool true))] ⟨rfl, rfl, rfl, rfl, rfl, trivial⟩ ⟨_, _, _, _, _, rfl, H⟩
      ·replace H := H.2 g77;refine tq (y_fa (off := 3) Tryz.runUnderlying51 fo_51_1 rfl) ?_;obtain ⟨y78, k79, H⟩ := H;refine tr_h (y_ldS Tryz.isAgg34 Tryz.sizeOf34 rfl rfl) k79 rfl rfl (tr_e (e_call Tryz.call40 rfl (F.xbt_ok H)) rfl rfl ?_);rintro _ h80 ⟨r81, rfl, H⟩;refine tq (y_not rfl) (tq (y_pick_f rfl rfl) (tr_nil (tr_thenN ?_)));exact tr_join [(0, (.pointer p0)), (1, (.int .i64 p1)), (5, (.pointer (some a2))), (7, (.string r6)), (41, (.bool (!r81)))] ⟨rfl, rfl, rfl, rfl, rfl, trivial⟩ ⟨_, _, _, _, _, rfl, H⟩
def F.xda (p0 : Sl) (h : H) (Q : Sl -> H -> Prop) : Prop :=
  runL PP (Instr.makeSlice 23 (.int .i64 0) (.int .i64 (IntKind.wrap .i64 ((p0.len : Int) + 3)))) h fun s2 h1 =>
  runL PP (Builtin.append_ #[23, 23] 23 #[s2.enc, p0.enc]) h1 fun s4 h3 =>
  newL h3 (((⟨(-77), (⟨#[]⟩ : ByteArray), 0⟩ : S_api_Cell).cells).toArray) ty_32 1 fun s6 h5 =>
  runL PP (Builtin.append_ #[23, 23] 23 #[s4.enc, s6.enc]) h5 fun s8 h7 =>
  cutL s8 0 (p0.len : Int) 3 fun s10 =>
  Q s10 h7
theorem F.xda_ok {p0 : Sl} {h : H} {Q : Sl -> H -> Prop} (H : F.xda p0 h Q) : Fn PP 13 ([p0.enc] : List Value).toArray h fun r h' => ∃ r0, r = r0.enc ∧ Q r0 h' := by
 unfold F.xda at H;refine fn_of Tryz.func13 Tryz.ntmps13 rfl rfl fun w0 => (tr_sub [(0, p0.enc)] ⟨rfl, trivial⟩ (tr_seq (tr_region (tq (y_assign rfl) (tr_nil (tr_thenN (tr_seq (tr_region (tq (y_move rfl) (tq (y_len (ts := #[]) Tryz.runUnderlying23 (o := p0.ptr) (n := p0.len) (cap := p0.cap) rfl) (tq (y_add rfl rfl) (tr_e (f_make rfl rfl H) rfl rfl ?_))))))))))));rintro _ h1 ⟨s2, rfl, H⟩;refine tq (y_move rfl) (tr_e (f_app rfl H) rfl rfl ?_);rintro _ h3 ⟨s4, rfl, H⟩;refine tq (y_assign rfl) (tr_nil (tr_thenN (tr_seq (tr_region (tq (y_move rfl) (tq (f_build rfl (bd_32_0 (-77))) (tr_e (f_buildL (cs := ((⟨(-77), (⟨#[]⟩ : ByteArray), 0⟩ : S_api_Cell).cells).toArray) rfl rfl (bl_23_1_0 (⟨(-77), (⟨#[]⟩ : ByteArray), 0⟩ : S_api_Cell)) H) rfl rfl ?_)))))));rintro _ h5 ⟨s6, rfl, H⟩;refine tr_e (f_app rfl H) rfl rfl ?_;rintro _ h7 ⟨s8, rfl, H⟩;refine tq (y_move rfl) (tq (y_len (ts := #[]) Tryz.runUnderlying23 (o := p0.ptr) (n := p0.len) (cap := p0.cap) rfl) ?_);obtain ⟨s10, e9, H⟩ := H;refine tq (f_cutL (s := s8) none (some (.i64, (p0.len : Int))) Tryz.runUnderlying23 Tryz.sizeOf32 rfl rfl rfl e9) (tq (y_assign rfl) (tr_nil (tr_thenN (tr_ret ?_))));exact tr_ret1 rfl rfl ⟨_, rfl, H⟩
def F.xdj (p0 : Sl) (h : H) (Q : Sl -> H -> Prop) : Prop :=
  (p0.ptr.isNone = true ->
  Q (⟨none, 0, 0⟩ : Sl) h) ∧
  (p0.ptr.isNone = false ->
  newL h (([]).toArray) ty_32 0 fun s3 h2 =>
  runL PP (Builtin.append_ #[23, 23] 23 #[s3.enc, p0.enc]) h2 fun s5 h4 =>
  Q s5 h4)
theorem F.xdj_ok {p0 : Sl} {h : H} {Q : Sl -> H -> Prop} (H : F.xdj p0 h Q) : Fn PP 34 ([p0.enc] : List Value).toArray h fun r h' => ∃ r0, r = r0.enc ∧ Q r0 h' := by
 unfold F.xdj at H;refine fn_of Tryz.func34 Tryz.ntmps34 rfl rfl fun w0 => (tr_sub [(0, p0.enc)] ⟨rfl, trivial⟩ (tr_seq (tr_region (tq (y_assign rfl) (tr_nil (tr_thenN (tr_seq (tr_seq (tr_region (tq (y_move rfl) (tq (y_lnil_eql Tryz.runUnderlying23 (s := p0) rfl rfl) (tr_nil (tr_thenN ?_)))))))))))));refine tr_cond rfl (fun g1 => ?_) (fun g1 => ?_)
 ·replace H := H.1 g1;refine tr_seq (tr_region (tq (y_assign rfl) (tr_nil (tr_thenN (tr_ret (tr_thenR ?_))))));exact tr_ret1 rfl rfl ⟨_, rfl, H⟩
 ·replace H := H.2 g1;refine tr_skip (tr_thenN (tr_seq (tr_region (tr_e (f_buildL (cs := ([]).toArray) rfl rfl (bl_23_0_) H) rfl rfl ?_))));rintro _ h2 ⟨s3, rfl, H⟩;refine tq (y_move rfl) (tr_e (f_app rfl H) rfl rfl ?_);rintro _ h4 ⟨s5, rfl, H⟩;refine tq (y_assign rfl) (tr_nil (tr_thenN (tr_ret ?_)));exact tr_ret1 rfl rfl ⟨_, rfl, H⟩
def F.xbv (p0 : Int) (h : H) (Q : Bool -> H -> Prop) : Prop :=
  Q ((p0 != p0)) h
theorem F.xbv_ok {p0 : Int} {h : H} {Q : Bool -> H -> Prop} (H : F.xbv p0 h Q) : Fn PP 111 ([(.int .i64 p0)] : List Value).toArray h fun r h' => ∃ r0, r = (.bool r0) ∧ Q r0 h' := by
 unfold F.xbv at H;refine fn_of Tryz.func111 Tryz.ntmps111 rfl rfl fun w0 => (tr_sub [(0, (.int .i64 p0))] ⟨rfl, trivial⟩ (tr_seq (tr_region (tq (y_assign rfl) (tr_nil (tr_thenN (tr_seq (tr_region (tq (y_move rfl) (tq (y_move rfl) (tq (y_neq rfl rfl) (tq (y_assign rfl) (tr_nil ?_)))))))))))));refine tr_thenN (tr_ret ?_);exact tr_ret1 rfl rfl ⟨_, rfl, H⟩
def F.xcb (p0 : Int) (p1 : Int) (h : H) (Q : Int -> H -> Prop) : Prop :=
  F.xbv p0 h fun r2 h1 =>
  F.xbv p1 h1 fun r4 h3 =>
  (r2 = true ->
  (r4 = true ->
  Q 0 h3) ∧
  (r4 = false ->
  Q (-1) h3)) ∧
  (r2 = false ->
  (r4 = true ->
  Q 1 h3) ∧
  (r4 = false ->
  ((decide (p0 < p1)) = true ->
  Q (-1) h3) ∧
  ((decide (p0 < p1)) = false ->
  ((decide (p0 > p1)) = true ->
  Q 1 h3) ∧
  ((decide (p0 > p1)) = false ->
  Q 0 h3))))
theorem F.xcb_ok {p0 : Int} {p1 : Int} {h : H} {Q : Int -> H -> Prop} (H : F.xcb p0 p1 h Q) : Fn PP 73 ([(.int .i64 p0), (.int .i64 p1)] : List Value).toArray h fun r h' => ∃ r0, r = (.int .i64 r0) ∧ Q r0 h' := by
 unfold F.xcb at H;refine fn_of Tryz.func73 Tryz.ntmps73 rfl rfl fun w0 => (tr_sub [(0, (.int .i64 p0)), (1, (.int .i64 p1))] ⟨rfl, rfl, trivial⟩ (tr_seq (tr_region (tq (y_assign rfl) (tr_nil (tr_thenN (tr_seq (tr_region (tq (y_move rfl) (tr_e (e_call Tryz.call111 rfl (F.xbv_ok H)) rfl rfl ?_))))))))));rintro _ h1 ⟨r2, rfl, H⟩;refine tq (y_assign rfl) (tr_nil (tr_thenN (tr_seq (tr_region (tq (y_move rfl) (tr_e (e_call Tryz.call111 rfl (F.xbv_ok H)) rfl rfl ?_))))));rintro _ h3 ⟨r4, rfl, H⟩;refine tq (y_assign rfl) (tr_nil (tr_thenN (tr_seq (tr_seq (tr_region (tq (y_move rfl) (tr_nil (tr_thenN ?_))))))));refine tr_cond rfl (fun g5 => ?_) (fun g5 => ?_)
 ·replace H := H.1 g5;refine tr_seq (tr_seq (tr_region (tq (y_move rfl) (tr_nil (tr_thenN ?_)))));refine tr_cond rfl (fun g6 => ?_) (fun g6 => ?_)
  ·replace H := H.1 g6;refine tr_seq (tr_region (tq (y_assign rfl) (tr_nil (tr_thenN (tr_ret (tr_thenR (tr_thenR ?_)))))));exact tr_ret1 rfl rfl ⟨_, rfl, H⟩
  ·replace H := H.2 g6;refine tr_skip (tr_thenN (tr_seq (tr_region (tq (y_assign rfl) (tr_nil (tr_thenN (tr_ret (tr_thenR ?_))))))));exact tr_ret1 rfl rfl ⟨_, rfl, H⟩
 ·replace H := H.2 g5;refine tr_skip (tr_thenN (tr_seq (tr_seq (tr_region (tq (y_move rfl) (tr_nil (tr_thenN ?_)))))));refine tr_cond rfl (fun g7 => ?_) (fun g7 => ?_)
  ·replace H := H.1 g7;refine tr_seq (tr_region (tq (y_assign rfl) (tr_nil (tr_thenN (tr_ret (tr_thenR ?_))))));exact tr_ret1 rfl rfl ⟨_, rfl, H⟩
  ·replace H := H.2 g7;refine tr_skip (tr_thenN (tr_seq (tr_seq (tr_region (tq (y_move rfl) (tq (y_move rfl) (tq (y_lss rfl rfl) (tr_nil (tr_thenN ?_)))))))));refine tr_cond rfl (fun g8 => ?_) (fun g8 => ?_)
   ·replace H := H.1 g8;refine tr_seq (tr_region (tq (y_assign rfl) (tr_nil (tr_thenN (tr_ret (tr_thenR ?_))))));exact tr_ret1 rfl rfl ⟨_, rfl, H⟩
   ·replace H := H.2 g8;refine tr_skip (tr_thenN (tr_seq (tr_seq (tr_region (tq (y_move rfl) (tq (y_move rfl) (tq (y_gtr rfl rfl) (tr_nil (tr_thenN ?_)))))))));refine tr_cond rfl (fun g9 => ?_) (fun g9 => ?_)
    ·replace H := H.1 g9;refine tr_seq (tr_region (tq (y_assign rfl) (tr_nil (tr_thenN (tr_ret (tr_thenR ?_))))));exact tr_ret1 rfl rfl ⟨_, rfl, H⟩
    ·replace H := H.2 g9;refine tr_skip (tr_thenN (tr_seq (tr_region (tq (y_assign rfl) (tr_nil (tr_thenN (tr_ret ?_)))))));exact tr_ret1 rfl rfl ⟨_, rfl, H⟩
def F.xdx (p0 : ByteArray) (p1 : ByteArray) (h : H) (Q : Int -> H -> Prop) : Prop :=
  Q (cmpM p0 p1) h
theorem F.xdx_ok {p0 : ByteArray} {p1 : ByteArray} {h : H} {Q : Int -> H -> Prop} (H : F.xdx p0 p1 h Q) : Fn PP 112 ([(.string p0), (.string p1)] : List Value).toArray h fun r h' => ∃ r0, r = (.int .i64 r0) ∧ Q r0 h' := by
 unfold F.xdx at H;refine fn_of Tryz.func112 Tryz.ntmps112 rfl rfl fun w0 => (tr_sub [(0, (.string p0)), (1, (.string p1))] ⟨rfl, rfl, trivial⟩ (tr_seq (tr_region (tq (y_assign rfl) (tr_nil (tr_thenN (tr_seq (tr_region (tq (y_move rfl) (tq (y_move rfl) (tq (y_cmpS cmpS_132 rfl) (tq (y_assign rfl) (tr_nil ?_)))))))))))));refine tr_thenN (tr_ret ?_);exact tr_ret1 rfl rfl ⟨_, rfl, H⟩
def F.xdw (p0 : ByteArray) (p1 : ByteArray) (h : H) (Q : Int -> H -> Prop) : Prop :=
  F.xdx p0 p1 h fun r2 h1 =>
  Q r2 h1
theorem F.xdw_ok {p0 : ByteArray} {p1 : ByteArray} {h : H} {Q : Int -> H -> Prop} (H : F.xdw p0 p1 h Q) : Fn PP 74 ([(.string p0), (.string p1)] : List Value).toArray h fun r h' => ∃ r0, r = (.int .i64 r0) ∧ Q r0 h' := by
 unfold F.xdw at H;refine fn_of Tryz.func74 Tryz.ntmps74 rfl rfl fun w0 => (tr_sub [(0, (.string p0)), (1, (.string p1))] ⟨rfl, rfl, trivial⟩ (tr_seq (tr_region (tq (y_assign rfl) (tr_nil (tr_thenN (tr_seq (tr_region (tq (y_move rfl) (tq (y_move rfl) (tr_e (e_call Tryz.call112 rfl (F.xdx_ok H)) rfl rfl ?_)))))))))));rintro _ h1 ⟨r2, rfl, H⟩;refine tq (y_assign rfl) (tr_nil (tr_thenN (tr_ret ?_)));exact tr_ret1 rfl rfl ⟨_, rfl, H⟩
def F.xdc (p0 : Int) (h : H) (Q : Bool -> H -> Prop) : Prop :=
  Q ((p0 != p0)) h
theorem F.xdc_ok {p0 : Int} {h : H} {Q : Bool -> H -> Prop} (H : F.xdc p0 h Q) : Fn PP 113 ([(.int .i64 p0)] : List Value).toArray h fun r h' => ∃ r0, r = (.bool r0) ∧ Q r0 h' := by
 unfold F.xdc at H;refine fn_of Tryz.func113 Tryz.ntmps113 rfl rfl fun w0 => (tr_sub [(0, (.int .i64 p0))] ⟨rfl, trivial⟩ (tr_seq (tr_region (tq (y_assign rfl) (tr_nil (tr_thenN (tr_seq (tr_region (tq (y_move rfl) (tq (y_move rfl) (tq (y_neq rfl rfl) (tq (y_assign rfl) (tr_nil ?_)))))))))))));refine tr_thenN (tr_ret ?_);exact tr_ret1 rfl rfl ⟨_, rfl, H⟩
def F.xdo (p0 : Int) (p1 : Int) (h : H) (Q : Int -> H -> Prop) : Prop :=
  F.xdc p0 h fun r2 h1 =>
  F.xdc p1 h1 fun r4 h3 =>
  (r2 = true ->
  (r4 = true ->
  Q 0 h3) ∧
  (r4 = false ->
  Q (-1) h3)) ∧
  (r2 = false ->
  (r4 = true ->
  Q 1 h3) ∧
  (r4 = false ->
  ((decide (p0 < p1)) = true ->
  Q (-1) h3) ∧
  ((decide (p0 < p1)) = false ->
  ((decide (p0 > p1)) = true ->
  Q 1 h3) ∧
  ((decide (p0 > p1)) = false ->
  Q 0 h3))))
theorem F.xdo_ok {p0 : Int} {p1 : Int} {h : H} {Q : Int -> H -> Prop} (H : F.xdo p0 p1 h Q) : Fn PP 75 ([(.int .i64 p0), (.int .i64 p1)] : List Value).toArray h fun r h' => ∃ r0, r = (.int .i64 r0) ∧ Q r0 h' := by
 unfold F.xdo at H;refine fn_of Tryz.func75 Tryz.ntmps75 rfl rfl fun w0 => (tr_sub [(0, (.int .i64 p0)), (1, (.int .i64 p1))] ⟨rfl, rfl, trivial⟩ (tr_seq (tr_region (tq (y_assign rfl) (tr_nil (tr_thenN (tr_seq (tr_region (tq (y_move rfl) (tr_e (e_call Tryz.call113 rfl (F.xdc_ok H)) rfl rfl ?_))))))))));rintro _ h1 ⟨r2, rfl, H⟩;refine tq (y_assign rfl) (tr_nil (tr_thenN (tr_seq (tr_region (tq (y_move rfl) (tr_e (e_call Tryz.call113 rfl (F.xdc_ok H)) rfl rfl ?_))))));rintro _ h3 ⟨r4, rfl, H⟩;refine tq (y_assign rfl) (tr_nil (tr_thenN (tr_seq (tr_seq (tr_region (tq (y_move rfl) (tr_nil (tr_thenN ?_))))))));refine tr_cond rfl (fun g5 => ?_) (fun g5 => ?_)
 ·replace H := H.1 g5;refine tr_seq (tr_seq (tr_region (tq (y_move rfl) (tr_nil (tr_thenN ?_)))));refine tr_cond rfl (fun g6 => ?_) (fun g6 => ?_)
  ·replace H := H.1 g6;refine tr_seq (tr_region (tq (y_assign rfl) (tr_nil (tr_thenN (tr_ret (tr_thenR (tr_thenR ?_)))))));exact tr_ret1 rfl rfl ⟨_, rfl, H⟩
  ·replace H := H.2 g6;refine tr_skip (tr_thenN (tr_seq (tr_region (tq (y_assign rfl) (tr_nil (tr_thenN (tr_ret (tr_thenR ?_))))))));exact tr_ret1 rfl rfl ⟨_, rfl, H⟩
 ·replace H := H.2 g5;refine tr_skip (tr_thenN (tr_seq (tr_seq (tr_region (tq (y_move rfl) (tr_nil (tr_thenN ?_)))))));refine tr_cond rfl (fun g7 => ?_) (fun g7 => ?_)
  ·replace H := H.1 g7;refine tr_seq (tr_region (tq (y_assign rfl) (tr_nil (tr_thenN (tr_ret (tr_thenR ?_))))));exact tr_ret1 rfl rfl ⟨_, rfl, H⟩
  ·replace H := H.2 g7;refine tr_skip (tr_thenN (tr_seq (tr_seq (tr_region (tq (y_move rfl) (tq (y_move rfl) (tq (y_lss rfl rfl) (tr_nil (tr_thenN ?_)))))))));refine tr_cond rfl (fun g8 => ?_) (fun g8 => ?_)
   ·replace H := H.1 g8;refine tr_seq (tr_region (tq (y_assign rfl) (tr_nil (tr_thenN (tr_ret (tr_thenR ?_))))));exact tr_ret1 rfl rfl ⟨_, rfl, H⟩
   ·replace H := H.2 g8;refine tr_skip (tr_thenN (tr_seq (tr_seq (tr_region (tq (y_move rfl) (tq (y_move rfl) (tq (y_gtr rfl rfl) (tr_nil (tr_thenN ?_)))))))));refine tr_cond rfl (fun g9 => ?_) (fun g9 => ?_)
    ·replace H := H.1 g9;refine tr_seq (tr_region (tq (y_assign rfl) (tr_nil (tr_thenN (tr_ret (tr_thenR ?_))))));exact tr_ret1 rfl rfl ⟨_, rfl, H⟩
    ·replace H := H.2 g9;refine tr_skip (tr_thenN (tr_seq (tr_region (tq (y_assign rfl) (tr_nil (tr_thenN (tr_ret ?_)))))));exact tr_ret1 rfl rfl ⟨_, rfl, H⟩
def F.xby.l1 (Q : Int -> H -> Prop) : Nat -> Int -> Sl -> Int -> Int -> H -> Prop
  | 0, _, _, _, _, _ => False
  | q1 + 1, x3, x6, x7, x8, h =>
    ((decide (x8 < x7)) = true ->
    idxA x6 x8 1 fun a2 =>
    ldI .i64 h a2 fun y4 =>
    (((y4 != x3)) = true ->
    Q y4 h) ∧
    (((y4 != x3)) = false ->
    (F.xby.l1 Q q1) x3 x6 x7 (IntKind.wrap .i64 (x8 + 1)) h)) ∧
    ((decide (x8 < x7)) = false ->
    Q x3 h)
def F.xby (p0 : Sl) (h : H) (Q : Int -> H -> Prop) : Prop :=
  ∃ m, F.xby.l1 Q m 0 p0 (p0.len : Int) 0 h
theorem F.xby_ok {p0 : Sl} {h : H} {Q : Int -> H -> Prop} (H : F.xby p0 h Q) : Fn PP 72 ([p0.enc] : List Value).toArray h fun r h' => ∃ r0, r = (.int .i64 r0) ∧ Q r0 h' := by
 unfold F.xby at H;refine fn_of Tryz.func72 Tryz.ntmps72 rfl rfl fun w0 => (tr_sub [(0, p0.enc)] ⟨rfl, trivial⟩ (tr_seq (tr_region (tq (y_assign rfl) (tr_nil (tr_thenN (tr_seq (tr_region (tq (y_assign rfl) (tr_nil (tr_thenN (tr_seq (tr_seq ?_)))))))))))));refine tr_region (tq (y_move rfl) (tq (y_len (ts := #[]) Tryz.runUnderlying35 (o := p0.ptr) (n := p0.len) (cap := p0.cap) rfl) (tq (y_move rfl) (tr_nil (tr_thenN (tr_block ?_))))));obtain ⟨m7, H⟩ := H;refine tr_sub [(3, (.int .i64 0)), (6, p0.enc), (7, (.int .i64 (p0.len : Int))), (8, (.int .i64 0))] ⟨rfl, rfl, rfl, rfl, trivial⟩ ?_;refine tr_loop_j (fun m L' h => ∃ (x3 : Int) (x6 : Sl) (x7 : Int) (x8 : Int), L' = [(3, (.int .i64 x3)), (6, x6.enc), (7, (.int .i64 x7)), (8, (.int .i64 x8))] ∧ F.xby.l1 Q m x3 x6 x7 x8 h) ?_ ?_ m7 ⟨_, _, _, _, rfl, H⟩
 ·rintro L' h ⟨_, _, _, _, _, H⟩; exact H
 ·rintro q1 L' h ⟨x3, x6, x7, x8, rfl, H⟩;unfold F.xby.l1 at H;refine tr_seq (tr_region (tq (y_lss rfl rfl) (tr_nil (tr_thenN (tr_seq ?_)))));refine tr_cond rfl (fun g1 => ?_) (fun g1 => ?_)
  ·replace H := H.1 g1;refine tr_skip (tr_thenN (tr_seq (tr_block (tr_seq (tr_region ?_)))));obtain ⟨a2, e3, H⟩ := H;refine tq (f_idx (s := x6) Tryz.runUnderlying35 Tryz.sizeOf3 rfl rfl e3) ?_;obtain ⟨y4, k5, H⟩ := H;refine tr_h (y_ld Tryz.isAgg3 rfl) k5 rfl rfl (tq (y_assign rfl) (tr_nil (tr_thenN (tr_seq (tr_region (tq (y_move rfl) (tq (y_move rfl) (tq (y_neq rfl rfl) (tr_nil (tr_thenN ?_))))))))));refine tr_cond rfl (fun g6 => ?_) (fun g6 => ?_)
   ·replace H := H.1 g6;refine tr_seq (tr_region (tq (y_move rfl) (tq (y_assign rfl) (tr_nil (tr_thenN (tr_ret (tr_blockR (tr_thenR (tr_thenR (tr_blockR (tr_thenR ?_)))))))))));exact tr_ret1 rfl rfl ⟨_, rfl, H⟩
   ·replace H := H.2 g6;refine tr_skip (tr_blockN (tr_thenN (tr_region (tq (y_add rfl rfl) (tq (y_move rfl) (tr_nil (tr_thenN ?_)))))));exact tr_join [(3, (.int .i64 x3)), (6, x6.enc), (7, (.int .i64 x7)), (8, (.int .i64 (IntKind.wrap .i64 (x8 + 1))))] ⟨rfl, rfl, rfl, rfl, trivial⟩ ⟨_, _, _, _, rfl, H⟩
  ·replace H := H.2 g1;refine tr_exit (tr_thenE (tr_thenE (tr_hit (tr_thenN (tr_seq (tr_region (tq (y_move rfl) (tq (y_assign rfl) (tr_nil (tr_thenN (tr_ret ?_)))))))))));exact tr_ret1 rfl rfl ⟨_, rfl, H⟩
def F.xcq (p0 : S_api_Cell) (p1 : S_api_Cell) (h : H) (Q : Int -> H -> Prop) : Prop :=
  new h p0.cells.toArray ty_32 fun a2 h1 =>
  new h1 p1.cells.toArray ty_32 fun a4 h3 =>
  ldI .i64 h3 (a2.add 0) fun y5 =>
  ldI .i64 h3 (a4.add 0) fun y7 =>
  ldS h3 (a2.add 1) fun y9 =>
  ldS h3 (a4.add 1) fun y11 =>
  ldI .i64 h3 (a2.add 2) fun y13 =>
  ldI .i64 h3 (a4.add 2) fun y15 =>
  F.xcb y5 y7 h3 fun r18 h17 =>
  cellH h17 (a4.add 2) = some (.int .i64 y15) ∧
  cellH h17 (a2.add 2) = some (.int .i64 y13) ∧
  cellH h17 (a4.add 1) = some (.string y11) ∧
  cellH h17 (a2.add 1) = some (.string y9) ∧
  F.xdw y9 y11 h17 fun r24 h23 =>
  cellH h23 (a4.add 2) = some (.int .i64 y15) ∧
  cellH h23 (a2.add 2) = some (.int .i64 y13) ∧
  F.xdo y13 y15 h23 fun r28 h27 =>
  newL h27 #[(.int .i64 r18), (.int .i64 r24), (.int .i64 r28)] ty_3 3 fun s30 h29 =>
  F.xby s30 h29 fun r32 h31 =>
  Q r32 h31
theorem F.xcq_ok {p0 : S_api_Cell} {p1 : S_api_Cell} {h : H} {Q : Int -> H -> Prop} (H : F.xcq p0 p1 h Q) : Fn PP 36 ([(.agg p0.cells.toArray), (.agg p1.cells.toArray)] : List Value).toArray h fun r h' => ∃ r0, r = (.int .i64 r0) ∧ Q r0 h' := by
 unfold F.xcq at H;refine fn_of Tryz.func36 Tryz.ntmps36 rfl rfl fun w0 => (tr_sub [(0, (.agg p0.cells.toArray)), (1, (.agg p1.cells.toArray))] ⟨rfl, rfl, trivial⟩ (tr_seq (tr_region (tr_e (f_box (cs := p0.cells.toArray) rfl rfl H) rfl rfl ?_))));rintro _ h1 ⟨a2, rfl, H⟩;refine tr_e (f_box (cs := p1.cells.toArray) rfl rfl H) rfl rfl ?_;rintro _ h3 ⟨a4, rfl, H⟩;refine tq (y_assign rfl) (tr_nil (tr_thenN (tr_seq (tr_draw mixed [0, 1, 0, 4, 15, 0, 32, 0, 128, 511, 0, 1024, 0, 4096, 16383, 32767, 65535, 131071] (by kernel_rfl) (g_p 0 1 rfl (by kernel_rfl) (y_fa (off := 0) Tryz.runUnderlying32 fo_32_0 rfl) rfl rfl ?_)))));obtain ⟨y5, k6, H⟩ := H;refine g_h 1 3 rfl (by kernel_rfl) (y_ld Tryz.isAgg3 rfl) k6 rfl rfl (g_p 2 7 rfl (by kernel_rfl) (y_fa (off := 0) Tryz.runUnderlying32 fo_32_0 rfl) rfl rfl ?_);obtain ⟨y7, k8, H⟩ := H;refine g_h 3 15 rfl (by kernel_rfl) (y_ld Tryz.isAgg3 rfl) k8 rfl rfl (g_p 5 47 rfl (by kernel_rfl) (y_fa (off := 1) Tryz.runUnderlying32 fo_32_1 rfl) rfl rfl ?_);obtain ⟨y9, k10, H⟩ := H;refine g_h 6 111 rfl (by kernel_rfl) (y_ld Tryz.isAgg9 rfl) k10 rfl rfl (g_p 7 239 rfl (by kernel_rfl) (y_fa (off := 1) Tryz.runUnderlying32 fo_32_1 rfl) rfl rfl ?_);obtain ⟨y11, k12, H⟩ := H;refine g_h 8 495 rfl (by kernel_rfl) (y_ld Tryz.isAgg9 rfl) k12 rfl rfl (g_p 10 1519 rfl (by kernel_rfl) (y_fa (off := 2) Tryz.runUnderlying32 fo_32_2 rfl) rfl rfl ?_);obtain ⟨y13, k14, H⟩ := H;refine g_h 11 3567 rfl (by kernel_rfl) (y_ld Tryz.isAgg2 rfl) k14 rfl rfl (g_p 12 7663 rfl (by kernel_rfl) (y_fa (off := 2) Tryz.runUnderlying32 fo_32_2 rfl) rfl rfl ?_);obtain ⟨y15, k16, H⟩ := H;refine g_h 13 15855 rfl (by kernel_rfl) (y_ld Tryz.isAgg2 rfl) k16 rfl rfl (g_e 4 15871 [(13, fun h => cellH h (a4.add 2) = some (.int .i64 y15)), (11, fun h => cellH h (a2.add 2) = some (.int .i64 y13)), (8, fun h => cellH h (a4.add 1) = some (.string y11)), (6, fun h => cellH h (a2.add 1) = some (.string y9))] (by kernel_rfl) rfl (by kernel_rfl) (e_call Tryz.call73 rfl (F.xcb_ok H)) rfl rfl ?_);rintro _ h17 ⟨r18, rfl, H⟩;obtain ⟨k19, k20, k21, k22, H⟩ := H;refine ⟨And.intro k19 (And.intro k20 (And.intro k21 (And.intro k22 trivial))), ?_⟩;refine g_e 9 16383 [(13, fun h => cellH h (a4.add 2) = some (.int .i64 y15)), (11, fun h => cellH h (a2.add 2) = some (.int .i64 y13))] (by kernel_rfl) rfl (by kernel_rfl) (e_call Tryz.call74 rfl (F.xdw_ok H)) rfl rfl ?_;rintro _ h23 ⟨r24, rfl, H⟩;obtain ⟨k25, k26, H⟩ := H;refine ⟨And.intro k25 (And.intro k26 trivial), ?_⟩;refine g_e 14 32767 [] (by kernel_rfl) rfl (by kernel_rfl) (e_call Tryz.call75 rfl (F.xdo_ok H)) rfl rfl ?_;rintro _ h27 ⟨r28, rfl, H⟩;refine ⟨trivial, ?_⟩;refine g_e 15 65535 [] (by kernel_rfl) rfl (by kernel_rfl) (f_buildL (cs := #[(.int .i64 r18), (.int .i64 r24), (.int .i64 r28)]) rfl rfl (bl_35_3_0_1_2 r18 r24 r28) H) rfl rfl ?_;rintro _ h29 ⟨s30, rfl, H⟩;refine ⟨trivial, ?_⟩;refine g_e 16 131071 [] (by kernel_rfl) rfl (by kernel_rfl) (e_call Tryz.call72 rfl (F.xby_ok H)) rfl rfl ?_;rintro _ h31 ⟨r32, rfl, H⟩;refine ⟨trivial, ?_⟩;refine g_p 17 262143 rfl (by kernel_rfl) (y_assign rfl) rfl rfl (g_d (by kernel_rfl) (tr_thenN (tr_ret ?_)));exact tr_ret1 rfl rfl ⟨_, rfl, H⟩
def F.xao.j3 (Q : Sl -> H -> Prop) (C1 : Sl -> Int -> H -> Prop) (C2 : Sl -> Int -> Sl -> Int -> H -> Prop) (x0 : Sl) (x3 : Int) (x4 : Sl) (x5 : Int) (h : H) : Prop :=
  C2 x0 x3 x4 (IntKind.wrap .i64 (x5 + 1)) h
def F.xao.l2 (Q : Sl -> H -> Prop) (C1 : Sl -> Int -> H -> Prop) : Nat -> Sl -> Int -> Sl -> Int -> H -> Prop
  | 0, _, _, _, _, _ => False
  | q2 + 1, x0, x3, x4, x5, h =>
    ((decide (x5 < (x4.len : Int))) = true ->
    idxA x4 x5 3 fun a15 =>
    ld_S_api_Cell h a15 fun y17 =>
    idxA x4 (IntKind.wrap .i64 (x5 - 1)) 3 fun a19 =>
    ld_S_api_Cell h a19 fun y21 =>
    ((!((y17.View == y21.View) && ((y17.Key.toList == y21.Key.toList) && ((y17.Start == y21.Start) && true)))) = true ->
    idxA x4 x5 3 fun a24 =>
    ld_S_api_Cell h a24 fun y26 =>
    idxA x0 x3 3 fun a28 =>
    stH h a28 y26.cells fun h30 =>
    F.xao.j3 Q C1 (F.xao.l2 Q C1 q2) x0 (IntKind.wrap .i64 (x3 + 1)) x4 x5 h30) ∧
    ((!((y17.View == y21.View) && ((y17.Key.toList == y21.Key.toList) && ((y17.Start == y21.Start) && true)))) = false ->
    F.xao.j3 Q C1 (F.xao.l2 Q C1 q2) x0 x3 x4 x5 h)) ∧
    ((decide (x5 < (x4.len : Int))) = false ->
    cutL x0 x3 (x0.len : Int) 3 fun s32 =>
    RunS PP (Builtin.clear_ #[23] 0 #[s32.enc]) h fun u h33 => u = (.tuple #[]) ∧
    cutL x0 0 x3 3 fun s36 =>
    Q s36 h33)
def F.xao.l1 (Q : Sl -> H -> Prop) : Nat -> Sl -> Int -> H -> Prop
  | 0, _, _, _ => False
  | q1 + 1, x0, x3, h =>
    ((decide (x3 < (x0.len : Int))) = true ->
    idxA x0 x3 3 fun a3 =>
    ld_S_api_Cell h a3 fun y5 =>
    idxA x0 (IntKind.wrap .i64 (x3 - 1)) 3 fun a7 =>
    ld_S_api_Cell h a7 fun y9 =>
    (((y5.View == y9.View) && ((y5.Key.toList == y9.Key.toList) && ((y5.Start == y9.Start) && true))) = true ->
    cutL x0 x3 (x0.len : Int) 3 fun s13 =>
    ∃ m, F.xao.l2 Q (F.xao.l1 Q q1) m x0 x3 s13 1 h) ∧
    (((y5.View == y9.View) && ((y5.Key.toList == y9.Key.toList) && ((y5.Start == y9.Start) && true))) = false ->
    (F.xao.l1 Q q1) x0 (IntKind.wrap .i64 (x3 + 1)) h)) ∧
    ((decide (x3 < (x0.len : Int))) = false ->
    Q x0 h)
def F.xao (p0 : Sl) (h : H) (Q : Sl -> H -> Prop) : Prop :=
  ((decide ((p0.len : Int) < 2)) = true ->
  Q p0 h) ∧
  ((decide ((p0.len : Int) < 2)) = false ->
  ∃ m, F.xao.l1 Q m p0 1 h)
theorem F.xao_ok {p0 : Sl} {h : H} {Q : Sl -> H -> Prop} (H : F.xao p0 h Q) : Fn PP 37 ([p0.enc] : List Value).toArray h fun r h' => ∃ r0, r = r0.enc ∧ Q r0 h' := by
 unfold F.xao at H;refine fn_of Tryz.func37 Tryz.ntmps37 rfl rfl fun w0 => (tr_sub [(0, p0.enc)] ⟨rfl, trivial⟩ (tr_seq (tr_region (tq (y_assign rfl) (tr_nil (tr_thenN (tr_seq (tr_seq (tr_region (tq (y_move rfl) (tq (y_len (ts := #[]) Tryz.runUnderlying23 (o := p0.ptr) (n := p0.len) (cap := p0.cap) rfl) (tq (y_lss rfl rfl) (tr_nil ?_)))))))))))));refine tr_thenN ?_;refine tr_cond rfl (fun g1 => ?_) (fun g1 => ?_)
 ·replace H := H.1 g1;refine tr_seq (tr_region (tq (y_move rfl) (tq (y_assign rfl) (tr_nil (tr_thenN (tr_ret (tr_thenR ?_)))))));exact tr_ret1 rfl rfl ⟨_, rfl, H⟩
 ·replace H := H.2 g1;refine tr_skip (tr_thenN (tr_seq (tr_seq (tr_region (tq (y_assign rfl) (tr_nil (tr_thenN (tr_block ?_))))))));obtain ⟨m38, H⟩ := H;refine tr_sub [(0, p0.enc), (3, (.int .i64 1))] ⟨rfl, rfl, trivial⟩ ?_;refine tr_loop_j (fun m L' h => ∃ (x0 : Sl) (x3 : Int), L' = [(0, x0.enc), (3, (.int .i64 x3))] ∧ F.xao.l1 Q m x0 x3 h) ?_ ?_ m38 ⟨_, _, rfl, H⟩
  ·rintro L' h ⟨_, _, _, H⟩; exact H
  ·rintro q1 L' h ⟨x0, x3, rfl, H⟩;unfold F.xao.l1 at H;refine tr_seq (tr_seq (tr_region (tq (y_move rfl) (tq (y_move rfl) (tq (y_len (ts := #[]) Tryz.runUnderlying23 (o := x0.ptr) (n := x0.len) (cap := x0.cap) rfl) (tq (y_lss rfl rfl) (tr_nil (tr_thenN ?_))))))));refine tr_cond rfl (fun g2 => ?_) (fun g2 => ?_)
   ·replace H := H.1 g2;refine tr_skip (tr_thenN (tr_seq (tr_block (tr_seq (tr_draw mixed [0, 0, 3, 7, 0, 0, 32, 112, 240, 511] (by kernel_rfl) (g_p 0 1 rfl (by kernel_rfl) (y_move rfl) rfl rfl (g_p 1 3 rfl (by kernel_rfl) (y_move rfl) rfl rfl ?_)))))));obtain ⟨a3, e4, H⟩ := H;refine g_p 2 7 rfl (by kernel_rfl) (f_idx (s := x0) Tryz.runUnderlying23 Tryz.sizeOf32 rfl rfl e4) rfl rfl ?_;obtain ⟨y5, k6, H⟩ := H;refine g_h 3 15 rfl (by kernel_rfl) (y_ldS Tryz.isAgg32 Tryz.sizeOf32 rfl rfl) k6 rfl rfl (g_p 4 31 rfl (by kernel_rfl) (y_move rfl) rfl rfl (g_p 5 63 rfl (by kernel_rfl) (y_move rfl) rfl rfl (g_p 6 127 rfl (by kernel_rfl) (y_sub rfl rfl) rfl rfl ?_)));obtain ⟨a7, e8, H⟩ := H;refine g_p 7 255 rfl (by kernel_rfl) (f_idx (s := x0) Tryz.runUnderlying23 Tryz.sizeOf32 rfl rfl e8) rfl rfl ?_;obtain ⟨y9, k10, H⟩ := H;refine g_h 8 511 rfl (by kernel_rfl) (y_ldS Tryz.isAgg32 Tryz.sizeOf32 rfl rfl) k10 rfl rfl (g_p 9 1023 rfl (by kernel_rfl) (st_eql (b := ((y5.View == y9.View) && ((y5.Key.toList == y9.Key.toList) && ((y5.Start == y9.Start) && true)))) eqg_32 (fun w => eqst_32 y5 y9 9998 w) rfl rfl) rfl rfl (g_d (by kernel_rfl) (tr_thenN ?_)));refine tr_cond rfl (fun g11 => ?_) (fun g11 => ?_)
    ·replace H := H.1 g11;refine tr_seq (tr_region (tq (y_move rfl) (tq (y_move rfl) ?_)));obtain ⟨s13, e12, H⟩ := H;refine tq (f_cutL (s := x0) (some (.i64, x3)) none Tryz.runUnderlying23 Tryz.sizeOf32 rfl rfl rfl e12) (tq (y_assign rfl) (tr_nil (tr_thenN (tr_seq (tr_seq (tr_region (tq (y_assign rfl) (tr_nil (tr_thenN (tr_block ?_))))))))));obtain ⟨m37, H⟩ := H;refine tr_sub [(0, x0.enc), (3, (.int .i64 x3)), (4, s13.enc), (5, (.int .i64 1))] ⟨rfl, rfl, rfl, rfl, trivial⟩ ?_;refine tr_loop_j (fun m L' h => ∃ (x0 : Sl) (x3 : Int) (x4 : Sl) (x5 : Int), L' = [(0, x0.enc), (3, (.int .i64 x3)), (4, x4.enc), (5, (.int .i64 x5))] ∧ F.xao.l2 Q (F.xao.l1 Q q1) m x0 x3 x4 x5 h) ?_ ?_ m37 ⟨_, _, _, _, rfl, H⟩
     ·rintro L' h ⟨_, _, _, _, _, H⟩; exact H
     ·rintro q2 L' h ⟨x0, x3, x4, x5, rfl, H⟩;unfold F.xao.l2 at H;refine tr_seq (tr_seq (tr_region (tq (y_move rfl) (tq (y_move rfl) (tq (y_len (ts := #[]) Tryz.runUnderlying23 (o := x4.ptr) (n := x4.len) (cap := x4.cap) rfl) (tq (y_lss rfl rfl) (tr_nil (tr_thenN ?_))))))));refine tr_cond rfl (fun g14 => ?_) (fun g14 => ?_)
      ·replace H := H.1 g14;refine tr_skip (tr_thenN ?_);refine tr_seq_j (fun L' h => ∃ (x0 : Sl) (x3 : Int) (x4 : Sl) (x5 : Int), L' = [(0, x0.enc), (3, (.int .i64 x3)), (4, x4.enc), (5, (.int .i64 x5))] ∧ F.xao.j3 Q (F.xao.l1 Q q1) (F.xao.l2 Q (F.xao.l1 Q q1) q2) x0 x3 x4 x5 h) ?_ ?_
       ·rintro L' h ⟨x0, x3, x4, x5, rfl, H⟩;unfold F.xao.j3 at H;refine tr_region (tq (y_move rfl) (tq (y_add rfl rfl) (tq (y_assign rfl) (tr_nil (tr_thenN ?_)))));exact tr_join [(0, x0.enc), (3, (.int .i64 x3)), (4, x4.enc), (5, (.int .i64 (IntKind.wrap .i64 (x5 + 1))))] ⟨rfl, rfl, rfl, rfl, trivial⟩ ⟨_, _, _, _, rfl, H⟩
       ·refine tr_block (tr_seq (tr_draw mixed [0, 0, 3, 7, 0, 0, 32, 112, 240, 511] (by kernel_rfl) (g_p 0 1 rfl (by kernel_rfl) (y_move rfl) rfl rfl (g_p 1 3 rfl (by kernel_rfl) (y_move rfl) rfl rfl ?_))));obtain ⟨a15, e16, H⟩ := H;refine g_p 2 7 rfl (by kernel_rfl) (f_idx (s := x4) Tryz.runUnderlying23 Tryz.sizeOf32 rfl rfl e16) rfl rfl ?_;obtain ⟨y17, k18, H⟩ := H;refine g_h 3 15 rfl (by kernel_rfl) (y_ldS Tryz.isAgg32 Tryz.sizeOf32 rfl rfl) k18 rfl rfl (g_p 4 31 rfl (by kernel_rfl) (y_move rfl) rfl rfl (g_p 5 63 rfl (by kernel_rfl) (y_move rfl) rfl rfl (g_p 6 127 rfl (by kernel_rfl) (y_sub rfl rfl) rfl rfl ?_)));obtain ⟨a19, e20, H⟩ := H;refine g_p 7 255 rfl (by kernel_rfl) (f_idx (s := x4) Tryz.runUnderlying23 Tryz.sizeOf32 rfl rfl e20) rfl rfl ?_;obtain ⟨y21, k22, H⟩ := H;refine g_h 8 511 rfl (by kernel_rfl) (y_ldS Tryz.isAgg32 Tryz.sizeOf32 rfl rfl) k22 rfl rfl (g_p 9 1023 rfl (by kernel_rfl) (st_neq (b := ((y17.View == y21.View) && ((y17.Key.toList == y21.Key.toList) && ((y17.Start == y21.Start) && true)))) eqg_32 (fun w => eqst_32 y17 y21 9998 w) rfl rfl) rfl rfl (g_d (by kernel_rfl) (tr_thenN ?_)));refine tr_cond rfl (fun g23 => ?_) (fun g23 => ?_)
        ·replace H := H.1 g23;refine tr_seq (tr_region (tq (y_move rfl) (tq (y_move rfl) (tq (y_move rfl) (tq (y_move rfl) ?_)))));obtain ⟨a24, e25, H⟩ := H;refine tq (f_idx (s := x4) Tryz.runUnderlying23 Tryz.sizeOf32 rfl rfl e25) ?_;obtain ⟨y26, k27, H⟩ := H;refine tr_h (y_ldS Tryz.isAgg32 Tryz.sizeOf32 rfl rfl) k27 rfl rfl ?_;obtain ⟨a28, e29, H⟩ := H;refine tq (f_idx (s := x0) Tryz.runUnderlying23 Tryz.sizeOf32 rfl rfl e29) (tr_e (f_store (vs := y26.cells) Tryz.sizeOf32 rfl rfl cellsOfStruct rfl (by intro v hv; exact ones_S_api_Cell _ v hv) H) rfl rfl ?_);rintro _ h30 ⟨rfl, H⟩;refine tr_nil (tr_thenN (tr_region (tq (y_move rfl) (tq (y_add rfl rfl) (tq (y_assign rfl) (tr_nil (tr_blockN (tr_thenN ?_))))))));exact tr_join [(0, x0.enc), (3, (.int .i64 (IntKind.wrap .i64 (x3 + 1)))), (4, x4.enc), (5, (.int .i64 x5))] ⟨rfl, rfl, rfl, rfl, trivial⟩ ⟨_, _, _, _, rfl, H⟩
        ·replace H := H.2 g23;refine tr_skip (tr_blockN (tr_thenN ?_));exact tr_join [(0, x0.enc), (3, (.int .i64 x3)), (4, x4.enc), (5, (.int .i64 x5))] ⟨rfl, rfl, rfl, rfl, trivial⟩ ⟨_, _, _, _, rfl, H⟩
      ·replace H := H.2 g14;refine tr_exit (tr_thenE (tr_thenE (tr_hit (tr_thenN (tr_seq (tr_region (tq (y_move rfl) (tq (y_move rfl) ?_))))))));obtain ⟨s32, e31, H⟩ := H;refine tq (f_cutL (s := x0) (some (.i64, x3)) none Tryz.runUnderlying23 Tryz.sizeOf32 rfl rfl rfl e31) (tr_e (f_clear rfl H) rfl rfl ?_);rintro _ h33 ⟨rfl, H⟩;refine tr_nil (tr_thenN (tr_seq (tr_region (tq (y_move rfl) (tq (y_move rfl) ?_)))));obtain ⟨s36, e35, H⟩ := H;refine tq (f_cutL (s := x0) none (some (.i64, x3)) Tryz.runUnderlying23 Tryz.sizeOf32 rfl rfl rfl e35) (tq (y_assign rfl) (tr_nil (tr_thenN (tr_ret (tr_blockR (tr_thenR (tr_thenR (tr_blockR (tr_thenR ?_)))))))));exact tr_ret1 rfl rfl ⟨_, rfl, H⟩
    ·replace H := H.2 g11;refine tr_skip (tr_blockN (tr_thenN (tr_region (tq (y_move rfl) (tq (y_add rfl rfl) (tq (y_assign rfl) (tr_nil (tr_thenN ?_))))))));exact tr_join [(0, x0.enc), (3, (.int .i64 (IntKind.wrap .i64 (x3 + 1))))] ⟨rfl, rfl, trivial⟩ ⟨_, _, rfl, H⟩
   ·replace H := H.2 g2;refine tr_exit (tr_thenE (tr_thenE (tr_hit (tr_thenN (tr_seq (tr_region (tq (y_move rfl) (tq (y_assign rfl) (tr_nil (tr_thenN (tr_ret ?_)))))))))));exact tr_ret1 rfl rfl ⟨_, rfl, H⟩
def F.xbx.l1 (Q : Int -> H -> Prop) : Nat -> (Option Addr) -> Int -> Int -> Sl -> Int -> Int -> H -> Prop
  | 0, _, _, _, _, _, _, _ => False
  | q1 + 1, x0, x1, x8, x16, x17, x18, h =>
    ((decide (x18 < x17)) = true ->
    idxA x16 x18 3 fun a7 =>
    ld_S_api_Cell h a7 fun y9 =>
    new h (((⟨0, (⟨#[]⟩ : ByteArray), 0⟩ : S_api_Cell) : S_api_Cell).cells.toArray) ty_32 fun a12 h11 =>
    stH h11 a12 y9.cells fun h13 =>
    ld_S_api_Cell h13 a12 fun y14 =>
    F.xbe x0 x1 y14 h13 fun r17 h16 =>
    (F.xbx.l1 Q q1) x0 x1 (IntKind.wrap .i64 (x8 + r17)) x16 x17 (IntKind.wrap .i64 (x18 + 1)) h16) ∧
    ((decide (x18 < x17)) = false ->
    Q x8 h)
def F.xbx (p0 : Option Addr) (p1 : Int) (p2 : Sl) (h : H) (Q : Int -> H -> Prop) : Prop :=
  F.xdj p2 h fun r2 h1 =>
  Fn PP 35 [r2.enc, (.func (.func 36) #[] #[])].toArray h1 fun u h3 => u = (.tuple #[]) ∧
  F.xao r2 h3 fun r5 h4 =>
  ∃ m, F.xbx.l1 Q m p0 p1 0 r5 (r5.len : Int) 0 h4
theorem F.xbx_ok {p0 : Option Addr} {p1 : Int} {p2 : Sl} {h : H} {Q : Int -> H -> Prop} (H : F.xbx p0 p1 p2 h Q) : Fn PP 12 ([(.pointer p0), (.int .i64 p1), p2.enc] : List Value).toArray h fun r h' => ∃ r0, r = (.int .i64 r0) ∧ Q r0 h' := by
 unfold F.xbx at H;refine fn_of Tryz.func12 Tryz.ntmps12 rfl rfl fun w0 => (tr_sub [(0, (.pointer p0)), (1, (.int .i64 p1)), (2, p2.enc)] ⟨rfl, rfl, rfl, trivial⟩ (tr_seq (tr_region (tq (y_assign rfl) (tr_nil (tr_thenN (tr_seq (tr_region (tq (y_move rfl) (tr_e (e_call Tryz.call34 rfl (F.xdj_ok H)) rfl rfl ?_))))))))));rintro _ h1 ⟨r2, rfl, H⟩;refine tq (y_assign rfl) (tr_nil (tr_thenN (tr_seq (tr_region (tq (y_move rfl) (tr_e (e_call Tryz.call35 rfl H) rfl rfl ?_))))));rintro _ h3 ⟨rfl, H⟩;refine tr_nil (tr_thenN (tr_seq (tr_region (tq (y_assign rfl) (tr_nil (tr_thenN (tr_seq (tr_seq (tr_region (tq (y_move rfl) (tr_e (e_call Tryz.call37 rfl (F.xao_ok H)) rfl rfl ?_)))))))))));rintro _ h4 ⟨r5, rfl, H⟩;refine tq (y_len (ts := #[]) Tryz.runUnderlying23 (o := r5.ptr) (n := r5.len) (cap := r5.cap) rfl) (tq (y_move rfl) (tr_nil (tr_thenN (tr_block ?_))));obtain ⟨m18, H⟩ := H;refine tr_sub [(0, (.pointer p0)), (1, (.int .i64 p1)), (8, (.int .i64 0)), (16, r5.enc), (17, (.int .i64 (r5.len : Int))), (18, (.int .i64 0))] ⟨rfl, rfl, rfl, rfl, rfl, rfl, trivial⟩ ?_;refine tr_loop_j (fun m L' h => ∃ (x0 : Option Addr) (x1 : Int) (x8 : Int) (x16 : Sl) (x17 : Int) (x18 : Int), L' = [(0, (.pointer x0)), (1, (.int .i64 x1)), (8, (.int .i64 x8)), (16, x16.enc), (17, (.int .i64 x17)), (18, (.int .i64 x18))] ∧ F.xbx.l1 Q m x0 x1 x8 x16 x17 x18 h) ?_ ?_ m18 ⟨_, _, _, _, _, _, rfl, H⟩
 ·rintro L' h ⟨_, _, _, _, _, _, _, H⟩; exact H
 ·rintro q1 L' h ⟨x0, x1, x8, x16, x17, x18, rfl, H⟩;unfold F.xbx.l1 at H;refine tr_seq (tr_region (tq (y_lss rfl rfl) (tr_nil (tr_thenN (tr_seq ?_)))));refine tr_cond rfl (fun g6 => ?_) (fun g6 => ?_)
  ·replace H := H.1 g6;refine tr_skip (tr_thenN (tr_seq (tr_block (tr_seq (tr_region ?_)))));obtain ⟨a7, e8, H⟩ := H;refine tq (f_idx (s := x16) Tryz.runUnderlying23 Tryz.sizeOf32 rfl rfl e8) ?_;obtain ⟨y9, k10, H⟩ := H;refine tr_h (y_ldS Tryz.isAgg32 Tryz.sizeOf32 rfl rfl) k10 rfl rfl (tr_e (f_alloc (cs := ((⟨0, (⟨#[]⟩ : ByteArray), 0⟩ : S_api_Cell) : S_api_Cell).cells.toArray) Tryz.zeroValue32 rfl H) rfl rfl ?_);rintro _ h11 ⟨a12, rfl, H⟩;refine tr_e (f_store (vs := y9.cells) Tryz.sizeOf32 rfl rfl cellsOfStruct rfl (by intro v hv; exact ones_S_api_Cell _ v hv) H) rfl rfl ?_;rintro _ h13 ⟨rfl, H⟩;refine tr_nil (tr_thenN (tr_region (tq (y_move rfl) (tq (y_move rfl) (tq (y_move rfl) ?_)))));obtain ⟨y14, k15, H⟩ := H;refine tr_h (y_ldS Tryz.isAgg32 Tryz.sizeOf32 rfl rfl) k15 rfl rfl (tr_e (e_call Tryz.call38 rfl (F.xbe_ok H)) rfl rfl ?_);rintro _ h16 ⟨r17, rfl, H⟩;refine tq (y_add rfl rfl) (tq (y_assign rfl) (tr_nil (tr_blockN (tr_thenN (tr_region (tq (y_add rfl rfl) (tq (y_move rfl) (tr_nil (tr_thenN ?_)))))))));exact tr_join [(0, (.pointer x0)), (1, (.int .i64 x1)), (8, (.int .i64 (IntKind.wrap .i64 (x8 + r17)))), (16, x16.enc), (17, (.int .i64 x17)), (18, (.int .i64 (IntKind.wrap .i64 (x18 + 1))))] ⟨rfl, rfl, rfl, rfl, rfl, rfl, trivial⟩ ⟨_, _, _, _, _, _, rfl, H⟩
  ·replace H := H.2 g6;refine tr_exit (tr_thenE (tr_thenE (tr_hit (tr_thenN (tr_seq (tr_region (tq (y_move rfl) (tq (y_assign rfl) (tr_nil (tr_thenN (tr_ret ?_)))))))))));exact tr_ret1 rfl rfl ⟨_, rfl, H⟩
def F.xde (p0 : Option Addr) (h : H) (Q : Int -> H -> Prop) : Prop :=
  nn p0 fun a1 =>
  ldI .i64 h (a1.add 0) fun y3 =>
  Q y3 h
theorem F.xde_ok {p0 : Option Addr} {h : H} {Q : Int -> H -> Prop} (H : F.xde p0 h Q) : Fn PP 14 ([(.pointer p0)] : List Value).toArray h fun r h' => ∃ r0, r = (.int .i64 r0) ∧ Q r0 h' := by
 unfold F.xde at H;refine fn_of Tryz.func14 Tryz.ntmps14 rfl rfl fun w0 => (tr_sub [(0, (.pointer p0))] ⟨rfl, trivial⟩ (tr_seq (tr_region (tq (y_assign rfl) (tr_nil (tr_thenN (tr_seq (tr_region (tq (y_move rfl) ?_)))))))));obtain ⟨a1, e2, H⟩ := H;refine tq (f_nn rfl e2) (tq (y_fa (off := 0) Tryz.runUnderlying43 fo_43_0 rfl) ?_);obtain ⟨y3, k4, H⟩ := H;refine tr_h (y_ld Tryz.isAgg3 rfl) k4 rfl rfl (tq (y_assign rfl) (tr_nil (tr_thenN (tr_ret ?_))));exact tr_ret1 rfl rfl ⟨_, rfl, H⟩
def F.xdn (p0 : Option Addr) (p1 : Int) (p2 : Sl) (h : H) (Q : Bool -> H -> Prop) : Prop :=
  nn p0 fun a1 =>
  ldI .i64 h ((a1.add 0).add 0) fun y3 =>
  nn p0 fun a5 =>
  ldI .i64 h ((a5.add 0).add 2) fun y7 =>
  F.xbx p0 p1 p2 h fun r10 h9 =>
  cellH h9 ((a5.add 0).add 2) = some (.int .i64 y7) ∧
  cellH h9 ((a1.add 0).add 0) = some (.int .i64 y3) ∧
  Q (decide ((IntKind.wrap .i64 (y3 + r10)) <= y7)) h9
theorem F.xdn_ok {p0 : Option Addr} {p1 : Int} {p2 : Sl} {h : H} {Q : Bool -> H -> Prop} (H : F.xdn p0 p1 p2 h Q) : Fn PP 15 ([(.pointer p0), (.int .i64 p1), p2.enc] : List Value).toArray h fun r h' => ∃ r0, r = (.bool r0) ∧ Q r0 h' := by
 unfold F.xdn at H;refine fn_of Tryz.func15 Tryz.ntmps15 rfl rfl fun w0 => (tr_sub [(0, (.pointer p0)), (1, (.int .i64 p1)), (2, p2.enc)] ⟨rfl, rfl, rfl, trivial⟩ (tr_seq (tr_region (tq (y_assign rfl) (tr_nil (tr_thenN (tr_seq (tr_draw mixed [0, 1, 3, 7, 15, 0, 0, 0, 224, 511, 0, 1024, 3072, 7168, 15360, 32767, 65535] (by kernel_rfl) (g_p 0 1 rfl (by kernel_rfl) (y_move rfl) rfl rfl ?_)))))))));obtain ⟨a1, e2, H⟩ := H;refine g_p 1 3 rfl (by kernel_rfl) (f_nn rfl e2) rfl rfl (g_p 2 7 rfl (by kernel_rfl) (y_fa (off := 0) Tryz.runUnderlying46 fo_46_0 rfl) rfl rfl (g_p 3 15 rfl (by kernel_rfl) (y_fa (off := 0) Tryz.runUnderlying43 fo_43_0 rfl) rfl rfl ?_));obtain ⟨y3, k4, H⟩ := H;refine g_h 4 31 rfl (by kernel_rfl) (y_ld Tryz.isAgg3 rfl) k4 rfl rfl (g_p 5 63 rfl (by kernel_rfl) (y_move rfl) rfl rfl (g_p 6 127 rfl (by kernel_rfl) (y_move rfl) rfl rfl (g_p 7 255 rfl (by kernel_rfl) (y_move rfl) rfl rfl (g_p 10 1279 rfl (by kernel_rfl) (y_move rfl) rfl rfl ?_))));obtain ⟨a5, e6, H⟩ := H;refine g_p 11 3327 rfl (by kernel_rfl) (f_nn rfl e6) rfl rfl (g_p 12 7423 rfl (by kernel_rfl) (y_fa (off := 0) Tryz.runUnderlying46 fo_46_0 rfl) rfl rfl (g_p 13 15615 rfl (by kernel_rfl) (y_fa (off := 2) Tryz.runUnderlying43 fo_43_2 rfl) rfl rfl ?_));obtain ⟨y7, k8, H⟩ := H;refine g_h 14 31999 rfl (by kernel_rfl) (y_ld Tryz.isAgg3 rfl) k8 rfl rfl (g_e 8 32255 [(14, fun h => cellH h ((a5.add 0).add 2) = some (.int .i64 y7)), (4, fun h => cellH h ((a1.add 0).add 0) = some (.int .i64 y3))] (by kernel_rfl) rfl (by kernel_rfl) (e_call Tryz.call12 rfl (F.xbx_ok H)) rfl rfl ?_);rintro _ h9 ⟨r10, rfl, H⟩;obtain ⟨k11, k12, H⟩ := H;refine ⟨And.intro k11 (And.intro k12 trivial), ?_⟩;refine g_p 9 32767 rfl (by kernel_rfl) (y_add rfl rfl) rfl rfl (g_p 15 65535 rfl (by kernel_rfl) (y_leq rfl rfl) rfl rfl (g_p 16 131071 rfl (by kernel_rfl) (y_assign rfl) rfl rfl (g_d (by kernel_rfl) (tr_thenN (tr_ret ?_)))));exact tr_ret1 rfl rfl ⟨_, rfl, H⟩
def F.xdh (p0 : Option Addr) (h : H) (Q : Int -> H -> Prop) : Prop :=
  nn p0 fun a1 =>
  ldI .i64 h (a1.add 1) fun y3 =>
  Q y3 h
theorem F.xdh_ok {p0 : Option Addr} {h : H} {Q : Int -> H -> Prop} (H : F.xdh p0 h Q) : Fn PP 30 ([(.pointer p0)] : List Value).toArray h fun r h' => ∃ r0, r = (.int .i64 r0) ∧ Q r0 h' := by
 unfold F.xdh at H;refine fn_of Tryz.func30 Tryz.ntmps30 rfl rfl fun w0 => (tr_sub [(0, (.pointer p0))] ⟨rfl, trivial⟩ (tr_seq (tr_region (tq (y_assign rfl) (tr_nil (tr_thenN (tr_seq (tr_region (tq (y_move rfl) ?_)))))))));obtain ⟨a1, e2, H⟩ := H;refine tq (f_nn rfl e2) (tq (y_fa (off := 1) Tryz.runUnderlying43 fo_43_1 rfl) ?_);obtain ⟨y3, k4, H⟩ := H;refine tr_h (y_ld Tryz.isAgg3 rfl) k4 rfl rfl (tq (y_assign rfl) (tr_nil (tr_thenN (tr_ret ?_))));exact tr_ret1 rfl rfl ⟨_, rfl, H⟩
def F.xbn.l2 (Q : Int -> H -> Prop) : Nat -> Sl -> Int -> Int -> H -> Prop
  | 0, _, _, _, _ => False
  | q2 + 1, x0, x3, x4, h =>
    ((decide (x4 < (x0.len : Int))) = true ->
    idxA x0 x4 1 fun a6 =>
    ldI .i64 h a6 fun y8 =>
    runI PP (Builtin.max_ #[3, 3] 3 #[(.int .i64 x3), (.int .i64 y8)]) h .i64 fun s11 h10 =>
    (F.xbn.l2 Q q2) x0 s11 (IntKind.wrap .i64 (x4 + 1)) h10) ∧
    ((decide (x4 < (x0.len : Int))) = false ->
    Q x3 h)
def F.xbn.j1 (Q : Int -> H -> Prop) (x0 : Sl) (h : H) : Prop :=
  idxA x0 0 1 fun a1 =>
  ldI .i64 h a1 fun y3 =>
  ∃ m, F.xbn.l2 Q m x0 y3 1 h
def F.xbn (p0 : Sl) (h : H) (Q : Int -> H -> Prop) : Prop :=
  ((decide ((p0.len : Int) < 1)) = true ->
  False) ∧
  ((decide ((p0.len : Int) < 1)) = false ->
  F.xbn.j1 Q p0 h)
theorem F.xbn_ok {p0 : Sl} {h : H} {Q : Int -> H -> Prop} (H : F.xbn p0 h Q) : Fn PP 66 ([p0.enc] : List Value).toArray h fun r h' => ∃ r0, r = (.int .i64 r0) ∧ Q r0 h' := by
 unfold F.xbn at H;refine fn_of Tryz.func66 Tryz.ntmps66 rfl rfl fun w0 => (tr_sub [(0, p0.enc)] ⟨rfl, trivial⟩ (tr_seq (tr_region (tq (y_assign rfl) (tr_nil (tr_thenN ?_))))));refine tr_seq_j (fun L' h => ∃ (x0 : Sl), L' = [(0, x0.enc)] ∧ F.xbn.j1 Q x0 h) ?_ ?_
 ·rintro L' h ⟨x0, rfl, H⟩;unfold F.xbn.j1 at H;refine tr_seq (tr_region (tq (y_move rfl) ?_));obtain ⟨a1, e2, H⟩ := H;refine tq (f_idx (s := x0) Tryz.runUnderlying35 Tryz.sizeOf3 rfl rfl e2) ?_;obtain ⟨y3, k4, H⟩ := H;refine tr_h (y_ld Tryz.isAgg3 rfl) k4 rfl rfl (tq (y_assign rfl) (tr_nil (tr_thenN (tr_seq (tr_seq (tr_region (tq (y_assign rfl) (tr_nil (tr_thenN (tr_block ?_))))))))));obtain ⟨m12, H⟩ := H;refine tr_sub [(0, x0.enc), (3, (.int .i64 y3)), (4, (.int .i64 1))] ⟨rfl, rfl, rfl, trivial⟩ ?_;refine tr_loop_j (fun m L' h => ∃ (x0 : Sl) (x3 : Int) (x4 : Int), L' = [(0, x0.enc), (3, (.int .i64 x3)), (4, (.int .i64 x4))] ∧ F.xbn.l2 Q m x0 x3 x4 h) ?_ ?_ m12 ⟨_, _, _, rfl, H⟩
  ·rintro L' h ⟨_, _, _, _, H⟩; exact H
  ·rintro q2 L' h ⟨x0, x3, x4, rfl, H⟩;unfold F.xbn.l2 at H;refine tr_seq (tr_seq (tr_region (tq (y_move rfl) (tq (y_move rfl) (tq (y_len (ts := #[]) Tryz.runUnderlying35 (o := x0.ptr) (n := x0.len) (cap := x0.cap) rfl) (tq (y_lss rfl rfl) (tr_nil (tr_thenN ?_))))))));refine tr_cond rfl (fun g5 => ?_) (fun g5 => ?_)
   ·replace H := H.1 g5;refine tr_skip (tr_thenN (tr_seq (tr_block (tr_region (tq (y_move rfl) (tq (y_move rfl) (tq (y_move rfl) ?_)))))));obtain ⟨a6, e7, H⟩ := H;refine tq (f_idx (s := x0) Tryz.runUnderlying35 Tryz.sizeOf3 rfl rfl e7) ?_;obtain ⟨y8, k9, H⟩ := H;refine tr_h (y_ld Tryz.isAgg3 rfl) k9 rfl rfl (tr_e (f_max rfl H) rfl rfl ?_);rintro _ h10 ⟨s11, rfl, H⟩;refine tq (y_assign rfl) (tr_nil (tr_blockN (tr_thenN (tr_region (tq (y_move rfl) (tq (y_add rfl rfl) (tq (y_assign rfl) (tr_nil (tr_thenN ?_)))))))));exact tr_join [(0, x0.enc), (3, (.int .i64 s11)), (4, (.int .i64 (IntKind.wrap .i64 (x4 + 1))))] ⟨rfl, rfl, rfl, trivial⟩ ⟨_, _, _, rfl, H⟩
   ·replace H := H.2 g5;refine tr_exit (tr_thenE (tr_thenE (tr_hit (tr_thenN (tr_seq (tr_region (tq (y_move rfl) (tq (y_assign rfl) (tr_nil (tr_thenN (tr_ret ?_)))))))))));exact tr_ret1 rfl rfl ⟨_, rfl, H⟩
 ·refine tr_seq (tr_region (tq (y_move rfl) (tq (y_len (ts := #[]) Tryz.runUnderlying35 (o := p0.ptr) (n := p0.len) (cap := p0.cap) rfl) (tq (y_lss rfl rfl) (tr_nil (tr_thenN ?_))))));refine tr_cond rfl (fun g13 => ?_) (fun g13 => ?_)
  ·replace H := H.1 g13;refine tr_region (tq (y_mkif Tryz.runUnderlying9 rfl rfl) ?_);exact H.elim
  ·replace H := H.2 g13;refine tr_skip (tr_thenN ?_);exact tr_join [(0, p0.enc)] ⟨rfl, trivial⟩ ⟨_, rfl, H⟩
def F.xds (p0 : Option Addr) (h : H) (Q : Int -> H -> Prop) : Prop :=
  new h #[(⟨none, 0, 0⟩ : Sl).enc] ty_35 fun a2 h1 =>
  nn p0 fun a3 =>
  ldP h1 (a3.add 3) fun y5 =>
  F.xah y5 h1 fun r8 h7 =>
  rng PP r8 h7 [] (fun bg1 l1 args h K1 J1 => ∃ (y1_11 : ByteArray), ∃ (y1_12 : Option Addr), args = [(.string y1_11), (.pointer y1_12)] ∧
    bg1 h fun h9 =>
    ldL h9 a2 fun y10 =>
    F.xdb y1_12 h9 fun r13 h12 =>
    cellH h12 a2 = some y10.enc ∧
    newL h12 #[(.int .i64 r13)] ty_3 1 fun s16 h15 =>
    cellH h15 a2 = some y10.enc ∧
    runL PP (Builtin.append_ #[35, 35] 35 #[y10.enc, s16.enc]) h15 fun s19 h18 =>
    stH h18 a2 [s19.enc] fun h20 =>
    K1 h20) (fun h21 =>
    ldL h21 a2 fun y22 =>
    ((((y22.len : Int) == 0)) = true ->
    shuts (h7.size :: ([] : List Nat)) h21 fun h25 =>
    Q 0 h25) ∧
    ((((y22.len : Int) == 0)) = false ->
    ldL h21 a2 fun y26 =>
    F.xbn y26 h21 fun r29 h28 =>
    shuts (h7.size :: ([] : List Nat)) h28 fun h30 =>
    Q r29 h30)) (fun jj h31 =>
    True)
theorem F.xds_ok {p0 : Option Addr} {h : H} {Q : Int -> H -> Prop} (H : F.xds p0 h Q) : Fn PP 31 ([(.pointer p0)] : List Value).toArray h fun r h' => ∃ r0, r = (.int .i64 r0) ∧ Q r0 h' := by
 unfold F.xds at H;refine fn_ofM Tryz.func31 Tryz.ntmps31 rfl rfl fun w0 => (tr_sub [(0, (.pointer p0))] ⟨rfl, trivial⟩ (tr_seq (tr_region (tq (y_assign rfl) (tr_nil (tr_thenN (tr_seq (tr_region (tr_e (f_alloc (cs := #[(⟨none, 0, 0⟩ : Sl).enc]) Tryz.zeroValue35 rfl H) rfl rfl ?_)))))))));rintro _ h1 ⟨a2, rfl, H⟩;refine tr_nil (tr_thenN (tr_seq (tr_seq (tr_region (tq (y_move rfl) ?_)))));obtain ⟨a3, e4, H⟩ := H;refine tq (f_nn rfl e4) (tq (y_fa (off := 3) Tryz.runUnderlying46 fo_46_1 rfl) ?_);obtain ⟨y5, k6, H⟩ := H;refine tr_h (y_ld Tryz.isAgg44 rfl) k6 rfl rfl (tr_e (e_call Tryz.call59 rfl (F.xah_ok H)) rfl rfl ?_);rintro r8 h7 ⟨_, rfl, H⟩;refine tr_nil (tr_thenN (tr_block ?_));refine tr_range rfl (by kernel_rfl) H ?_ ?_ ?_
 ·intro bg1 l1 args h K1 J1 w1 hbg1 H;obtain ⟨y1_11, y1_12, rfl, H⟩ := H;refine ⟨rfl, ?_⟩;refine tr_sub [(0, (.pointer p0)), (2, (.int .i64 0)), (3, (.pointer (some a2))), (6, (.pointer p0)), (7, (.pointer (some a3))), (8, (.pointer (some (a3.add 3)))), (9, (.pointer y5)), (10, r8), (11, (.string y1_11)), (12, (.pointer y1_12))] ⟨rfl, rfl, rfl, rfl, rfl, rfl, rfl, rfl, rfl, rfl, trivial⟩ (tr_region (tq (y_assign rfl) (tr_nil (tr_thenN (tr_bgn hbg1 H fun h9 H => (tr_block (tr_draw mixed [0, 0, 2, 6, 15, 31] (by kernel_rfl) ?_)))))));obtain ⟨y10, k11, H⟩ := H;refine g_h 0 1 rfl (by kernel_rfl) (y_ld Tryz.isAgg35 rfl) k11 rfl rfl (g_p 1 3 rfl (by kernel_rfl) (y_move rfl) rfl rfl (g_e 2 7 [(0, fun h => cellH h a2 = some y10.enc)] (by kernel_rfl) rfl (by kernel_rfl) (e_call Tryz.call65 rfl (F.xdb_ok H)) rfl rfl ?_));rintro _ h12 ⟨r13, rfl, H⟩;obtain ⟨k14, H⟩ := H;refine ⟨And.intro k14 trivial, ?_⟩;refine g_e 3 15 [(0, fun h => cellH h a2 = some y10.enc)] (by kernel_rfl) rfl (by kernel_rfl) (f_buildL (cs := #[(.int .i64 r13)]) rfl rfl (bl_35_1_0 r13) H) rfl rfl ?_;rintro _ h15 ⟨s16, rfl, H⟩;obtain ⟨k17, H⟩ := H;refine ⟨And.intro k17 trivial, ?_⟩;refine g_e 4 31 [] (by kernel_rfl) rfl (by kernel_rfl) (f_app rfl H) rfl rfl ?_;rintro _ h18 ⟨s19, rfl, H⟩;refine ⟨trivial, ?_⟩;refine g_e 5 63 [] (by kernel_rfl) rfl (by kernel_rfl) (f_store (vs := [s19.enc]) Tryz.sizeOf35 rfl rfl rfl rfl (one1 rfl) H) rfl rfl ?_;rintro _ h20 ⟨rfl, H⟩;refine ⟨trivial, ?_⟩;refine g_d (by kernel_rfl) (tr_blockN ?_);exact tr_rN H
 ·intro h21 H;refine tr_blockN (tr_thenN (tr_seq (tr_seq (tr_region ?_))));obtain ⟨y22, k23, H⟩ := H;refine tr_h (y_ld Tryz.isAgg35 rfl) k23 rfl rfl (tq (y_len (ts := #[]) Tryz.runUnderlying35 (o := y22.ptr) (n := y22.len) (cap := y22.cap) rfl) (tq (y_eql rfl rfl) (tr_nil (tr_thenN ?_))));refine tr_cond rfl (fun g24 => ?_) (fun g24 => ?_)
  ·replace H := H.1 g24;refine tr_seq (tr_region (tq (y_assign rfl) (tr_nil (tr_thenN (tr_ret (tr_thenR (tr_shut (h7.size :: ([] : List Nat)) rfl H fun h25 H => ?_)))))));exact tr_ret1 rfl rfl ⟨_, rfl, H⟩
  ·replace H := H.2 g24;refine tr_skip (tr_thenN (tr_seq (tr_region ?_)));obtain ⟨y26, k27, H⟩ := H;refine tr_h (y_ld Tryz.isAgg35 rfl) k27 rfl rfl (tr_e (e_call Tryz.call66 rfl (F.xbn_ok H)) rfl rfl ?_);rintro _ h28 ⟨r29, rfl, H⟩;refine tq (y_assign rfl) (tr_nil (tr_thenN (tr_ret (tr_shut (h7.size :: ([] : List Nat)) rfl H fun h30 H => ?_))));exact tr_ret1 rfl rfl ⟨_, rfl, H⟩
 ·intro jj c h31 hjc H;simp at hjc
def F.xbp.j1 (Q : S_api_Agg -> Bool -> H -> Prop) (x4 : Addr) (h : H) : Prop :=
  ld_S_api_Agg h x4 fun y3 =>
  stH h x4 y3.cells fun h5 =>
  ld_S_api_Agg h5 x4 fun y6 =>
  Q y6 false h5
def F.xbp.j2 (Q : S_api_Agg -> Bool -> H -> Prop) (x0 : Option Addr) (x4 : Addr) (x6 : Int) (x22 : Bool) (h : H) : Prop :=
  (x22 = true ->
  nn x0 fun a11 =>
  ldL h (a11.add 0) fun y13 =>
  idxA y13 x6 6 fun a15 =>
  ld_S_api_Agg h (a15.add 1) fun y17 =>
  stH h x4 y17.cells fun h19 =>
  ld_S_api_Agg h19 x4 fun y20 =>
  Q y20 true h19) ∧
  (x22 = false ->
  F.xbp.j1 Q x4 h)
def F.xbp (p0 : Option Addr) (p1 : Int) (h : H) (Q : S_api_Agg -> Bool -> H -> Prop) : Prop :=
  new h (((⟨0, 0, 0, 0⟩ : S_api_Agg) : S_api_Agg).cells.toArray) ty_34 fun a2 h1 =>
  F.xbz p0 p1 h1 fun r9 h8 =>
  ((decide (r9 >= 0)) = true ->
  nn p0 fun a23 =>
  ldL h8 (a23.add 0) fun y25 =>
  idxA y25 r9 6 fun a27 =>
  ldB h8 (a27.add 5) fun y29 =>
  F.xbp.j2 Q p0 a2 r9 (!y29) h8) ∧
  ((decide (r9 >= 0)) = false ->
  F.xbp.j2 Q p0 a2 r9 false h8)
theorem F.xbp_ok {p0 : Option Addr} {p1 : Int} {h : H} {Q : S_api_Agg -> Bool -> H -> Prop} (H : F.xbp p0 p1 h Q) : Fn PP 98 ([(.pointer p0), (.int .i64 p1)] : List Value).toArray h fun r h' => ∃ r0 r1, r = .tuple #[(.agg r0.cells.toArray), (.bool r1)] ∧ Q r0 r1 h' := by
 unfold F.xbp at H;refine fn_of Tryz.func98 Tryz.ntmps98 rfl rfl fun w0 => (tr_sub [(0, (.pointer p0)), (1, (.int .i64 p1))] ⟨rfl, rfl, trivial⟩ (tr_seq (tr_region (tr_e (f_alloc (cs := ((⟨0, 0, 0, 0⟩ : S_api_Agg) : S_api_Agg).cells.toArray) Tryz.zeroValue34 rfl H) rfl rfl ?_))));rintro _ h1 ⟨a2, rfl, H⟩;refine tq (y_assign rfl) (tr_nil (tr_thenN ?_));refine tr_seq_j (fun L' h => ∃ (x4 : Addr), L' = [(4, (.pointer (some x4)))] ∧ F.xbp.j1 Q x4 h) ?_ ?_
 ·rintro L' h ⟨x4, rfl, H⟩;unfold F.xbp.j1 at H;refine tr_seq (tr_region ?_);obtain ⟨y3, k4, H⟩ := H;refine tr_h (y_ldS Tryz.isAgg34 Tryz.sizeOf34 rfl rfl) k4 rfl rfl (tr_e (f_store (vs := y3.cells) Tryz.sizeOf34 rfl rfl cellsOfStruct rfl (by intro v hv; exact ones_S_api_Agg _ v hv) H) rfl rfl ?_);rintro _ h5 ⟨rfl, H⟩;refine tq (y_assign rfl) (tr_nil (tr_thenN (tr_ret ?_)));obtain ⟨y6, k7, H⟩ := H;exact tr_rv2 rfl (rv_cellS Tryz.isAgg34 Tryz.sizeOf34 rfl rfl k7) (rv_tmp rfl) ⟨_, _, rfl, H⟩
 ·refine tr_seq (tr_region (tq (y_move rfl) (tq (y_move rfl) (tr_e (e_call Tryz.call99 rfl (F.xbz_ok H)) rfl rfl ?_))));rintro _ h8 ⟨r9, rfl, H⟩;refine tq (y_assign rfl) (tr_nil (tr_thenN ?_));refine tr_seq_j (fun L' h => ∃ (x0 : Option Addr) (x4 : Addr) (x6 : Int) (x22 : Bool), L' = [(0, (.pointer x0)), (4, (.pointer (some x4))), (6, (.int .i64 x6)), (22, (.bool x22))] ∧ F.xbp.j2 Q x0 x4 x6 x22 h) ?_ ?_
  ·rintro L' h ⟨x0, x4, x6, x22, rfl, H⟩;unfold F.xbp.j2 at H;refine tr_cond rfl (fun g10 => ?_) (fun g10 => ?_)
   ·replace H := H.1 g10;refine tr_seq (tr_region (tq (y_move rfl) ?_));obtain ⟨a11, e12, H⟩ := H;refine tq (f_nn rfl e12) (tq (y_fa (off := 0) Tryz.runUnderlying133 fo_133_0 rfl) ?_);obtain ⟨y13, k14, H⟩ := H;refine tr_h (y_ld Tryz.isAgg131 rfl) k14 rfl rfl (tq (y_move rfl) ?_);obtain ⟨a15, e16, H⟩ := H;refine tq (f_idx (s := y13) Tryz.runUnderlying131 Tryz.sizeOf135 rfl rfl e16) (tq (y_fa (off := 1) Tryz.runUnderlying135 fo_135_1 rfl) ?_);obtain ⟨y17, k18, H⟩ := H;refine tr_h (y_ldS Tryz.isAgg34 Tryz.sizeOf34 rfl rfl) k18 rfl rfl (tr_e (f_store (vs := y17.cells) Tryz.sizeOf34 rfl rfl cellsOfStruct rfl (by intro v hv; exact ones_S_api_Agg _ v hv) H) rfl rfl ?_);rintro _ h19 ⟨rfl, H⟩;refine tq (y_assign rfl) (tr_nil (tr_thenN (tr_ret (tr_thenR ?_))));obtain ⟨y20, k21, H⟩ := H;exact tr_rv2 rfl (rv_cellS Tryz.isAgg34 Tryz.sizeOf34 rfl rfl k21) (rv_tmp rfl) ⟨_, _, rfl, H⟩
   ·replace H := H.2 g10;refine tr_skip (tr_thenN ?_);exact tr_join [(4, (.pointer (some x4)))] ⟨rfl, trivial⟩ ⟨_, rfl, H⟩
  ·refine tr_region (tq (y_move rfl) (tq (y_geq rfl rfl) (tq (y_move rfl) ?_)));refine tr_split (t := 12) rfl (fun g22 => ?_) (fun g22 => ?_)
   ·replace H := H.1 g22;refine tq (y_move rfl) ?_;obtain ⟨a23, e24, H⟩ := H;refine tq (f_nn rfl e24) (tq (y_fa (off := 0) Tryz.runUnderlying133 fo_133_0 rfl) ?_);obtain ⟨y25, k26, H⟩ := H;refine tr_h (y_ld Tryz.isAgg131 rfl) k26 rfl rfl (tq (y_move rfl) ?_);obtain ⟨a27, e28, H⟩ := H;refine tq (f_idx (s := y25) Tryz.runUnderlying131 Tryz.sizeOf135 rfl rfl e28) (tq (y_fa (off := 5) Tryz.runUnderlying135 fo_135_2 rfl) ?_);obtain ⟨y29, k30, H⟩ := H;refine tr_h (y_ld Tryz.isAgg4 rfl) k30 rfl rfl (tq (y_not rfl) (tq (y_pick_t rfl rfl) (tr_nil (tr_thenN ?_))));exact tr_join [(0, (.pointer p0)), (4, (.pointer (some a2))), (6, (.int .i64 r9)), (22, (.bool (!y29)))] ⟨rfl, rfl, rfl, rfl, trivial⟩ ⟨_, _, _, _, rfl, H⟩
   ·replace H := H.2 g22;refine ts (ts (ts (ts (ts (ts (ts (ts (ts (tq (y_pick_f rfl rfl) (tr_nil (tr_thenN ?_)))))))))));exact tr_join [(0, (.pointer p0)), (4, (.pointer (some a2))), (6, (.int .i64 r9)), (22, (.bool false))] ⟨rfl, rfl, rfl, rfl, trivial⟩ ⟨_, _, _, _, rfl, H⟩
def F.xcn (p0 : Option Addr) (p1 : Int) (h : H) (Q : S_api_Agg -> Bool -> H -> Prop) : Prop :=
  new h (((⟨0, 0, 0, 0⟩ : S_api_Agg) : S_api_Agg).cells.toArray) ty_34 fun a2 h1 =>
  (p0.isNone = true ->
  stH h1 a2 ((⟨0, 0, 0, 0⟩ : S_api_Agg).cells) fun h4 =>
  ld_S_api_Agg h4 a2 fun y5 =>
  Q y5 false h4) ∧
  (p0.isNone = false ->
  (((p1 == 0)) = true ->
  F.xcg p0 h1 fun r9 r10 r11 h8 =>
  new h8 (((⟨0, 0, 0, 0⟩ : S_api_Agg) : S_api_Agg).cells.toArray) ty_34 fun a13 h12 =>
  stH h12 a13 r9.cells fun h14 =>
  ld_S_api_Agg h14 a13 fun y15 =>
  stH h14 a2 y15.cells fun h17 =>
  ld_S_api_Agg h17 a2 fun y18 =>
  Q y18 r11 h17) ∧
  (((p1 == 0)) = false ->
  F.xbp p0 p1 h1 fun r21 r22 h20 =>
  stH h20 a2 r21.cells fun h23 =>
  ld_S_api_Agg h23 a2 fun y24 =>
  Q y24 r22 h23))
theorem F.xcn_ok {p0 : Option Addr} {p1 : Int} {h : H} {Q : S_api_Agg -> Bool -> H -> Prop} (H : F.xcn p0 p1 h Q) : Fn PP 61 ([(.pointer p0), (.int .i64 p1)] : List Value).toArray h fun r h' => ∃ r0 r1, r = .tuple #[(.agg r0.cells.toArray), (.bool r1)] ∧ Q r0 r1 h' := by
 unfold F.xcn at H;refine fn_of Tryz.func61 Tryz.ntmps61 rfl rfl fun w0 => (tr_sub [(0, (.pointer p0)), (1, (.int .i64 p1))] ⟨rfl, rfl, trivial⟩ (tr_seq (tr_region (tr_e (f_alloc (cs := ((⟨0, 0, 0, 0⟩ : S_api_Agg) : S_api_Agg).cells.toArray) Tryz.zeroValue34 rfl H) rfl rfl ?_))));rintro _ h1 ⟨a2, rfl, H⟩;refine tq (y_assign rfl) (tr_nil (tr_thenN (tr_seq (tr_seq (tr_region (tq (y_move rfl) (tq (y_pnil_eql Tryz.runUnderlying70 rfl rfl) (tr_nil (tr_thenN ?_)))))))));refine tr_cond rfl (fun g3 => ?_) (fun g3 => ?_)
 ·replace H := H.1 g3;refine tr_seq (tr_region (tq (f_build rfl (bd_34_ )) (tr_e (f_store (vs := (⟨0, 0, 0, 0⟩ : S_api_Agg).cells) Tryz.sizeOf34 rfl rfl cellsOfStruct rfl (by intro v hv; exact ones_S_api_Agg _ v hv) H) rfl rfl ?_)));rintro _ h4 ⟨rfl, H⟩;refine tq (y_assign rfl) (tr_nil (tr_thenN (tr_ret (tr_thenR ?_))));obtain ⟨y5, k6, H⟩ := H;exact tr_rv2 rfl (rv_cellS Tryz.isAgg34 Tryz.sizeOf34 rfl rfl k6) (rv_tmp rfl) ⟨_, _, rfl, H⟩
 ·replace H := H.2 g3;refine tr_skip (tr_thenN (tr_seq (tr_seq (tr_region (tq (y_move rfl) (tq (y_eql rfl rfl) (tr_nil (tr_thenN ?_))))))));refine tr_cond rfl (fun g7 => ?_) (fun g7 => ?_)
  ·replace H := H.1 g7;refine tr_seq (tr_region (tq (y_move rfl) (tr_e (e_call Tryz.call42 rfl (F.xcg_ok H)) rfl rfl ?_)));rintro _ h8 ⟨r9, r10, r11, rfl, H⟩;refine tq (y_move rfl) (tq (y_ext rfl rfl) (tq (y_ext rfl rfl) (tq (y_ext rfl rfl) (tr_e (f_alloc (cs := ((⟨0, 0, 0, 0⟩ : S_api_Agg) : S_api_Agg).cells.toArray) Tryz.zeroValue34 rfl H) rfl rfl ?_))));rintro _ h12 ⟨a13, rfl, H⟩;refine tr_e (f_store (vs := r9.cells) Tryz.sizeOf34 rfl rfl cellsOfStruct rfl (by intro v hv; exact ones_S_api_Agg _ v hv) H) rfl rfl ?_;rintro _ h14 ⟨rfl, H⟩;refine tq (y_assign rfl) (tq (y_assign rfl) (tr_nil (tr_thenN (tr_seq (tr_region ?_)))));obtain ⟨y15, k16, H⟩ := H;refine tr_h (y_ldS Tryz.isAgg34 Tryz.sizeOf34 rfl rfl) k16 rfl rfl (tq (y_move rfl) (tr_e (f_store (vs := y15.cells) Tryz.sizeOf34 rfl rfl cellsOfStruct rfl (by intro v hv; exact ones_S_api_Agg _ v hv) H) rfl rfl ?_));rintro _ h17 ⟨rfl, H⟩;refine tq (y_assign rfl) (tr_nil (tr_thenN (tr_ret (tr_thenR ?_))));obtain ⟨y18, k19, H⟩ := H;exact tr_rv2 rfl (rv_cellS Tryz.isAgg34 Tryz.sizeOf34 rfl rfl k19) (rv_tmp rfl) ⟨_, _, rfl, H⟩
  ·replace H := H.2 g7;refine tr_skip (tr_thenN (tr_seq (tr_region (tq (y_move rfl) (tq (y_move rfl) (tr_e (e_call Tryz.call98 rfl (F.xbp_ok H)) rfl rfl ?_))))));rintro _ h20 ⟨r21, r22, rfl, H⟩;refine tq (y_ext rfl rfl) (tq (y_ext rfl rfl) (tr_e (f_store (vs := r21.cells) Tryz.sizeOf34 rfl rfl cellsOfStruct rfl (by intro v hv; exact ones_S_api_Agg _ v hv) H) rfl rfl ?_));rintro _ h23 ⟨rfl, H⟩;refine tq (y_assign rfl) (tr_nil (tr_thenN (tr_ret ?_)));obtain ⟨y24, k25, H⟩ := H;exact tr_rv2 rfl (rv_cellS Tryz.isAgg34 Tryz.sizeOf34 rfl rfl k25) (rv_tmp rfl) ⟨_, _, rfl, H⟩
def F.xcj (p0 : Option Addr) (p1 : S_api_Cell) (p2 : Int) (h : H) (Q : S_api_Agg -> H -> Prop) : Prop :=
  new h p1.cells.toArray ty_32 fun a2 h1 =>
  new h1 (((⟨0, 0, 0, 0⟩ : S_api_Agg) : S_api_Agg).cells.toArray) ty_34 fun a4 h3 =>
  ld_S_api_Cell h3 a2 fun y5 =>
  F.xck p0 y5 h3 fun r8 h7 =>
  F.xcn r8 p2 h7 fun r10 r11 h9 =>
  new h9 (((⟨0, 0, 0, 0⟩ : S_api_Agg) : S_api_Agg).cells.toArray) ty_34 fun a13 h12 =>
  stH h12 a13 r10.cells fun h14 =>
  ld_S_api_Agg h14 a13 fun y15 =>
  stH h14 a4 y15.cells fun h17 =>
  ld_S_api_Agg h17 a4 fun y18 =>
  Q y18 h17
theorem F.xcj_ok {p0 : Option Addr} {p1 : S_api_Cell} {p2 : Int} {h : H} {Q : S_api_Agg -> H -> Prop} (H : F.xcj p0 p1 p2 h Q) : Fn PP 26 ([(.pointer p0), (.agg p1.cells.toArray), (.int .i64 p2)] : List Value).toArray h fun r h' => ∃ r0, r = (.agg r0.cells.toArray) ∧ Q r0 h' := by
 unfold F.xcj at H;refine fn_of Tryz.func26 Tryz.ntmps26 rfl rfl fun w0 => (tr_sub [(0, (.pointer p0)), (1, (.agg p1.cells.toArray)), (2, (.int .i64 p2))] ⟨rfl, rfl, rfl, trivial⟩ (tr_seq (tr_region (tr_e (f_box (cs := p1.cells.toArray) rfl rfl H) rfl rfl ?_))));rintro _ h1 ⟨a2, rfl, H⟩;refine tr_e (f_alloc (cs := ((⟨0, 0, 0, 0⟩ : S_api_Agg) : S_api_Agg).cells.toArray) Tryz.zeroValue34 rfl H) rfl rfl ?_;rintro _ h3 ⟨a4, rfl, H⟩;refine tr_nil (tr_thenN (tr_seq (tr_region (tq (y_move rfl) ?_))));obtain ⟨y5, k6, H⟩ := H;refine tr_h (y_ldS Tryz.isAgg32 Tryz.sizeOf32 rfl rfl) k6 rfl rfl (tr_e (e_call Tryz.call64 rfl (F.xck_ok H)) rfl rfl ?_);rintro _ h7 ⟨r8, rfl, H⟩;refine tq (y_move rfl) (tr_e (e_call Tryz.call61 rfl (F.xcn_ok H)) rfl rfl ?_);rintro _ h9 ⟨r10, r11, rfl, H⟩;refine tq (y_move rfl) (tq (y_ext rfl rfl) (tq (y_ext rfl rfl) (tr_e (f_alloc (cs := ((⟨0, 0, 0, 0⟩ : S_api_Agg) : S_api_Agg).cells.toArray) Tryz.zeroValue34 rfl H) rfl rfl ?_)));rintro _ h12 ⟨a13, rfl, H⟩;refine tr_e (f_store (vs := r10.cells) Tryz.sizeOf34 rfl rfl cellsOfStruct rfl (by intro v hv; exact ones_S_api_Agg _ v hv) H) rfl rfl ?_;rintro _ h14 ⟨rfl, H⟩;refine tq (y_assign rfl) (tr_nil (tr_thenN (tr_seq (tr_region ?_))));obtain ⟨y15, k16, H⟩ := H;refine tr_h (y_ldS Tryz.isAgg34 Tryz.sizeOf34 rfl rfl) k16 rfl rfl (tr_e (f_store (vs := y15.cells) Tryz.sizeOf34 rfl rfl cellsOfStruct rfl (by intro v hv; exact ones_S_api_Agg _ v hv) H) rfl rfl ?_);rintro _ h17 ⟨rfl, H⟩;refine tr_nil (tr_thenN (tr_ret ?_));obtain ⟨y18, k19, H⟩ := H;exact tr_rv1 rfl (rv_cellS Tryz.isAgg34 Tryz.sizeOf34 rfl rfl k19) ⟨_, rfl, H⟩
def F.xcz (p0 : Option Addr) (p1 : S_api_Cell) (h : H) (Q : S_api_Agg -> H -> Prop) : Prop :=
  new h p1.cells.toArray ty_32 fun a2 h1 =>
  new h1 (((⟨0, 0, 0, 0⟩ : S_api_Agg) : S_api_Agg).cells.toArray) ty_34 fun a4 h3 =>
  ld_S_api_Cell h3 a2 fun y5 =>
  F.xcj p0 y5 0 h3 fun r8 h7 =>
  stH h7 a4 r8.cells fun h9 =>
  ld_S_api_Agg h9 a4 fun y10 =>
  Q y10 h9
theorem F.xcz_ok {p0 : Option Addr} {p1 : S_api_Cell} {h : H} {Q : S_api_Agg -> H -> Prop} (H : F.xcz p0 p1 h Q) : Fn PP 28 ([(.pointer p0), (.agg p1.cells.toArray)] : List Value).toArray h fun r h' => ∃ r0, r = (.agg r0.cells.toArray) ∧ Q r0 h' := by
 unfold F.xcz at H;refine fn_of Tryz.func28 Tryz.ntmps28 rfl rfl fun w0 => (tr_sub [(0, (.pointer p0)), (1, (.agg p1.cells.toArray))] ⟨rfl, rfl, trivial⟩ (tr_seq (tr_region (tr_e (f_box (cs := p1.cells.toArray) rfl rfl H) rfl rfl ?_))));rintro _ h1 ⟨a2, rfl, H⟩;refine tr_e (f_alloc (cs := ((⟨0, 0, 0, 0⟩ : S_api_Agg) : S_api_Agg).cells.toArray) Tryz.zeroValue34 rfl H) rfl rfl ?_;rintro _ h3 ⟨a4, rfl, H⟩;refine tr_nil (tr_thenN (tr_seq (tr_region (tq (y_move rfl) ?_))));obtain ⟨y5, k6, H⟩ := H;refine tr_h (y_ldS Tryz.isAgg32 Tryz.sizeOf32 rfl rfl) k6 rfl rfl (tr_e (e_call Tryz.call26 rfl (F.xcj_ok H)) rfl rfl ?_);rintro _ h7 ⟨r8, rfl, H⟩;refine tr_e (f_store (vs := r8.cells) Tryz.sizeOf34 rfl rfl cellsOfStruct rfl (by intro v hv; exact ones_S_api_Agg _ v hv) H) rfl rfl ?_;rintro _ h9 ⟨rfl, H⟩;refine tr_nil (tr_thenN (tr_ret ?_));obtain ⟨y10, k11, H⟩ := H;exact tr_rv1 rfl (rv_cellS Tryz.isAgg34 Tryz.sizeOf34 rfl rfl k11) ⟨_, rfl, H⟩
def F.xbk.j1 (Q : Bool -> H -> Prop) (x1 : Option Addr) (h : H) : Prop :=
  new h (((⟨0, (⟨#[]⟩ : ByteArray), 0⟩ : S_api_Cell) : S_api_Cell).cells.toArray) ty_32 fun a5 h4 =>
  stH h4 a5 ((⟨0, (⟨#[97]⟩ : ByteArray), 0⟩ : S_api_Cell).cells) fun h6 =>
  ld_S_api_Cell h6 a5 fun y7 =>
  F.xci 5 h6 fun r10 h9 =>
  Cells h9 a5 y7.cells ∧
  F.xai x1 1 (⟨y7, r10⟩ : S_api_Row) h9 fun r13 h12 =>
  ld_S_api_Cell h12 a5 fun y14 =>
  F.xci 6 h12 fun r17 h16 =>
  Cells h16 a5 y14.cells ∧
  F.xai x1 2 (⟨y14, r17⟩ : S_api_Row) h16 fun r20 h19 =>
  (((r13 == 0)) = true ->
  (((r20 == 0)) = true ->
  nn x1 fun a23 =>
  F.xde (some (a23.add 0)) h19 fun r26 h25 =>
  (((r26 == 3)) = true ->
  nn x1 fun a28 =>
  F.xdh (some (a28.add 0)) h25 fun r31 h30 =>
  (((r31 == 1)) = true ->
  F.xds x1 h30 fun r34 h33 =>
  (((r34 == 2)) = true ->
  ld_S_api_Cell h33 a5 fun y36 =>
  F.xcz x1 y36 h33 fun r39 h38 =>
  F.xci 6 h38 fun r41 h40 =>
  (((r39.Count == r41.Count) && ((r39.Sum == r41.Sum) && ((r39.Min == r41.Min) && ((r39.Max == r41.Max) && true)))) = true ->
  ld_S_api_Cell h40 a5 fun y43 =>
  F.xcj x1 y43 1 h40 fun r46 h45 =>
  F.xci 5 h45 fun r48 h47 =>
  Q ((r46.Count == r48.Count) && ((r46.Sum == r48.Sum) && ((r46.Min == r48.Min) && ((r46.Max == r48.Max) && true)))) h47) ∧
  (((r39.Count == r41.Count) && ((r39.Sum == r41.Sum) && ((r39.Min == r41.Min) && ((r39.Max == r41.Max) && true)))) = false ->
  Q false h40)) ∧
  (((r34 == 2)) = false ->
  Q false h33)) ∧
  (((r31 == 1)) = false ->
  Q false h30)) ∧
  (((r26 == 3)) = false ->
  Q false h25)) ∧
  (((r20 == 0)) = false ->
  Q false h19)) ∧
  (((r13 == 0)) = false ->
  Q false h19)
def F.xbk.j2 (Q : Bool -> H -> Prop) (x1 : Option Addr) (x15 : Bool) (h : H) : Prop :=
  (x15 = true ->
  Q false h) ∧
  (x15 = false ->
  F.xbk.j1 Q x1 h)
def F.xbk  (h : H) (Q : Bool -> H -> Prop) : Prop :=
  F.xbf 6 h fun r2 r3 h1 =>
  (((r3 != 0)) = true ->
  F.xbk.j2 Q r2 true h1) ∧
  (((r3 != 0)) = false ->
  F.xbk.j2 Q r2 r2.isNone h1)
theorem F.xbk_ok  {h : H} {Q : Bool -> H -> Prop} (H : F.xbk  h Q) : Fn PP 9 ([] : List Value).toArray h fun r h' => ∃ r0, r = (.bool r0) ∧ Q r0 h' := by
 unfold F.xbk at H;refine fn_of Tryz.func9 Tryz.ntmps9 rfl rfl fun w0 => (tr_sub [] trivial (tr_seq (tr_region (tq (y_assign rfl) (tr_nil (tr_thenN (tr_seq (tr_region (tr_e (e_call Tryz.call7 rfl (F.xbf_ok H)) rfl rfl ?_)))))))));rintro _ h1 ⟨r2, r3, rfl, H⟩;refine tq (y_move rfl) (tq (y_ext rfl rfl) (tq (y_ext rfl rfl) (tq (y_assign rfl) (tq (y_assign rfl) (tr_nil (tr_thenN ?_))))));refine tr_seq_j (fun L' h => ∃ (x1 : Option Addr), L' = [(1, (.pointer x1))] ∧ F.xbk.j1 Q x1 h) ?_ ?_
 ·rintro L' h ⟨x1, rfl, H⟩;unfold F.xbk.j1 at H;refine tr_seq (tr_region (tq (f_build rfl (bd_32_1 (⟨#[97]⟩ : ByteArray))) (tr_e (f_alloc (cs := ((⟨0, (⟨#[]⟩ : ByteArray), 0⟩ : S_api_Cell) : S_api_Cell).cells.toArray) Tryz.zeroValue32 rfl H) rfl rfl ?_)));rintro _ h4 ⟨a5, rfl, H⟩;refine tr_e (f_store (vs := (⟨0, (⟨#[97]⟩ : ByteArray), 0⟩ : S_api_Cell).cells) Tryz.sizeOf32 rfl rfl cellsOfStruct rfl (by intro v hv; exact ones_S_api_Cell _ v hv) H) rfl rfl ?_;rintro _ h6 ⟨rfl, H⟩;refine tr_nil (tr_thenN (tr_seq (tr_draw mixed [0, 0, 0, 6, 15, 31] (by kernel_rfl) (g_p 0 1 rfl (by kernel_rfl) (y_move rfl) rfl rfl ?_))));obtain ⟨y7, k8, H⟩ := H;refine g_h 1 3 rfl (by kernel_rfl) (y_ldS Tryz.isAgg32 Tryz.sizeOf32 rfl rfl) k8 rfl rfl (g_e 2 7 [(1, fun h => Cells h a5 y7.cells)] (by kernel_rfl) rfl (by kernel_rfl) (e_call Tryz.call17 rfl (F.xci_ok H)) rfl rfl ?_);rintro _ h9 ⟨r10, rfl, H⟩;obtain ⟨k11, H⟩ := H;refine ⟨And.intro k11 trivial, ?_⟩;refine g_p 3 15 rfl (by kernel_rfl) (f_build rfl (bd_51_0_1 y7 r10)) rfl rfl (g_e 4 31 [] (by kernel_rfl) rfl (by kernel_rfl) (e_call Tryz.call16 rfl (F.xai_ok H)) rfl rfl ?_);rintro _ h12 ⟨r13, rfl, H⟩;refine ⟨trivial, ?_⟩;refine g_p 5 63 rfl (by kernel_rfl) (y_assign rfl) rfl rfl (g_d (by kernel_rfl) (tr_thenN (tr_seq (tr_draw mixed [0, 0, 0, 6, 15, 31] (by kernel_rfl) (g_p 0 1 rfl (by kernel_rfl) (y_move rfl) rfl rfl ?_)))));obtain ⟨y14, k15, H⟩ := H;refine g_h 1 3 rfl (by kernel_rfl) (y_ldS Tryz.isAgg32 Tryz.sizeOf32 rfl rfl) k15 rfl rfl (g_e 2 7 [(1, fun h => Cells h a5 y14.cells)] (by kernel_rfl) rfl (by kernel_rfl) (e_call Tryz.call17 rfl (F.xci_ok H)) rfl rfl ?_);rintro _ h16 ⟨r17, rfl, H⟩;obtain ⟨k18, H⟩ := H;refine ⟨And.intro k18 trivial, ?_⟩;refine g_p 3 15 rfl (by kernel_rfl) (f_build rfl (bd_51_0_1 y14 r17)) rfl rfl (g_e 4 31 [] (by kernel_rfl) rfl (by kernel_rfl) (e_call Tryz.call16 rfl (F.xai_ok H)) rfl rfl ?_);rintro _ h19 ⟨r20, rfl, H⟩;refine ⟨trivial, ?_⟩;refine g_p 5 63 rfl (by kernel_rfl) (y_assign rfl) rfl rfl (g_d (by kernel_rfl) (tr_thenN (tr_seq (tr_region (tq (y_move rfl) (tq (y_eql rfl rfl) (tq (y_move rfl) ?_)))))));refine tr_split (t := 29) rfl (fun g21 => ?_) (fun g21 => ?_)
  ·replace H := H.1 g21;refine tq (y_move rfl) (tq (y_eql rfl rfl) (tq (y_pick_t rfl rfl) (tq (y_move rfl) ?_)));refine tr_split (t := 33) rfl (fun g22 => ?_) (fun g22 => ?_)
   ·replace H := H.1 g22;refine tq (y_move rfl) ?_;obtain ⟨a23, e24, H⟩ := H;refine tq (f_nn rfl e24) (tq (y_fa (off := 0) Tryz.runUnderlying46 fo_46_0 rfl) (tr_e (e_call Tryz.call14 rfl (F.xde_ok H)) rfl rfl ?_));rintro _ h25 ⟨r26, rfl, H⟩;refine tq (y_eql rfl rfl) (tq (y_pick_t rfl rfl) (tq (y_move rfl) ?_));refine tr_split (t := 40) rfl (fun g27 => ?_) (fun g27 => ?_)
    ·replace H := H.1 g27;refine tq (y_move rfl) ?_;obtain ⟨a28, e29, H⟩ := H;refine tq (f_nn rfl e29) (tq (y_fa (off := 0) Tryz.runUnderlying46 fo_46_0 rfl) (tr_e (e_call Tryz.call30 rfl (F.xdh_ok H)) rfl rfl ?_));rintro _ h30 ⟨r31, rfl, H⟩;refine tq (y_eql rfl rfl) (tq (y_pick_t rfl rfl) (tq (y_move rfl) ?_));refine tr_split (t := 47) rfl (fun g32 => ?_) (fun g32 => ?_)
     ·replace H := H.1 g32;refine tq (y_move rfl) (tr_e (e_call Tryz.call31 rfl (F.xds_ok H)) rfl rfl ?_);rintro _ h33 ⟨r34, rfl, H⟩;refine tq (y_eql rfl rfl) (tq (y_pick_t rfl rfl) (tq (y_move rfl) ?_));refine tr_split (t := 52) rfl (fun g35 => ?_) (fun g35 => ?_)
      ·replace H := H.1 g35;refine tq (y_move rfl) ?_;obtain ⟨y36, k37, H⟩ := H;refine tr_h (y_ldS Tryz.isAgg32 Tryz.sizeOf32 rfl rfl) k37 rfl rfl (tr_e (e_call Tryz.call28 rfl (F.xcz_ok H)) rfl rfl ?_);rintro _ h38 ⟨r39, rfl, H⟩;refine tr_e (e_call Tryz.call17 rfl (F.xci_ok H)) rfl rfl ?_;rintro _ h40 ⟨r41, rfl, H⟩;refine tq (st_eql (b := ((r39.Count == r41.Count) && ((r39.Sum == r41.Sum) && ((r39.Min == r41.Min) && ((r39.Max == r41.Max) && true))))) eqg_34 (fun w => eqst_34 r39 r41 9998 w) rfl rfl) (tq (y_pick_t rfl rfl) (tq (y_move rfl) ?_));refine tr_split (t := 59) rfl (fun g42 => ?_) (fun g42 => ?_)
       ·replace H := H.1 g42;refine tq (y_move rfl) ?_;obtain ⟨y43, k44, H⟩ := H;refine tr_h (y_ldS Tryz.isAgg32 Tryz.sizeOf32 rfl rfl) k44 rfl rfl (tr_e (e_call Tryz.call26 rfl (F.xcj_ok H)) rfl rfl ?_);rintro _ h45 ⟨r46, rfl, H⟩;refine tr_e (e_call Tryz.call17 rfl (F.xci_ok H)) rfl rfl ?_;rintro _ h47 ⟨r48, rfl, H⟩;refine tq (st_eql (b := ((r46.Count == r48.Count) && ((r46.Sum == r48.Sum) && ((r46.Min == r48.Min) && ((r46.Max == r48.Max) && true))))) eqg_34 (fun w => eqst_34 r46 r48 9998 w) rfl rfl) (tq (y_pick_t rfl rfl) (tq (y_assign rfl) (tr_nil (tr_thenN (tr_ret ?_)))));exact tr_ret1 rfl rfl ⟨_, rfl, H⟩
       ·replace H := H.2 g42;refine ts (ts (ts (ts (ts (tq (y_pick_f rfl rfl) (tq (y_assign rfl) (tr_nil (tr_thenN (tr_ret ?_)))))))));exact tr_ret1 rfl rfl ⟨_, rfl, H⟩
      ·replace H := H.2 g35;refine ts (ts (ts (ts (ts (tq (y_pick_f rfl rfl) (tq (y_move rfl) (ts (ts (ts (ts (ts (tq (y_pick_f rfl rfl) (tq (y_assign rfl) ?_)))))))))))));refine tr_nil (tr_thenN (tr_ret ?_));exact tr_ret1 rfl rfl ⟨_, rfl, H⟩
     ·replace H := H.2 g32;refine ts (ts (ts (tq (y_pick_f rfl rfl) (tq (y_move rfl) (ts (ts (ts (ts (ts (tq (y_pick_f rfl rfl) (tq (y_move rfl) (ts (ts ?_)))))))))))));refine ts (ts (ts (tq (y_pick_f rfl rfl) (tq (y_assign rfl) (tr_nil (tr_thenN (tr_ret ?_)))))));exact tr_ret1 rfl rfl ⟨_, rfl, H⟩
    ·replace H := H.2 g27;refine ts (ts (ts (ts (ts (tq (y_pick_f rfl rfl) (tq (y_move rfl) (ts (ts (ts (tq (y_pick_f rfl rfl) (tq (y_move rfl) (ts (ts ?_)))))))))))));refine ts (ts (ts (tq (y_pick_f rfl rfl) (tq (y_move rfl) (ts (ts (ts (ts (ts (tq (y_pick_f rfl rfl) (tq (y_assign rfl) (tr_nil (tr_thenN ?_)))))))))))));refine tr_ret ?_;exact tr_ret1 rfl rfl ⟨_, rfl, H⟩
   ·replace H := H.2 g22;refine ts (ts (ts (ts (ts (tq (y_pick_f rfl rfl) (tq (y_move rfl) (ts (ts (ts (ts (ts (tq (y_pick_f rfl rfl) (tq (y_move rfl) ?_)))))))))))));refine ts (ts (ts (tq (y_pick_f rfl rfl) (tq (y_move rfl) (ts (ts (ts (ts (ts (tq (y_pick_f rfl rfl) (tq (y_move rfl) (ts (ts ?_)))))))))))));refine ts (ts (ts (tq (y_pick_f rfl rfl) (tq (y_assign rfl) (tr_nil (tr_thenN (tr_ret ?_)))))));exact tr_ret1 rfl rfl ⟨_, rfl, H⟩
  ·replace H := H.2 g21;refine ts (ts (tq (y_pick_f rfl rfl) (tq (y_move rfl) (ts (ts (ts (ts (ts (tq (y_pick_f rfl rfl) (tq (y_move rfl) (ts (ts (ts ?_)))))))))))));refine ts (ts (tq (y_pick_f rfl rfl) (tq (y_move rfl) (ts (ts (ts (tq (y_pick_f rfl rfl) (tq (y_move rfl) (ts (ts (ts (ts (ts ?_)))))))))))));refine tq (y_pick_f rfl rfl) (tq (y_move rfl) (ts (ts (ts (ts (ts (tq (y_pick_f rfl rfl) (tq (y_assign rfl) (tr_nil (tr_thenN (tr_ret ?_)))))))))));exact tr_ret1 rfl rfl ⟨_, rfl, H⟩
 ·refine tr_seq_j (fun L' h => ∃ (x1 : Option Addr) (x15 : Bool), L' = [(1, (.pointer x1)), (15, (.bool x15))] ∧ F.xbk.j2 Q x1 x15 h) ?_ ?_
  ·rintro L' h ⟨x1, x15, rfl, H⟩;unfold F.xbk.j2 at H;refine tr_cond rfl (fun g49 => ?_) (fun g49 => ?_)
   ·replace H := H.1 g49;refine tr_seq (tr_region (tq (y_assign rfl) (tr_nil (tr_thenN (tr_ret (tr_thenR ?_))))));exact tr_ret1 rfl rfl ⟨_, rfl, H⟩
   ·replace H := H.2 g49;refine tr_skip (tr_thenN ?_);exact tr_join [(1, (.pointer x1))] ⟨rfl, trivial⟩ ⟨_, rfl, H⟩
  ·refine tr_region (tq (y_move rfl) (tq (y_neq rfl rfl) (tq (y_move rfl) ?_)));refine tr_split (t := 12) rfl (fun g50 => ?_) (fun g50 => ?_)
   ·replace H := H.1 g50;refine ts (ts (tq (y_pick_t rfl rfl) (tr_nil (tr_thenN ?_))));exact tr_join [(1, (.pointer r2)), (15, (.bool true))] ⟨rfl, rfl, trivial⟩ ⟨_, _, rfl, H⟩
   ·replace H := H.2 g50;refine tq (y_move rfl) (tq (y_pnil_eql Tryz.runUnderlying24 rfl rfl) (tq (y_pick_f rfl rfl) (tr_nil (tr_thenN ?_))));exact tr_join [(1, (.pointer r2)), (15, (.bool r2.isNone))] ⟨rfl, rfl, trivial⟩ ⟨_, _, rfl, H⟩
def F.xbs.j1 (Q : (Option Addr) -> Int -> H -> Prop) (x0 : Int) (h : H) : Prop :=
  new h ((⟨x0, (⟨none, 0, 0⟩ : Sl)⟩ : S_spateref7_Shard).cells.toArray) ty_91 fun a2 h1 =>
  Q (some a2) 0 h1
def F.xbs.j2 (Q : (Option Addr) -> Int -> H -> Prop) (x0 : Int) (x9 : Bool) (h : H) : Prop :=
  (x9 = true ->
  Q none 1 h) ∧
  (x9 = false ->
  F.xbs.j1 Q x0 h)
def F.xbs (p0 : Int) (h : H) (Q : (Option Addr) -> Int -> H -> Prop) : Prop :=
  ((decide (p0 < 2)) = true ->
  F.xbs.j2 Q p0 true h) ∧
  ((decide (p0 < 2)) = false ->
  F.xbs.j2 Q p0 (decide (p0 > 1048576)) h)
theorem F.xbs_ok {p0 : Int} {h : H} {Q : (Option Addr) -> Int -> H -> Prop} (H : F.xbs p0 h Q) : Fn PP 18 ([(.int .i64 p0)] : List Value).toArray h fun r h' => ∃ r0 r1, r = .tuple #[(.pointer r0), (.int .i64 r1)] ∧ Q r0 r1 h' := by
 unfold F.xbs at H;refine fn_of Tryz.func18 Tryz.ntmps18 rfl rfl fun w0 => (tr_sub [(0, (.int .i64 p0))] ⟨rfl, trivial⟩ (tr_seq (tr_region (tq (y_assign rfl) (tq (y_assign rfl) (tr_nil (tr_thenN ?_)))))));refine tr_seq_j (fun L' h => ∃ (x0 : Int), L' = [(0, (.int .i64 x0))] ∧ F.xbs.j1 Q x0 h) ?_ ?_
 ·rintro L' h ⟨x0, rfl, H⟩;unfold F.xbs.j1 at H;refine tr_seq (tr_region (tq (y_move rfl) (tq (f_build rfl (bd_91_0 x0)) (tr_e (f_box (cs := (⟨x0, (⟨none, 0, 0⟩ : Sl)⟩ : S_spateref7_Shard).cells.toArray) rfl rfl H) rfl rfl ?_))));rintro _ h1 ⟨a2, rfl, H⟩;refine tq (y_assign rfl) (tq (y_assign rfl) (tr_nil (tr_thenN (tr_ret ?_))));exact tr_ret2 rfl rfl rfl ⟨_, _, rfl, H⟩
 ·refine tr_seq_j (fun L' h => ∃ (x0 : Int) (x9 : Bool), L' = [(0, (.int .i64 x0)), (9, (.bool x9))] ∧ F.xbs.j2 Q x0 x9 h) ?_ ?_
  ·rintro L' h ⟨x0, x9, rfl, H⟩;unfold F.xbs.j2 at H;refine tr_cond rfl (fun g3 => ?_) (fun g3 => ?_)
   ·replace H := H.1 g3;refine tr_seq (tr_region (tq (y_assign rfl) (tq (y_assign rfl) (tr_nil (tr_thenN (tr_ret (tr_thenR ?_)))))));exact tr_ret2 rfl rfl rfl ⟨_, _, rfl, H⟩
   ·replace H := H.2 g3;refine tr_skip (tr_thenN ?_);exact tr_join [(0, (.int .i64 x0))] ⟨rfl, trivial⟩ ⟨_, rfl, H⟩
  ·refine tr_region (tq (y_move rfl) (tq (y_lss rfl rfl) (tq (y_move rfl) ?_)));refine tr_split (t := 6) rfl (fun g4 => ?_) (fun g4 => ?_)
   ·replace H := H.1 g4;refine ts (ts (tq (y_pick_t rfl rfl) (tr_nil (tr_thenN ?_))));exact tr_join [(0, (.int .i64 p0)), (9, (.bool true))] ⟨rfl, rfl, trivial⟩ ⟨_, _, rfl, H⟩
   ·replace H := H.2 g4;refine tq (y_move rfl) (tq (y_gtr rfl rfl) (tq (y_pick_f rfl rfl) (tr_nil (tr_thenN ?_))));exact tr_join [(0, (.int .i64 p0)), (9, (.bool (decide (p0 > 1048576))))] ⟨rfl, rfl, trivial⟩ ⟨_, _, rfl, H⟩
def F.xcx (p0 : S_spatelaw7_Step) (h : H) (Q : Bool -> H -> Prop) : Prop :=
  new h p0.cells.toArray ty_37 fun a2 h1 =>
  ldL h1 (a2.add 9) fun y3 =>
  ((decide ((y3.len : Int) <= 100)) = true ->
  ldL h1 (a2.add 10) fun y6 =>
  Q (decide ((y6.len : Int) <= 100)) h1) ∧
  ((decide ((y3.len : Int) <= 100)) = false ->
  Q false h1)
theorem F.xcx_ok {p0 : S_spatelaw7_Step} {h : H} {Q : Bool -> H -> Prop} (H : F.xcx p0 h Q) : Fn PP 19 ([(.agg p0.cells.toArray)] : List Value).toArray h fun r h' => ∃ r0, r = (.bool r0) ∧ Q r0 h' := by
 unfold F.xcx at H;refine fn_of Tryz.func19 Tryz.ntmps19 rfl rfl fun w0 => (tr_sub [(0, (.agg p0.cells.toArray))] ⟨rfl, trivial⟩ (tr_seq (tr_region (tr_e (f_box (cs := p0.cells.toArray) rfl rfl H) rfl rfl ?_))));rintro _ h1 ⟨a2, rfl, H⟩;refine tq (y_assign rfl) (tr_nil (tr_thenN (tr_seq (tr_region (tq (y_fa (off := 9) Tryz.runUnderlying37 fo_37_4 rfl) ?_)))));obtain ⟨y3, k4, H⟩ := H;refine tr_h (y_ld Tryz.isAgg23 rfl) k4 rfl rfl (tq (y_len (ts := #[]) Tryz.runUnderlying23 (o := y3.ptr) (n := y3.len) (cap := y3.cap) rfl) (tq (y_leq rfl rfl) (tq (y_move rfl) ?_)));refine tr_split (t := 7) rfl (fun g5 => ?_) (fun g5 => ?_)
 ·replace H := H.1 g5;refine tq (y_fa (off := 10) Tryz.runUnderlying37 fo_37_5 rfl) ?_;obtain ⟨y6, k7, H⟩ := H;refine tr_h (y_ld Tryz.isAgg35 rfl) k7 rfl rfl (tq (y_len (ts := #[]) Tryz.runUnderlying35 (o := y6.ptr) (n := y6.len) (cap := y6.cap) rfl) (tq (y_leq rfl rfl) (tq (y_pick_t rfl rfl) (tq (y_assign rfl) (tr_nil (tr_thenN (tr_ret ?_)))))));exact tr_ret1 rfl rfl ⟨_, rfl, H⟩
 ·replace H := H.2 g5;refine ts (ts (ts (ts (tq (y_pick_f rfl rfl) (tq (y_assign rfl) (tr_nil (tr_thenN (tr_ret ?_))))))));exact tr_ret1 rfl rfl ⟨_, rfl, H⟩
end Go.Proofs.YtoccbnhahaoeiaaGreat.V
