/- Parts of the proof of ShardRanges; no condition. -/
import Derived.Test.YtoccbnhahaoeiaaGreatQShardRanges0
namespace Go.Proofs.YtoccbnhahaoeiaaGreat.V
open Go
set_option linter.unusedVariables false
set_option maxRecDepth 100000
def F.xdf  (h : H) (Q : (Option Addr) -> H -> Prop) : Prop :=
  runL PP (Instr.makeSlice 110 (.int .i64 8) (.int .i64 8)) h fun s2 h1 =>
  new h1 ((⟨s2, (⟨none, 0, 0⟩ : Sl), 0, 0⟩ : S_table_Table_chain_Chain_api_Agg).cells.toArray) ty_112 fun a4 h3 =>
  Q (some a4) h3
theorem F.xdf_ok  {h : H} {Q : (Option Addr) -> H -> Prop} (H : F.xdf  h Q) : Fn PP 29 ([] : List Value).toArray h fun r h' => ∃ r0, r = (.pointer r0) ∧ Q r0 h' := by
 unfold F.xdf at H;refine fn_of Tryz.func29 Tryz.ntmps29 rfl rfl fun w0 => (tr_sub [] trivial (tr_seq (tr_region (tq (y_assign rfl) (tr_nil (tr_thenN (tr_seq (tr_region (tr_e (f_make rfl rfl H) rfl rfl ?_)))))))));rintro _ h1 ⟨s2, rfl, H⟩;refine tq (f_build rfl (bd_112_0 s2)) (tr_e (f_box (cs := (⟨s2, (⟨none, 0, 0⟩ : Sl), 0, 0⟩ : S_table_Table_chain_Chain_api_Agg).cells.toArray) rfl rfl H) rfl rfl ?_);rintro _ h3 ⟨a4, rfl, H⟩;refine tq (y_assign rfl) (tr_nil (tr_thenN (tr_ret ?_)));exact tr_ret1 rfl rfl ⟨_, rfl, H⟩
def F.xbf.j1 (Q : (Option Addr) -> Int -> H -> Prop) (x0 : Int) (h : H) : Prop :=
  F.xdf  h fun r2 h1 =>
  new h1 ((⟨(⟨0, 0, x0⟩ : S_shard_counts), r2⟩ : S_shard_Shard).cells.toArray) ty_46 fun a4 h3 =>
  Q (some a4) 0 h3
def F.xbf.j2 (Q : (Option Addr) -> Int -> H -> Prop) (x0 : Int) (x9 : Bool) (h : H) : Prop :=
  (x9 = true ->
  Q none 1 h) ∧
  (x9 = false ->
  F.xbf.j1 Q x0 h)
def F.xbf (p0 : Int) (h : H) (Q : (Option Addr) -> Int -> H -> Prop) : Prop :=
  ((decide (p0 < 2)) = true ->
  F.xbf.j2 Q p0 true h) ∧
  ((decide (p0 < 2)) = false ->
  F.xbf.j2 Q p0 (decide (p0 > 1048576)) h)
theorem F.xbf_ok {p0 : Int} {h : H} {Q : (Option Addr) -> Int -> H -> Prop} (H : F.xbf p0 h Q) : Fn PP 7 ([(.int .i64 p0)] : List Value).toArray h fun r h' => ∃ r0 r1, r = .tuple #[(.pointer r0), (.int .i64 r1)] ∧ Q r0 r1 h' := by
 unfold F.xbf at H;refine fn_of Tryz.func7 Tryz.ntmps7 rfl rfl fun w0 => (tr_sub [(0, (.int .i64 p0))] ⟨rfl, trivial⟩ (tr_seq (tr_region (tq (y_assign rfl) (tq (y_assign rfl) (tr_nil (tr_thenN ?_)))))));refine tr_seq_j (fun L' h => ∃ (x0 : Int), L' = [(0, (.int .i64 x0))] ∧ F.xbf.j1 Q x0 h) ?_ ?_
 ·rintro L' h ⟨x0, rfl, H⟩;unfold F.xbf.j1 at H;refine tr_seq (tr_region (tq (y_move rfl) (tq (f_build rfl (bd_43_2 x0)) (tr_e (e_call Tryz.call29 rfl (F.xdf_ok H)) rfl rfl ?_))));rintro _ h1 ⟨r2, rfl, H⟩;refine tq (f_build rfl (bd_46_0_1 (⟨0, 0, x0⟩ : S_shard_counts) r2)) (tr_e (f_box (cs := (⟨(⟨0, 0, x0⟩ : S_shard_counts), r2⟩ : S_shard_Shard).cells.toArray) rfl rfl H) rfl rfl ?_);rintro _ h3 ⟨a4, rfl, H⟩;refine tq (y_assign rfl) (tq (y_assign rfl) (tr_nil (tr_thenN (tr_ret ?_))));exact tr_ret2 rfl rfl rfl ⟨_, _, rfl, H⟩
 ·refine tr_seq_j (fun L' h => ∃ (x0 : Int) (x9 : Bool), L' = [(0, (.int .i64 x0)), (9, (.bool x9))] ∧ F.xbf.j2 Q x0 x9 h) ?_ ?_
  ·rintro L' h ⟨x0, x9, rfl, H⟩;unfold F.xbf.j2 at H;refine tr_cond rfl (fun g5 => ?_) (fun g5 => ?_)
   ·replace H := H.1 g5;refine tr_seq (tr_region (tq (y_assign rfl) (tq (y_assign rfl) (tr_nil (tr_thenN (tr_ret (tr_thenR ?_)))))));exact tr_ret2 rfl rfl rfl ⟨_, _, rfl, H⟩
   ·replace H := H.2 g5;refine tr_skip (tr_thenN ?_);exact tr_join [(0, (.int .i64 x0))] ⟨rfl, trivial⟩ ⟨_, rfl, H⟩
  ·refine tr_region (tq (y_move rfl) (tq (y_lss rfl rfl) (tq (y_move rfl) ?_)));refine tr_split (t := 6) rfl (fun g6 => ?_) (fun g6 => ?_)
   ·replace H := H.1 g6;refine ts (ts (tq (y_pick_t rfl rfl) (tr_nil (tr_thenN ?_))));exact tr_join [(0, (.int .i64 p0)), (9, (.bool true))] ⟨rfl, rfl, trivial⟩ ⟨_, _, rfl, H⟩
   ·replace H := H.2 g6;refine tq (y_move rfl) (tq (y_gtr rfl rfl) (tq (y_pick_f rfl rfl) (tr_nil (tr_thenN ?_))));exact tr_join [(0, (.int .i64 p0)), (9, (.bool (decide (p0 > 1048576))))] ⟨rfl, rfl, trivial⟩ ⟨_, _, rfl, H⟩
def F.xbd.j2 (Q : Int -> H -> Prop) (x17 : Bool) (h : H) : Prop :=
  (x17 = true ->
  Q 22 h) ∧
  (x17 = false ->
  Q 0 h)
def F.xbd.j1 (Q : Int -> H -> Prop) (x1 : Addr) (x3 : Bool) (h : H) : Prop :=
  (x3 = true ->
  Q 23 h) ∧
  (x3 = false ->
  ldS h (x1.add 1) fun y4 =>
  ((decide ((y4.size : Int) > 32)) = true ->
  Q 21 h) ∧
  ((decide ((y4.size : Int) > 32)) = false ->
  ldI .i64 h (x1.add 2) fun y8 =>
  ((decide (y8 < (-2305843009213693952))) = true ->
  F.xbd.j2 Q true h) ∧
  ((decide (y8 < (-2305843009213693952))) = false ->
  ldI .i64 h (x1.add 2) fun y11 =>
  F.xbd.j2 Q (decide (y11 > 2305843009213693952)) h)))
def F.xbd (p0 : S_api_Cell) (h : H) (Q : Int -> H -> Prop) : Prop :=
  new h p0.cells.toArray ty_32 fun a2 h1 =>
  ldI .i64 h1 (a2.add 0) fun y13 =>
  ((decide (y13 < 0)) = true ->
  F.xbd.j1 Q a2 true h1) ∧
  ((decide (y13 < 0)) = false ->
  ldI .i64 h1 (a2.add 0) fun y16 =>
  F.xbd.j1 Q a2 (decide (y16 > 4)) h1)
theorem F.xbd_ok {p0 : S_api_Cell} {h : H} {Q : Int -> H -> Prop} (H : F.xbd p0 h Q) : Fn PP 97 ([(.agg p0.cells.toArray)] : List Value).toArray h fun r h' => ∃ r0, r = (.int .i64 r0) ∧ Q r0 h' := by
 unfold F.xbd at H;refine fn_of Tryz.func97 Tryz.ntmps97 rfl rfl fun w0 => (tr_sub [(0, (.agg p0.cells.toArray))] ⟨rfl, trivial⟩ (tr_seq (tr_region (tr_e (f_box (cs := p0.cells.toArray) rfl rfl H) rfl rfl ?_))));rintro _ h1 ⟨a2, rfl, H⟩;refine tq (y_assign rfl) (tr_nil (tr_thenN (tr_seq (tr_block ?_))));refine tr_seq_j (fun L' h => ∃ (x1 : Addr) (x3 : Bool), L' = [(1, (.pointer (some x1))), (3, (.bool x3))] ∧ F.xbd.j1 Q x1 x3 h) ?_ ?_
 ·rintro L' h ⟨x1, x3, rfl, H⟩;unfold F.xbd.j1 at H;refine tr_cond rfl (fun g3 => ?_) (fun g3 => ?_)
  ·replace H := H.1 g3;refine tr_seq (tr_region (tq (y_assign rfl) (tr_nil (tr_thenN (tr_ret (tr_blockR (tr_thenR ?_)))))));exact tr_ret1 rfl rfl ⟨_, rfl, H⟩
  ·replace H := H.2 g3;refine tr_seq (tr_region (tq (y_fa (off := 1) Tryz.runUnderlying32 fo_32_1 rfl) ?_));obtain ⟨y4, k5, H⟩ := H;refine tr_h (y_ld Tryz.isAgg9 rfl) k5 rfl rfl (tq (y_lenS Tryz.runUnderlying9 rfl) (tq (y_gtr rfl rfl) (tq (y_assign rfl) (tr_nil (tr_thenN ?_)))));refine tr_cond rfl (fun g6 => ?_) (fun g6 => ?_)
   ·replace H := H.1 g6;refine tr_seq (tr_region (tq (y_assign rfl) (tr_nil (tr_thenN (tr_ret (tr_blockR (tr_thenR ?_)))))));exact tr_ret1 rfl rfl ⟨_, rfl, H⟩
   ·replace H := H.2 g6;refine tr_seq_j (fun L' h => ∃ (x17 : Bool), L' = [(17, (.bool x17))] ∧ F.xbd.j2 Q x17 h) ?_ ?_
    ·rintro L' h ⟨x17, rfl, H⟩;unfold F.xbd.j2 at H;refine tr_cond rfl (fun g7 => ?_) (fun g7 => ?_)
     ·replace H := H.1 g7;refine tr_seq (tr_region (tq (y_assign rfl) (tr_nil (tr_thenN (tr_ret (tr_blockR (tr_thenR ?_)))))));exact tr_ret1 rfl rfl ⟨_, rfl, H⟩
     ·replace H := H.2 g7;refine tr_skip (tr_blockN (tr_thenN (tr_seq (tr_region (tq (y_assign rfl) (tr_nil (tr_thenN (tr_ret ?_))))))));exact tr_ret1 rfl rfl ⟨_, rfl, H⟩
    ·refine tr_region (tq (y_fa (off := 2) Tryz.runUnderlying32 fo_32_2 rfl) ?_);obtain ⟨y8, k9, H⟩ := H;refine tr_h (y_ld Tryz.isAgg2 rfl) k9 rfl rfl (tq (y_lss rfl rfl) (tq (y_move rfl) ?_));refine tr_split (t := 21) rfl (fun g10 => ?_) (fun g10 => ?_)
     ·replace H := H.1 g10;refine ts (ts (ts (tq (y_pick_t rfl rfl) (tq (y_assign rfl) (tr_nil (tr_thenN ?_))))));exact tr_join [(17, (.bool true))] ⟨rfl, trivial⟩ ⟨_, rfl, H⟩
     ·replace H := H.2 g10;refine tq (y_fa (off := 2) Tryz.runUnderlying32 fo_32_2 rfl) ?_;obtain ⟨y11, k12, H⟩ := H;refine tr_h (y_ld Tryz.isAgg2 rfl) k12 rfl rfl (tq (y_gtr rfl rfl) (tq (y_pick_f rfl rfl) (tq (y_assign rfl) (tr_nil (tr_thenN ?_)))));exact tr_join [(17, (.bool (decide (y11 > 2305843009213693952))))] ⟨rfl, trivial⟩ ⟨_, rfl, H⟩
 ·refine tr_region (tq (y_fa (off := 0) Tryz.runUnderlying32 fo_32_0 rfl) ?_);obtain ⟨y13, k14, H⟩ := H;refine tr_h (y_ld Tryz.isAgg3 rfl) k14 rfl rfl (tq (y_lss rfl rfl) (tq (y_move rfl) ?_));refine tr_split (t := 7) rfl (fun g15 => ?_) (fun g15 => ?_)
  ·replace H := H.1 g15;refine ts (ts (ts (tq (y_pick_t rfl rfl) (tq (y_assign rfl) (tr_nil (tr_thenN ?_))))));exact tr_join [(1, (.pointer (some a2))), (3, (.bool true))] ⟨rfl, rfl, trivial⟩ ⟨_, _, rfl, H⟩
  ·replace H := H.2 g15;refine tq (y_fa (off := 0) Tryz.runUnderlying32 fo_32_0 rfl) ?_;obtain ⟨y16, k17, H⟩ := H;refine tr_h (y_ld Tryz.isAgg3 rfl) k17 rfl rfl (tq (y_gtr rfl rfl) (tq (y_pick_f rfl rfl) (tq (y_assign rfl) (tr_nil (tr_thenN ?_)))));exact tr_join [(1, (.pointer (some a2))), (3, (.bool (decide (y16 > 4))))] ⟨rfl, rfl, trivial⟩ ⟨_, _, rfl, H⟩
def F.xbc.l2 (Q : ByteArray -> Int -> H -> Prop) : Nat -> Sl -> Int -> Int -> H -> Prop
  | 0, _, _, _, _ => False
  | q2 + 1, x5, x7, x8, h =>
    ((decide (x8 >= 0)) = true ->
    0 <= (x8 : Int) ∧
    newL h #[(.int .u8 (IntKind.wrap .u8 (Int.fdiv x7 (2 ^ (min (x8 : Int).toNat (IntKind.bits .u64)) : Int))))] ty_5 1 fun s41 h40 =>
    runL PP (Builtin.append_ #[73, 73] 73 #[x5.enc, s41.enc]) h40 fun s43 h42 =>
    (F.xbc.l2 Q q2) s43 x7 (IntKind.wrap .i64 (x8 - 8)) h42) ∧
    ((decide (x8 >= 0)) = false ->
    runT PP (convert 73 9 x5.enc) h fun s45 h44 =>
    Q s45 0 h44)
def F.xbc.l1 (Q : ByteArray -> Int -> H -> Prop) : Nat -> Addr -> Sl -> Int -> Int -> H -> Prop
  | 0, _, _, _, _, _ => False
  | q1 + 1, x1, x5, x20, x21, h =>
    ((decide (x21 < x20)) = true ->
    ldS h (x1.add 1) fun y15 =>
    idxS y15 x21 fun b17 =>
    newL h #[(.int .u8 b17)] ty_5 1 fun s20 h19 =>
    runL PP (Builtin.append_ #[73, 73] 73 #[x5.enc, s20.enc]) h19 fun s22 h21 =>
    ldS h21 (x1.add 1) fun y23 =>
    idxS y23 x21 fun b25 =>
    (((b25 == 0)) = true ->
    newL h21 #[(.int .u8 255)] ty_5 1 fun s29 h28 =>
    runL PP (Builtin.append_ #[73, 73] 73 #[s22.enc, s29.enc]) h28 fun s31 h30 =>
    (F.xbc.l1 Q q1) x1 s31 x20 (IntKind.wrap .i64 (x21 + 1)) h30) ∧
    (((b25 == 0)) = false ->
    (F.xbc.l1 Q q1) x1 s22 x20 (IntKind.wrap .i64 (x21 + 1)) h21)) ∧
    ((decide (x21 < x20)) = false ->
    newL h #[(.int .u8 0), (.int .u8 1)] ty_5 2 fun s33 h32 =>
    runL PP (Builtin.append_ #[73, 73] 73 #[x5.enc, s33.enc]) h32 fun s35 h34 =>
    ldI .i64 h34 (x1.add 2) fun y36 =>
    ∃ m, F.xbc.l2 Q m s35 (IntKind.wrap .u64 ((IntKind.wrap .u64 y36) + 9223372036854775808)) 56 h34)
def F.xbc (p0 : S_api_Cell) (h : H) (Q : ByteArray -> Int -> H -> Prop) : Prop :=
  new h p0.cells.toArray ty_32 fun a2 h1 =>
  ld_S_api_Cell h1 a2 fun y3 =>
  F.xbd y3 h1 fun r6 h5 =>
  (((r6 != 0)) = true ->
  Q (⟨#[]⟩ : ByteArray) r6 h5) ∧
  (((r6 != 0)) = false ->
  ldI .i64 h5 (a2.add 0) fun y8 =>
  newL h5 #[(.int .u8 (IntKind.wrap .u8 y8))] ty_5 1 fun s11 h10 =>
  ldS h10 (a2.add 1) fun y12 =>
  ∃ m, F.xbc.l1 Q m a2 s11 (y12.size : Int) 0 h10)
theorem F.xbc_ok {p0 : S_api_Cell} {h : H} {Q : ByteArray -> Int -> H -> Prop} (H : F.xbc p0 h Q) : Fn PP 76 ([(.agg p0.cells.toArray)] : List Value).toArray h fun r h' => ∃ r0 r1, r = .tuple #[(.string r0), (.int .i64 r1)] ∧ Q r0 r1 h' := by
 unfold F.xbc at H;refine fn_of Tryz.func76 Tryz.ntmps76 rfl rfl fun w0 => (tr_sub [(0, (.agg p0.cells.toArray))] ⟨rfl, trivial⟩ (tr_seq (tr_region (tr_e (f_box (cs := p0.cells.toArray) rfl rfl H) rfl rfl ?_))));rintro _ h1 ⟨a2, rfl, H⟩;refine tq (y_assign rfl) (tq (y_assign rfl) (tr_nil (tr_thenN (tr_seq (tr_seq (tr_region ?_))))));obtain ⟨y3, k4, H⟩ := H;refine tr_h (y_ldS Tryz.isAgg32 Tryz.sizeOf32 rfl rfl) k4 rfl rfl (tr_e (e_call Tryz.call97 rfl (F.xbd_ok H)) rfl rfl ?_);rintro _ h5 ⟨r6, rfl, H⟩;refine tq (y_assign rfl) (tr_nil (tr_thenN (tr_seq (tr_region (tq (y_move rfl) (tq (y_neq rfl rfl) (tr_nil (tr_thenN ?_))))))));refine tr_cond rfl (fun g7 => ?_) (fun g7 => ?_)
 ·replace H := H.1 g7;refine tr_seq (tr_region (tq (y_move rfl) (tq (y_assign rfl) (tq (y_assign rfl) (tr_nil (tr_thenN (tr_ret (tr_thenR ?_))))))));exact tr_ret2 rfl rfl rfl ⟨_, _, rfl, H⟩
 ·replace H := H.2 g7;refine tr_skip (tr_thenN (tr_seq (tr_region (tq (y_fa (off := 0) Tryz.runUnderlying32 fo_32_0 rfl) ?_))));obtain ⟨y8, k9, H⟩ := H;refine tr_h (y_ld Tryz.isAgg3 rfl) k9 rfl rfl (tq (y_cvt Tryz.runUnderlying3 Tryz.runUnderlying5 rfl) (tr_e (f_buildL (cs := #[(.int .u8 (IntKind.wrap .u8 y8))]) rfl rfl (bl_73_1_0 (IntKind.wrap .u8 y8)) H) rfl rfl ?_));rintro _ h10 ⟨s11, rfl, H⟩;refine tq (y_assign rfl) (tr_nil (tr_thenN (tr_seq (tr_seq (tr_region (tq (y_fa (off := 1) Tryz.runUnderlying32 fo_32_1 rfl) ?_))))));obtain ⟨y12, k13, H⟩ := H;refine tr_h (y_ld Tryz.isAgg9 rfl) k13 rfl rfl (tq (y_lenS Tryz.runUnderlying9 rfl) (tq (y_move rfl) (tr_nil (tr_thenN (tr_block ?_)))));obtain ⟨m47, H⟩ := H;refine tr_sub [(1, (.pointer (some a2))), (5, s11.enc), (20, (.int .i64 (y12.size : Int))), (21, (.int .i64 0))] ⟨rfl, rfl, rfl, rfl, trivial⟩ ?_;refine tr_loop_j (fun m L' h => ∃ (x1 : Addr) (x5 : Sl) (x20 : Int) (x21 : Int), L' = [(1, (.pointer (some x1))), (5, x5.enc), (20, (.int .i64 x20)), (21, (.int .i64 x21))] ∧ F.xbc.l1 Q m x1 x5 x20 x21 h) ?_ ?_ m47 ⟨_, _, _, _, rfl, H⟩
  ·rintro L' h ⟨_, _, _, _, _, H⟩; exact H
  ·rintro q1 L' h ⟨x1, x5, x20, x21, rfl, H⟩;unfold F.xbc.l1 at H;refine tr_seq (tr_region (tq (y_lss rfl rfl) (tr_nil (tr_thenN (tr_seq ?_)))));refine tr_cond rfl (fun g14 => ?_) (fun g14 => ?_)
   ·replace H := H.1 g14;refine tr_skip (tr_thenN (tr_seq (tr_block (tr_seq (tr_region (tq (y_move rfl) (tq (y_assign rfl) (tr_nil (tr_thenN (tr_seq (tr_region (tq (y_move rfl) (tq (y_fa (off := 1) Tryz.runUnderlying32 fo_32_1 rfl) ?_)))))))))))));obtain ⟨y15, k16, H⟩ := H;refine tr_h (y_ld Tryz.isAgg9 rfl) k16 rfl rfl (tq (y_move rfl) ?_);obtain ⟨b17, e18, H⟩ := H;refine tq (f_idxS Tryz.runUnderlying9 rfl rfl e18) (tr_e (f_buildL (cs := #[(.int .u8 b17)]) rfl rfl (bl_73_1_0 b17) H) rfl rfl ?_);rintro _ h19 ⟨s20, rfl, H⟩;refine tr_e (f_app rfl H) rfl rfl ?_;rintro _ h21 ⟨s22, rfl, H⟩;refine tq (y_assign rfl) (tr_nil (tr_thenN (tr_seq (tr_region (tq (y_fa (off := 1) Tryz.runUnderlying32 fo_32_1 rfl) ?_)))));obtain ⟨y23, k24, H⟩ := H;refine tr_h (y_ld Tryz.isAgg9 rfl) k24 rfl rfl (tq (y_move rfl) ?_);obtain ⟨b25, e26, H⟩ := H;refine tq (f_idxS Tryz.runUnderlying9 rfl rfl e26) (tq (y_eql rfl rfl) (tr_nil (tr_thenN ?_)));refine tr_cond rfl (fun g27 => ?_) (fun g27 => ?_)
    ·replace H := H.1 g27;refine tr_region (tq (y_move rfl) (tr_e (f_buildL (cs := #[(.int .u8 255)]) rfl rfl (bl_73_1_0 255) H) rfl rfl ?_));rintro _ h28 ⟨s29, rfl, H⟩;refine tr_e (f_app rfl H) rfl rfl ?_;rintro _ h30 ⟨s31, rfl, H⟩;refine tq (y_assign rfl) (tr_nil (tr_blockN (tr_thenN (tr_region (tq (y_add rfl rfl) (tq (y_move rfl) (tr_nil (tr_thenN ?_))))))));exact tr_join [(1, (.pointer (some x1))), (5, s31.enc), (20, (.int .i64 x20)), (21, (.int .i64 (IntKind.wrap .i64 (x21 + 1))))] ⟨rfl, rfl, rfl, rfl, trivial⟩ ⟨_, _, _, _, rfl, H⟩
    ·replace H := H.2 g27;refine tr_skip (tr_blockN (tr_thenN (tr_region (tq (y_add rfl rfl) (tq (y_move rfl) (tr_nil (tr_thenN ?_)))))));exact tr_join [(1, (.pointer (some x1))), (5, s22.enc), (20, (.int .i64 x20)), (21, (.int .i64 (IntKind.wrap .i64 (x21 + 1))))] ⟨rfl, rfl, rfl, rfl, trivial⟩ ⟨_, _, _, _, rfl, H⟩
   ·replace H := H.2 g14;refine tr_exit (tr_thenE (tr_thenE (tr_hit (tr_thenN (tr_seq (tr_region (tq (y_move rfl) (tr_e (f_buildL (cs := #[(.int .u8 0), (.int .u8 1)]) rfl rfl (bl_73_2_0_1 0 1) H) rfl rfl ?_))))))));rintro _ h32 ⟨s33, rfl, H⟩;refine tr_e (f_app rfl H) rfl rfl ?_;rintro _ h34 ⟨s35, rfl, H⟩;refine tq (y_assign rfl) (tr_nil (tr_thenN (tr_seq (tr_region (tq (y_fa (off := 2) Tryz.runUnderlying32 fo_32_2 rfl) ?_)))));obtain ⟨y36, k37, H⟩ := H;refine tr_h (y_ld Tryz.isAgg2 rfl) k37 rfl rfl (tq (y_cvt Tryz.runUnderlying2 Tryz.runUnderlying121 rfl) (tq (y_add rfl rfl) (tq (y_assign rfl) (tr_nil (tr_thenN (tr_seq (tr_seq (tr_region (tq (y_assign rfl) (tr_nil (tr_thenN (tr_block ?_))))))))))));obtain ⟨m46, H⟩ := H;refine tr_sub [(5, s35.enc), (7, (.int .u64 (IntKind.wrap .u64 ((IntKind.wrap .u64 y36) + 9223372036854775808)))), (8, (.int .i64 56))] ⟨rfl, rfl, rfl, trivial⟩ ?_;refine tr_loop_j (fun m L' h => ∃ (x5 : Sl) (x7 : Int) (x8 : Int), L' = [(5, x5.enc), (7, (.int .u64 x7)), (8, (.int .i64 x8))] ∧ F.xbc.l2 Q m x5 x7 x8 h) ?_ ?_ m46 ⟨_, _, _, rfl, H⟩
    ·rintro L' h ⟨_, _, _, _, H⟩; exact H
    ·rintro q2 L' h ⟨x5, x7, x8, rfl, H⟩;unfold F.xbc.l2 at H;refine tr_seq (tr_seq (tr_region (tq (y_move rfl) (tq (y_geq rfl rfl) (tr_nil (tr_thenN ?_))))));refine tr_cond rfl (fun g38 => ?_) (fun g38 => ?_)
     ·replace H := H.1 g38;refine tr_skip (tr_thenN (tr_seq (tr_block (tr_region (tq (y_move rfl) (tq (y_move rfl) (tq (y_move rfl) ?_)))))));obtain ⟨e39, H⟩ := H;refine tq (y_shr rfl rfl e39) (tq (y_cvt Tryz.runUnderlying121 Tryz.runUnderlying5 rfl) (tr_e (f_buildL (cs := #[(.int .u8 (IntKind.wrap .u8 (Int.fdiv x7 (2 ^ (min (x8 : Int).toNat (IntKind.bits .u64)) : Int))))]) rfl rfl (bl_73_1_0 (IntKind.wrap .u8 (Int.fdiv x7 (2 ^ (min (x8 : Int).toNat (IntKind.bits .u64)) : Int)))) H) rfl rfl ?_));rintro _ h40 ⟨s41, rfl, H⟩;refine tr_e (f_app rfl H) rfl rfl ?_;rintro _ h42 ⟨s43, rfl, H⟩;refine tq (y_assign rfl) (tr_nil (tr_blockN (tr_thenN (tr_region (tq (y_move rfl) (tq (y_sub rfl rfl) (tq (y_assign rfl) (tr_nil (tr_thenN ?_)))))))));exact tr_join [(5, s43.enc), (7, (.int .u64 x7)), (8, (.int .i64 (IntKind.wrap .i64 (x8 - 8))))] ⟨rfl, rfl, rfl, trivial⟩ ⟨_, _, _, rfl, H⟩
     ·replace H := H.2 g38;refine tr_exit (tr_thenE (tr_thenE (tr_hit (tr_thenN (tr_seq (tr_region (tq (y_move rfl) (tr_e (f_cvtT rfl H) rfl rfl ?_))))))));rintro _ h44 ⟨s45, rfl, H⟩;refine tq (y_assign rfl) (tq (y_assign rfl) (tr_nil (tr_thenN (tr_ret ?_))));exact tr_ret2 rfl rfl rfl ⟨_, _, rfl, H⟩
def F.xak.j1 (Q : ByteArray -> Int -> H -> Prop) (x1 : Addr) (h : H) : Prop :=
  ld_S_api_Cell h x1 fun y3 =>
  F.xbc y3 h fun r6 r7 h5 =>
  Q r6 r7 h5
def F.xak.j4 (Q : ByteArray -> Int -> H -> Prop) (x1 : Addr) (x24 : Bool) (h : H) : Prop :=
  (x24 = true ->
  Q (⟨#[]⟩ : ByteArray) 22 h) ∧
  (x24 = false ->
  F.xak.j1 Q x1 h)
def F.xak.j3 (Q : ByteArray -> Int -> H -> Prop) (x1 : Addr) (x13 : Bool) (h : H) : Prop :=
  (x13 = true ->
  Q (⟨#[]⟩ : ByteArray) 21 h) ∧
  (x13 = false ->
  ldI .i64 h (x1.add 2) fun y11 =>
  ((decide (y11 < (-2305843009213693952))) = true ->
  F.xak.j4 Q x1 true h) ∧
  ((decide (y11 < (-2305843009213693952))) = false ->
  ldI .i64 h (x1.add 2) fun y14 =>
  F.xak.j4 Q x1 (decide (y14 > 2305843009213693952)) h))
def F.xak.j2 (Q : ByteArray -> Int -> H -> Prop) (x1 : Addr) (x4 : Bool) (h : H) : Prop :=
  (x4 = true ->
  Q (⟨#[]⟩ : ByteArray) 23 h) ∧
  (x4 = false ->
  ldS h (x1.add 1) fun y16 =>
  ((decide ((y16.size : Int) < 1)) = true ->
  F.xak.j3 Q x1 true h) ∧
  ((decide ((y16.size : Int) < 1)) = false ->
  ldS h (x1.add 1) fun y19 =>
  F.xak.j3 Q x1 (decide ((y19.size : Int) > 32)) h))
def F.xak (p0 : S_api_Cell) (h : H) (Q : ByteArray -> Int -> H -> Prop) : Prop :=
  new h p0.cells.toArray ty_32 fun a2 h1 =>
  ldI .i64 h1 (a2.add 0) fun y21 =>
  ((decide (y21 < 0)) = true ->
  F.xak.j2 Q a2 true h1) ∧
  ((decide (y21 < 0)) = false ->
  ldI .i64 h1 (a2.add 0) fun y24 =>
  F.xak.j2 Q a2 (decide (y24 >= 4)) h1)
theorem F.xak_ok {p0 : S_api_Cell} {h : H} {Q : ByteArray -> Int -> H -> Prop} (H : F.xak p0 h Q) : Fn PP 39 ([(.agg p0.cells.toArray)] : List Value).toArray h fun r h' => ∃ r0 r1, r = .tuple #[(.string r0), (.int .i64 r1)] ∧ Q r0 r1 h' := by
 unfold F.xak at H;refine fn_of Tryz.func39 Tryz.ntmps39 rfl rfl fun w0 => (tr_sub [(0, (.agg p0.cells.toArray))] ⟨rfl, trivial⟩ (tr_seq (tr_region (tr_e (f_box (cs := p0.cells.toArray) rfl rfl H) rfl rfl ?_))));rintro _ h1 ⟨a2, rfl, H⟩;refine tq (y_assign rfl) (tq (y_assign rfl) (tr_nil (tr_thenN ?_)));refine tr_seq_j (fun L' h => ∃ (x1 : Addr), L' = [(1, (.pointer (some x1)))] ∧ F.xak.j1 Q x1 h) ?_ ?_
 ·rintro L' h ⟨x1, rfl, H⟩;unfold F.xak.j1 at H;refine tr_seq (tr_region ?_);obtain ⟨y3, k4, H⟩ := H;refine tr_h (y_ldS Tryz.isAgg32 Tryz.sizeOf32 rfl rfl) k4 rfl rfl (tr_e (e_call Tryz.call76 rfl (F.xbc_ok H)) rfl rfl ?_);rintro _ h5 ⟨r6, r7, rfl, H⟩;refine tq (y_ext rfl rfl) (tq (y_ext rfl rfl) (tq (y_assign rfl) (tq (y_assign rfl) (tr_nil (tr_thenN (tr_ret ?_))))));exact tr_ret2 rfl rfl rfl ⟨_, _, rfl, H⟩
 ·refine tr_block ?_;refine tr_seq_j (fun L' h => ∃ (x1 : Addr) (x4 : Bool), L' = [(1, (.pointer (some x1))), (4, (.bool x4))] ∧ F.xak.j2 Q x1 x4 h) ?_ ?_
  ·rintro L' h ⟨x1, x4, rfl, H⟩;unfold F.xak.j2 at H;refine tr_cond rfl (fun g8 => ?_) (fun g8 => ?_)
   ·replace H := H.1 g8;refine tr_seq (tr_region (tq (y_assign rfl) (tq (y_assign rfl) (tr_nil (tr_thenN (tr_ret (tr_blockR (tr_thenR ?_))))))));exact tr_ret2 rfl rfl rfl ⟨_, _, rfl, H⟩
   ·replace H := H.2 g8;refine tr_seq_j (fun L' h => ∃ (x1 : Addr) (x13 : Bool), L' = [(1, (.pointer (some x1))), (13, (.bool x13))] ∧ F.xak.j3 Q x1 x13 h) ?_ ?_
    ·rintro L' h ⟨x1, x13, rfl, H⟩;unfold F.xak.j3 at H;refine tr_cond rfl (fun g9 => ?_) (fun g9 => ?_)
     ·replace H := H.1 g9;refine tr_seq (tr_region (tq (y_assign rfl) (tq (y_assign rfl) (tr_nil (tr_thenN (tr_ret (tr_blockR (tr_thenR ?_))))))));exact tr_ret2 rfl rfl rfl ⟨_, _, rfl, H⟩
     ·replace H := H.2 g9;refine tr_seq_j (fun L' h => ∃ (x1 : Addr) (x24 : Bool), L' = [(1, (.pointer (some x1))), (24, (.bool x24))] ∧ F.xak.j4 Q x1 x24 h) ?_ ?_
      ·rintro L' h ⟨x1, x24, rfl, H⟩;unfold F.xak.j4 at H;refine tr_cond rfl (fun g10 => ?_) (fun g10 => ?_)
       ·replace H := H.1 g10;refine tr_seq (tr_region (tq (y_assign rfl) (tq (y_assign rfl) (tr_nil (tr_thenN (tr_ret (tr_blockR (tr_thenR ?_))))))));exact tr_ret2 rfl rfl rfl ⟨_, _, rfl, H⟩
       ·replace H := H.2 g10;refine tr_skip (tr_blockN (tr_thenN ?_));exact tr_join [(1, (.pointer (some x1)))] ⟨rfl, trivial⟩ ⟨_, rfl, H⟩
      ·refine tr_region (tq (y_fa (off := 2) Tryz.runUnderlying32 fo_32_2 rfl) ?_);obtain ⟨y11, k12, H⟩ := H;refine tr_h (y_ld Tryz.isAgg2 rfl) k12 rfl rfl (tq (y_lss rfl rfl) (tq (y_move rfl) ?_));refine tr_split (t := 28) rfl (fun g13 => ?_) (fun g13 => ?_)
       ·replace H := H.1 g13;refine ts (ts (ts (tq (y_pick_t rfl rfl) (tq (y_assign rfl) (tr_nil (tr_thenN ?_))))));exact tr_join [(1, (.pointer (some x1))), (24, (.bool true))] ⟨rfl, rfl, trivial⟩ ⟨_, _, rfl, H⟩
       ·replace H := H.2 g13;refine tq (y_fa (off := 2) Tryz.runUnderlying32 fo_32_2 rfl) ?_;obtain ⟨y14, k15, H⟩ := H;refine tr_h (y_ld Tryz.isAgg2 rfl) k15 rfl rfl (tq (y_gtr rfl rfl) (tq (y_pick_f rfl rfl) (tq (y_assign rfl) (tr_nil (tr_thenN ?_)))));exact tr_join [(1, (.pointer (some x1))), (24, (.bool (decide (y14 > 2305843009213693952))))] ⟨rfl, rfl, trivial⟩ ⟨_, _, rfl, H⟩
    ·refine tr_region (tq (y_fa (off := 1) Tryz.runUnderlying32 fo_32_1 rfl) ?_);obtain ⟨y16, k17, H⟩ := H;refine tr_h (y_ld Tryz.isAgg9 rfl) k17 rfl rfl (tq (y_lenS Tryz.runUnderlying9 rfl) (tq (y_lss rfl rfl) (tq (y_move rfl) ?_)));refine tr_split (t := 18) rfl (fun g18 => ?_) (fun g18 => ?_)
     ·replace H := H.1 g18;refine ts (ts (ts (ts (tq (y_pick_t rfl rfl) (tq (y_assign rfl) (tr_nil (tr_thenN ?_)))))));exact tr_join [(1, (.pointer (some x1))), (13, (.bool true))] ⟨rfl, rfl, trivial⟩ ⟨_, _, rfl, H⟩
     ·replace H := H.2 g18;refine tq (y_fa (off := 1) Tryz.runUnderlying32 fo_32_1 rfl) ?_;obtain ⟨y19, k20, H⟩ := H;refine tr_h (y_ld Tryz.isAgg9 rfl) k20 rfl rfl (tq (y_lenS Tryz.runUnderlying9 rfl) (tq (y_gtr rfl rfl) (tq (y_pick_f rfl rfl) (tq (y_assign rfl) (tr_nil (tr_thenN ?_))))));exact tr_join [(1, (.pointer (some x1))), (13, (.bool (decide ((y19.size : Int) > 32))))] ⟨rfl, rfl, trivial⟩ ⟨_, _, rfl, H⟩
  ·refine tr_region (tq (y_fa (off := 0) Tryz.runUnderlying32 fo_32_0 rfl) ?_);obtain ⟨y21, k22, H⟩ := H;refine tr_h (y_ld Tryz.isAgg3 rfl) k22 rfl rfl (tq (y_lss rfl rfl) (tq (y_move rfl) ?_));refine tr_split (t := 8) rfl (fun g23 => ?_) (fun g23 => ?_)
   ·replace H := H.1 g23;refine ts (ts (ts (tq (y_pick_t rfl rfl) (tq (y_assign rfl) (tr_nil (tr_thenN ?_))))));exact tr_join [(1, (.pointer (some a2))), (4, (.bool true))] ⟨rfl, rfl, trivial⟩ ⟨_, _, rfl, H⟩
   ·replace H := H.2 g23;refine tq (y_fa (off := 0) Tryz.runUnderlying32 fo_32_0 rfl) ?_;obtain ⟨y24, k25, H⟩ := H;refine tr_h (y_ld Tryz.isAgg3 rfl) k25 rfl rfl (tq (y_geq rfl rfl) (tq (y_pick_f rfl rfl) (tq (y_assign rfl) (tr_nil (tr_thenN ?_)))));exact tr_join [(1, (.pointer (some a2))), (4, (.bool (decide (y24 >= 4))))] ⟨rfl, rfl, trivial⟩ ⟨_, _, rfl, H⟩
def F.xce.l1 (Q : Int -> H -> Prop) : Nat -> Int -> Sl -> Int -> Int -> H -> Prop
  | 0, _, _, _, _, _ => False
  | q1 + 1, x3, x7, x8, x9, h =>
    ((decide (x9 < x8)) = true ->
    idxA x7 x9 1 fun a4 =>
    ldI .u8 h a4 fun y6 =>
    (F.xce.l1 Q q1) (IntKind.wrap .u64 ((bitsOf .xor .u64 x3 (IntKind.wrap .u64 y6)) * 1099511628211)) x7 x8 (IntKind.wrap .i64 (x9 + 1)) h) ∧
    ((decide (x9 < x8)) = false ->
    Q x3 h)
def F.xce (p0 : ByteArray) (h : H) (Q : Int -> H -> Prop) : Prop :=
  runL PP (convert 9 73 (.string p0)) h fun s2 h1 =>
  ∃ m, F.xce.l1 Q m 14695981039346656037 s2 (s2.len : Int) 0 h1
theorem F.xce_ok {p0 : ByteArray} {h : H} {Q : Int -> H -> Prop} (H : F.xce p0 h Q) : Fn PP 126 ([(.string p0)] : List Value).toArray h fun r h' => ∃ r0, r = (.int .u64 r0) ∧ Q r0 h' := by
 unfold F.xce at H;refine fn_of Tryz.func126 Tryz.ntmps126 rfl rfl fun w0 => (tr_sub [(0, (.string p0))] ⟨rfl, trivial⟩ (tr_seq (tr_region (tq (y_assign rfl) (tr_nil (tr_thenN (tr_seq (tr_region (tq (y_assign rfl) (tr_nil (tr_thenN (tr_seq (tr_seq ?_)))))))))))));refine tr_region (tq (y_move rfl) (tr_e (f_cvtL rfl H) rfl rfl ?_));rintro _ h1 ⟨s2, rfl, H⟩;refine tq (y_len (ts := #[]) Tryz.runUnderlying73 (o := s2.ptr) (n := s2.len) (cap := s2.cap) rfl) (tq (y_move rfl) (tr_nil (tr_thenN (tr_block ?_))));obtain ⟨m8, H⟩ := H;refine tr_sub [(3, (.int .u64 14695981039346656037)), (7, s2.enc), (8, (.int .i64 (s2.len : Int))), (9, (.int .i64 0))] ⟨rfl, rfl, rfl, rfl, trivial⟩ ?_;refine tr_loop_j (fun m L' h => ∃ (x3 : Int) (x7 : Sl) (x8 : Int) (x9 : Int), L' = [(3, (.int .u64 x3)), (7, x7.enc), (8, (.int .i64 x8)), (9, (.int .i64 x9))] ∧ F.xce.l1 Q m x3 x7 x8 x9 h) ?_ ?_ m8 ⟨_, _, _, _, rfl, H⟩
 ·rintro L' h ⟨_, _, _, _, _, H⟩; exact H
 ·rintro q1 L' h ⟨x3, x7, x8, x9, rfl, H⟩;unfold F.xce.l1 at H;refine tr_seq (tr_region (tq (y_lss rfl rfl) (tr_nil (tr_thenN (tr_seq ?_)))));refine tr_cond rfl (fun g3 => ?_) (fun g3 => ?_)
  ·replace H := H.1 g3;refine tr_skip (tr_thenN (tr_seq (tr_block (tr_seq (tr_region ?_)))));obtain ⟨a4, e5, H⟩ := H;refine tq (f_idx (s := x7) Tryz.runUnderlying73 Tryz.sizeOf5 rfl rfl e5) ?_;obtain ⟨y6, k7, H⟩ := H;refine tr_h (y_ld Tryz.isAgg5 rfl) k7 rfl rfl (tq (y_assign rfl) (tr_nil (tr_thenN (tr_region (tq (y_move rfl) (tq (y_move rfl) (tq (y_cvt Tryz.runUnderlying5 Tryz.runUnderlying121 rfl) (tq (y_xor rfl rfl) (tq (y_mul rfl rfl) (tq (y_assign rfl) (tr_nil (tr_blockN (tr_thenN ?_)))))))))))));refine tr_region (tq (y_add rfl rfl) (tq (y_move rfl) (tr_nil (tr_thenN ?_))));exact tr_join [(3, (.int .u64 (IntKind.wrap .u64 ((bitsOf .xor .u64 x3 (IntKind.wrap .u64 y6)) * 1099511628211)))), (7, x7.enc), (8, (.int .i64 x8)), (9, (.int .i64 (IntKind.wrap .i64 (x9 + 1))))] ⟨rfl, rfl, rfl, rfl, trivial⟩ ⟨_, _, _, _, rfl, H⟩
  ·replace H := H.2 g3;refine tr_exit (tr_thenE (tr_thenE (tr_hit (tr_thenN (tr_seq (tr_region (tq (y_move rfl) (tq (y_assign rfl) (tr_nil (tr_thenN (tr_ret ?_)))))))))));exact tr_ret1 rfl rfl ⟨_, rfl, H⟩
def F.xct (p0 : Sl) (p1 : ByteArray) (h : H) (Q : Int -> H -> Prop) : Prop :=
  F.xce p1 h fun r2 h1 =>
  ((IntKind.wrap .u64 (p0.len : Int)) : Int) ≠ 0 ∧
  Q (IntKind.wrap .i64 (Int.tmod r2 (IntKind.wrap .u64 (p0.len : Int)))) h1
theorem F.xct_ok {p0 : Sl} {p1 : ByteArray} {h : H} {Q : Int -> H -> Prop} (H : F.xct p0 p1 h Q) : Fn PP 100 ([p0.enc, (.string p1)] : List Value).toArray h fun r h' => ∃ r0, r = (.int .i64 r0) ∧ Q r0 h' := by
 unfold F.xct at H;refine fn_of Tryz.func100 Tryz.ntmps100 rfl rfl fun w0 => (tr_sub [(0, p0.enc), (1, (.string p1))] ⟨rfl, rfl, trivial⟩ (tr_seq (tr_region (tq (y_assign rfl) (tr_nil (tr_thenN (tr_seq (tr_region (tq (y_move rfl) (tr_e (e_call Tryz.call126 rfl (F.xce_ok H)) rfl rfl ?_))))))))));rintro _ h1 ⟨r2, rfl, H⟩;refine tq (y_move rfl) (tq (y_len (ts := #[]) Tryz.runUnderlying110 (o := p0.ptr) (n := p0.len) (cap := p0.cap) rfl) (tq (y_cvt Tryz.runUnderlying3 Tryz.runUnderlying121 rfl) ?_));obtain ⟨e3, H⟩ := H;refine tq (y_rem rfl rfl e3) (tq (y_cvt Tryz.runUnderlying121 Tryz.runUnderlying3 rfl) (tq (y_assign rfl) (tr_nil (tr_thenN (tr_ret ?_)))));exact tr_ret1 rfl rfl ⟨_, rfl, H⟩
def F.xaj.j2 (Q : Int -> Bool -> H -> Prop) (C1 : Sl -> ByteArray -> Int -> H -> Prop) (x0 : Sl) (x1 : ByteArray) (x6 : Int) (h : H) : Prop :=
  ((x0.len : Int) : Int) ≠ 0 ∧
  C1 x0 x1 (Int.tmod (IntKind.wrap .i64 (x6 + 1)) (x0.len : Int)) h
def F.xaj.j3 (Q : Int -> Bool -> H -> Prop) (C1 : Sl -> ByteArray -> Int -> H -> Prop) (x0 : Sl) (x1 : ByteArray) (x6 : Int) (x38 : Bool) (h : H) : Prop :=
  (x38 = true ->
  Q x6 true h) ∧
  (x38 = false ->
  F.xaj.j2 Q C1 x0 x1 x6 h)
def F.xaj.l1 (Q : Int -> Bool -> H -> Prop) : Nat -> Sl -> ByteArray -> Int -> H -> Prop
  | 0, _, _, _, _ => False
  | q1 + 1, x0, x1, x6, h =>
    idxA x0 x6 3 fun a4 =>
    ldI .u8 h (a4.add 0) fun y6 =>
    (((y6 != 0)) = true ->
    idxA x0 x6 3 fun a11 =>
    ldI .u8 h (a11.add 0) fun y13 =>
    (((y13 == 1)) = true ->
    idxA x0 x6 3 fun a16 =>
    ldS h (a16.add 1) fun y18 =>
    F.xaj.j3 Q (F.xaj.l1 Q q1) x0 x1 x6 (y18.toList == x1.toList) h) ∧
    (((y13 == 1)) = false ->
    F.xaj.j3 Q (F.xaj.l1 Q q1) x0 x1 x6 false h)) ∧
    (((y6 != 0)) = false ->
    Q x6 false h)
def F.xaj (p0 : Sl) (p1 : ByteArray) (h : H) (Q : Int -> Bool -> H -> Prop) : Prop :=
  ((((p0.len : Int) == 0)) = true ->
  Q 0 false h) ∧
  ((((p0.len : Int) == 0)) = false ->
  F.xct p0 p1 h fun r3 h2 =>
  ∃ m, F.xaj.l1 Q m p0 p1 r3 h2)
theorem F.xaj_ok {p0 : Sl} {p1 : ByteArray} {h : H} {Q : Int -> Bool -> H -> Prop} (H : F.xaj p0 p1 h Q) : Fn PP 82 ([p0.enc, (.string p1)] : List Value).toArray h fun r h' => ∃ r0 r1, r = .tuple #[(.int .i64 r0), (.bool r1)] ∧ Q r0 r1 h' := by
 unfold F.xaj at H;refine fn_of Tryz.func82 Tryz.ntmps82 rfl rfl fun w0 => (tr_sub [(0, p0.enc), (1, (.string p1))] ⟨rfl, rfl, trivial⟩ (tr_seq (tr_region (tq (y_assign rfl) (tq (y_assign rfl) (tr_nil (tr_thenN (tr_seq (tr_seq (tr_region (tq (y_move rfl) (tq (y_len (ts := #[]) Tryz.runUnderlying110 (o := p0.ptr) (n := p0.len) (cap := p0.cap) rfl) (tq (y_eql rfl rfl) ?_)))))))))))));refine tr_nil (tr_thenN ?_);refine tr_cond rfl (fun g1 => ?_) (fun g1 => ?_)
 ·replace H := H.1 g1;refine tr_seq (tr_region (tq (y_assign rfl) (tq (y_assign rfl) (tr_nil (tr_thenN (tr_ret (tr_thenR ?_)))))));exact tr_ret2 rfl rfl rfl ⟨_, _, rfl, H⟩
 ·replace H := H.2 g1;refine tr_skip (tr_thenN (tr_seq (tr_region (tq (y_move rfl) (tq (y_move rfl) (tr_e (e_call Tryz.call100 rfl (F.xct_ok H)) rfl rfl ?_))))));rintro _ h2 ⟨r3, rfl, H⟩;refine tq (y_assign rfl) (tr_nil (tr_thenN (tr_seq (tr_block ?_))));obtain ⟨m20, H⟩ := H;refine tr_sub [(0, p0.enc), (1, (.string p1)), (6, (.int .i64 r3))] ⟨rfl, rfl, rfl, trivial⟩ ?_;refine tr_loop_j (fun m L' h => ∃ (x0 : Sl) (x1 : ByteArray) (x6 : Int), L' = [(0, x0.enc), (1, (.string x1)), (6, (.int .i64 x6))] ∧ F.xaj.l1 Q m x0 x1 x6 h) ?_ ?_ m20 ⟨_, _, _, rfl, H⟩
  ·rintro L' h ⟨_, _, _, _, H⟩; exact H
  ·rintro q1 L' h ⟨x0, x1, x6, rfl, H⟩;unfold F.xaj.l1 at H;refine tr_seq (tr_seq (tr_region (tq (y_move rfl) (tq (y_move rfl) ?_))));obtain ⟨a4, e5, H⟩ := H;refine tq (f_idx (s := x0) Tryz.runUnderlying110 Tryz.sizeOf130 rfl rfl e5) (tq (y_fa (off := 0) Tryz.runUnderlying130 fo_130_0 rfl) ?_);obtain ⟨y6, k7, H⟩ := H;refine tr_h (y_ld Tryz.isAgg5 rfl) k7 rfl rfl (tq (y_neq rfl rfl) (tr_nil (tr_thenN ?_)));refine tr_cond rfl (fun g8 => ?_) (fun g8 => ?_)
   ·replace H := H.1 g8;refine tr_skip (tr_thenN ?_);refine tr_seq_j (fun L' h => ∃ (x0 : Sl) (x1 : ByteArray) (x6 : Int), L' = [(0, x0.enc), (1, (.string x1)), (6, (.int .i64 x6))] ∧ F.xaj.j2 Q (F.xaj.l1 Q q1) x0 x1 x6 h) ?_ ?_
    ·rintro L' h ⟨x0, x1, x6, rfl, H⟩;unfold F.xaj.j2 at H;refine tr_region (tq (y_move rfl) (tq (y_add rfl rfl) (tq (y_move rfl) (tq (y_len (ts := #[]) Tryz.runUnderlying110 (o := x0.ptr) (n := x0.len) (cap := x0.cap) rfl) ?_))));obtain ⟨e9, H⟩ := H;refine tq (y_rem rfl rfl e9) (tq (y_assign rfl) (tr_nil (tr_thenN ?_)));exact tr_join [(0, x0.enc), (1, (.string x1)), (6, (.int .i64 (Int.tmod (IntKind.wrap .i64 (x6 + 1)) (x0.len : Int))))] ⟨rfl, rfl, rfl, trivial⟩ ⟨_, _, _, rfl, H⟩
    ·refine tr_block ?_;refine tr_seq_j (fun L' h => ∃ (x0 : Sl) (x1 : ByteArray) (x6 : Int) (x38 : Bool), L' = [(0, x0.enc), (1, (.string x1)), (6, (.int .i64 x6)), (38, (.bool x38))] ∧ F.xaj.j3 Q (F.xaj.l1 Q q1) x0 x1 x6 x38 h) ?_ ?_
     ·rintro L' h ⟨x0, x1, x6, x38, rfl, H⟩;unfold F.xaj.j3 at H;refine tr_cond rfl (fun g10 => ?_) (fun g10 => ?_)
      ·replace H := H.1 g10;refine tr_seq (tr_region (tq (y_move rfl) (tq (y_assign rfl) (tq (y_assign rfl) (tr_nil (tr_thenN (tr_ret (tr_blockR (tr_thenR (tr_thenR (tr_blockR (tr_thenR ?_))))))))))));exact tr_ret2 rfl rfl rfl ⟨_, _, rfl, H⟩
      ·replace H := H.2 g10;refine tr_skip (tr_blockN (tr_thenN ?_));exact tr_join [(0, x0.enc), (1, (.string x1)), (6, (.int .i64 x6))] ⟨rfl, rfl, rfl, trivial⟩ ⟨_, _, _, rfl, H⟩
     ·refine tr_region (tq (y_move rfl) (tq (y_move rfl) ?_));obtain ⟨a11, e12, H⟩ := H;refine tq (f_idx (s := x0) Tryz.runUnderlying110 Tryz.sizeOf130 rfl rfl e12) (tq (y_fa (off := 0) Tryz.runUnderlying130 fo_130_0 rfl) ?_);obtain ⟨y13, k14, H⟩ := H;refine tr_h (y_ld Tryz.isAgg5 rfl) k14 rfl rfl (tq (y_eql rfl rfl) (tq (y_move rfl) ?_));refine tr_split (t := 30) rfl (fun g15 => ?_) (fun g15 => ?_)
      ·replace H := H.1 g15;refine tq (y_move rfl) (tq (y_move rfl) ?_);obtain ⟨a16, e17, H⟩ := H;refine tq (f_idx (s := x0) Tryz.runUnderlying110 Tryz.sizeOf130 rfl rfl e17) (tq (y_fa (off := 1) Tryz.runUnderlying130 fo_130_1 rfl) ?_);obtain ⟨y18, k19, H⟩ := H;refine tr_h (y_ld Tryz.isAgg9 rfl) k19 rfl rfl (tq (y_move rfl) (tq (y_seql rfl rfl) (tq (y_pick_t rfl rfl) (tr_nil (tr_thenN ?_)))));exact tr_join [(0, x0.enc), (1, (.string x1)), (6, (.int .i64 x6)), (38, (.bool (y18.toList == x1.toList)))] ⟨rfl, rfl, rfl, rfl, trivial⟩ ⟨_, _, _, _, rfl, H⟩
      ·replace H := H.2 g15;refine ts (ts (ts (ts (ts (ts (ts (tq (y_pick_f rfl rfl) (tr_nil (tr_thenN ?_)))))))));exact tr_join [(0, x0.enc), (1, (.string x1)), (6, (.int .i64 x6)), (38, (.bool false))] ⟨rfl, rfl, rfl, rfl, trivial⟩ ⟨_, _, _, _, rfl, H⟩
   ·replace H := H.2 g8;refine tr_exit (tr_thenE (tr_thenE (tr_hit (tr_thenN (tr_seq (tr_region (tq (y_move rfl) (tq (y_assign rfl) (tq (y_assign rfl) (tr_nil (tr_thenN (tr_ret ?_))))))))))));exact tr_ret2 rfl rfl rfl ⟨_, _, rfl, H⟩
def F.xcw (p0 : Option Addr) (p1 : ByteArray) (h : H) (Q : (Option Addr) -> H -> Prop) : Prop :=
  nn p0 fun a1 =>
  ldL h (a1.add 0) fun y3 =>
  F.xaj y3 p1 h fun r6 r7 h5 =>
  (r7 = true ->
  nn p0 fun a9 =>
  ldL h5 (a9.add 0) fun y11 =>
  idxA y11 r6 3 fun a13 =>
  Q (some a13) h5) ∧
  (r7 = false ->
  nn p0 fun a15 =>
  ldL h5 (a15.add 1) fun y17 =>
  F.xaj y17 p1 h5 fun r20 r21 h19 =>
  (r21 = true ->
  nn p0 fun a23 =>
  ldL h19 (a23.add 1) fun y25 =>
  idxA y25 r20 3 fun a27 =>
  Q (some a27) h19) ∧
  (r21 = false ->
  Q none h19))
theorem F.xcw_ok {p0 : Option Addr} {p1 : ByteArray} {h : H} {Q : (Option Addr) -> H -> Prop} (H : F.xcw p0 p1 h Q) : Fn PP 80 ([(.pointer p0), (.string p1)] : List Value).toArray h fun r h' => ∃ r0, r = (.pointer r0) ∧ Q r0 h' := by
 unfold F.xcw at H;refine fn_of Tryz.func80 Tryz.ntmps80 rfl rfl fun w0 => (tr_sub [(0, (.pointer p0)), (1, (.string p1))] ⟨rfl, rfl, trivial⟩ (tr_seq (tr_region (tq (y_assign rfl) (tr_nil (tr_thenN (tr_seq (tr_seq (tr_region (tq (y_move rfl) ?_))))))))));obtain ⟨a1, e2, H⟩ := H;refine tq (f_nn rfl e2) (tq (y_fa (off := 0) Tryz.runUnderlying112 fo_112_0 rfl) ?_);obtain ⟨y3, k4, H⟩ := H;refine tr_h (y_ld Tryz.isAgg110 rfl) k4 rfl rfl (tq (y_move rfl) (tr_e (e_call Tryz.call82 rfl (F.xaj_ok H)) rfl rfl ?_));rintro _ h5 ⟨r6, r7, rfl, H⟩;refine tq (y_move rfl) (tq (y_ext rfl rfl) (tq (y_ext rfl rfl) (tq (y_assign rfl) (tq (y_assign rfl) (tr_nil (tr_thenN (tr_seq (tr_region (tq (y_move rfl) (tr_nil (tr_thenN ?_)))))))))));refine tr_cond rfl (fun g8 => ?_) (fun g8 => ?_)
 ·replace H := H.1 g8;refine tr_seq (tr_region (tq (y_move rfl) ?_));obtain ⟨a9, e10, H⟩ := H;refine tq (f_nn rfl e10) (tq (y_fa (off := 0) Tryz.runUnderlying112 fo_112_0 rfl) ?_);obtain ⟨y11, k12, H⟩ := H;refine tr_h (y_ld Tryz.isAgg110 rfl) k12 rfl rfl (tq (y_move rfl) ?_);obtain ⟨a13, e14, H⟩ := H;refine tq (f_idx (s := y11) Tryz.runUnderlying110 Tryz.sizeOf130 rfl rfl e14) (tq (y_assign rfl) (tr_nil (tr_thenN (tr_ret (tr_thenR ?_)))));exact tr_ret1 rfl rfl ⟨_, rfl, H⟩
 ·replace H := H.2 g8;refine tr_skip (tr_thenN (tr_seq (tr_seq (tr_region (tq (y_move rfl) ?_)))));obtain ⟨a15, e16, H⟩ := H;refine tq (f_nn rfl e16) (tq (y_fa (off := 1) Tryz.runUnderlying112 fo_112_1 rfl) ?_);obtain ⟨y17, k18, H⟩ := H;refine tr_h (y_ld Tryz.isAgg110 rfl) k18 rfl rfl (tq (y_move rfl) (tr_e (e_call Tryz.call82 rfl (F.xaj_ok H)) rfl rfl ?_));rintro _ h19 ⟨r20, r21, rfl, H⟩;refine tq (y_move rfl) (tq (y_ext rfl rfl) (tq (y_ext rfl rfl) (tq (y_assign rfl) (tq (y_assign rfl) (tr_nil (tr_thenN (tr_seq (tr_region (tq (y_move rfl) (tr_nil (tr_thenN ?_)))))))))));refine tr_cond rfl (fun g22 => ?_) (fun g22 => ?_)
  ·replace H := H.1 g22;refine tr_seq (tr_region (tq (y_move rfl) ?_));obtain ⟨a23, e24, H⟩ := H;refine tq (f_nn rfl e24) (tq (y_fa (off := 1) Tryz.runUnderlying112 fo_112_1 rfl) ?_);obtain ⟨y25, k26, H⟩ := H;refine tr_h (y_ld Tryz.isAgg110 rfl) k26 rfl rfl (tq (y_move rfl) ?_);obtain ⟨a27, e28, H⟩ := H;refine tq (f_idx (s := y25) Tryz.runUnderlying110 Tryz.sizeOf130 rfl rfl e28) (tq (y_assign rfl) (tr_nil (tr_thenN (tr_ret (tr_thenR ?_)))));exact tr_ret1 rfl rfl ⟨_, rfl, H⟩
  ·replace H := H.2 g22;refine tr_skip (tr_thenN (tr_seq (tr_region (tq (y_assign rfl) (tr_nil (tr_thenN (tr_ret ?_)))))));exact tr_ret1 rfl rfl ⟨_, rfl, H⟩
def F.xcv (p0 : Option Addr) (p1 : ByteArray) (h : H) (Q : (Option Addr) -> Bool -> H -> Prop) : Prop :=
  F.xcw p0 p1 h fun r2 h1 =>
  ((!r2.isNone) = true ->
  nn r2 fun a4 =>
  ldP h1 (a4.add 2) fun y6 =>
  Q y6 true h1) ∧
  ((!r2.isNone) = false ->
  Q none false h1)
theorem F.xcv_ok {p0 : Option Addr} {p1 : ByteArray} {h : H} {Q : (Option Addr) -> Bool -> H -> Prop} (H : F.xcv p0 p1 h Q) : Fn PP 41 ([(.pointer p0), (.string p1)] : List Value).toArray h fun r h' => ∃ r0 r1, r = .tuple #[(.pointer r0), (.bool r1)] ∧ Q r0 r1 h' := by
 unfold F.xcv at H;refine fn_of Tryz.func41 Tryz.ntmps41 rfl rfl fun w0 => (tr_sub [(0, (.pointer p0)), (1, (.string p1))] ⟨rfl, rfl, trivial⟩ (tr_seq (tr_region (tq (y_assign rfl) (tq (y_assign rfl) (tr_nil (tr_thenN (tr_seq (tr_seq (tr_region (tq (y_move rfl) (tq (y_move rfl) (tr_e (e_call Tryz.call80 rfl (F.xcw_ok H)) rfl rfl ?_)))))))))))));rintro _ h1 ⟨r2, rfl, H⟩;refine tq (y_assign rfl) (tr_nil (tr_thenN (tr_seq (tr_region (tq (y_move rfl) (tq (y_pnil_neq Tryz.runUnderlying127 rfl rfl) (tr_nil (tr_thenN ?_))))))));refine tr_cond rfl (fun g3 => ?_) (fun g3 => ?_)
 ·replace H := H.1 g3;refine tr_seq (tr_region (tq (y_move rfl) ?_));obtain ⟨a4, e5, H⟩ := H;refine tq (f_nn rfl e5) (tq (y_fa (off := 2) Tryz.runUnderlying130 fo_130_2 rfl) ?_);obtain ⟨y6, k7, H⟩ := H;refine tr_h (y_ld Tryz.isAgg70 rfl) k7 rfl rfl (tq (y_assign rfl) (tq (y_assign rfl) (tr_nil (tr_thenN (tr_ret (tr_thenR ?_))))));exact tr_ret2 rfl rfl rfl ⟨_, _, rfl, H⟩
 ·replace H := H.2 g3;refine tr_skip (tr_thenN (tr_seq (tr_region (tq (y_move rfl) (tq (y_assign rfl) (tq (y_assign rfl) (tr_nil (tr_thenN (tr_ret ?_)))))))));exact tr_ret2 rfl rfl rfl ⟨_, _, rfl, H⟩
def F.xck (p0 : Option Addr) (p1 : S_api_Cell) (h : H) (Q : (Option Addr) -> H -> Prop) : Prop :=
  new h p1.cells.toArray ty_32 fun a2 h1 =>
  ld_S_api_Cell h1 a2 fun y3 =>
  F.xak y3 h1 fun r6 r7 h5 =>
  (((r7 != 0)) = true ->
  Q none h5) ∧
  (((r7 != 0)) = false ->
  nn p0 fun a9 =>
  ldP h5 (a9.add 3) fun y11 =>
  F.xcv y11 r6 h5 fun r14 r15 h13 =>
  Q r14 h13)
theorem F.xck_ok {p0 : Option Addr} {p1 : S_api_Cell} {h : H} {Q : (Option Addr) -> H -> Prop} (H : F.xck p0 p1 h Q) : Fn PP 64 ([(.pointer p0), (.agg p1.cells.toArray)] : List Value).toArray h fun r h' => ∃ r0, r = (.pointer r0) ∧ Q r0 h' := by
 unfold F.xck at H;refine fn_of Tryz.func64 Tryz.ntmps64 rfl rfl fun w0 => (tr_sub [(0, (.pointer p0)), (1, (.agg p1.cells.toArray))] ⟨rfl, rfl, trivial⟩ (tr_seq (tr_region (tr_e (f_box (cs := p1.cells.toArray) rfl rfl H) rfl rfl ?_))));rintro _ h1 ⟨a2, rfl, H⟩;refine tq (y_assign rfl) (tr_nil (tr_thenN (tr_seq (tr_region ?_))));obtain ⟨y3, k4, H⟩ := H;refine tr_h (y_ldS Tryz.isAgg32 Tryz.sizeOf32 rfl rfl) k4 rfl rfl (tr_e (e_call Tryz.call39 rfl (F.xak_ok H)) rfl rfl ?_);rintro _ h5 ⟨r6, r7, rfl, H⟩;refine tq (y_move rfl) (tq (y_ext rfl rfl) (tq (y_ext rfl rfl) (tq (y_assign rfl) (tq (y_assign rfl) (tr_nil (tr_thenN (tr_seq (tr_seq (tr_region (tq (y_move rfl) (tq (y_neq rfl rfl) (tr_nil (tr_thenN ?_)))))))))))));refine tr_cond rfl (fun g8 => ?_) (fun g8 => ?_)
 ·replace H := H.1 g8;refine tr_seq (tr_region (tq (y_assign rfl) (tr_nil (tr_thenN (tr_ret (tr_thenR ?_))))));exact tr_ret1 rfl rfl ⟨_, rfl, H⟩
 ·replace H := H.2 g8;refine tr_skip (tr_thenN (tr_seq (tr_region (tq (y_move rfl) ?_))));obtain ⟨a9, e10, H⟩ := H;refine tq (f_nn rfl e10) (tq (y_fa (off := 3) Tryz.runUnderlying46 fo_46_1 rfl) ?_);obtain ⟨y11, k12, H⟩ := H;refine tr_h (y_ld Tryz.isAgg44 rfl) k12 rfl rfl (tq (y_move rfl) (tr_e (e_call Tryz.call41 rfl (F.xcv_ok H)) rfl rfl ?_));rintro _ h13 ⟨r14, r15, rfl, H⟩;refine tq (y_move rfl) (tq (y_ext rfl rfl) (tq (y_ext rfl rfl) (tq (y_assign rfl) (tq (y_assign rfl) (tr_nil (tr_thenN (tr_seq (tr_region (tq (y_move rfl) (tq (y_assign rfl) (tr_nil (tr_thenN (tr_ret ?_)))))))))))));exact tr_ret1 rfl rfl ⟨_, rfl, H⟩
def F.xbi.j2 (Q : Int -> H -> Prop) (x12 : Bool) (h : H) : Prop :=
  (x12 = true ->
  Q 32 h) ∧
  (x12 = false ->
  Q 0 h)
def F.xbi.j1 (Q : Int -> H -> Prop) (x0 : Option Addr) (x1 : Int) (x5 : Bool) (h : H) : Prop :=
  (x5 = true ->
  Q 1 h) ∧
  (x5 = false ->
  nn x0 fun a3 =>
  ldL h (a3.add 0) fun y5 =>
  ((decide ((y5.len : Int) > 0)) = true ->
  nn x0 fun a8 =>
  ldL h (a8.add 0) fun y10 =>
  nn x0 fun a12 =>
  ldL h (a12.add 0) fun y14 =>
  idxA y10 (IntKind.wrap .i64 ((y14.len : Int) - 1)) 6 fun a16 =>
  ldI .i64 h (a16.add 0) fun y18 =>
  F.xbi.j2 Q (decide (x1 < y18)) h) ∧
  ((decide ((y5.len : Int) > 0)) = false ->
  F.xbi.j2 Q false h))
def F.xbi (p0 : Option Addr) (p1 : Int) (h : H) (Q : Int -> H -> Prop) : Prop :=
  ((decide (p1 < 1)) = true ->
  F.xbi.j1 Q p0 p1 true h) ∧
  ((decide (p1 < 1)) = false ->
  F.xbi.j1 Q p0 p1 (decide (p1 > 1099511627776)) h)
theorem F.xbi_ok {p0 : Option Addr} {p1 : Int} {h : H} {Q : Int -> H -> Prop} (H : F.xbi p0 p1 h Q) : Fn PP 83 ([(.pointer p0), (.int .i64 p1)] : List Value).toArray h fun r h' => ∃ r0, r = (.int .i64 r0) ∧ Q r0 h' := by
 unfold F.xbi at H;refine fn_of Tryz.func83 Tryz.ntmps83 rfl rfl fun w0 => (tr_sub [(0, (.pointer p0)), (1, (.int .i64 p1))] ⟨rfl, rfl, trivial⟩ (tr_seq (tr_region (tq (y_assign rfl) (tr_nil (tr_thenN (tr_seq (tr_block ?_))))))));refine tr_seq_j (fun L' h => ∃ (x0 : Option Addr) (x1 : Int) (x5 : Bool), L' = [(0, (.pointer x0)), (1, (.int .i64 x1)), (5, (.bool x5))] ∧ F.xbi.j1 Q x0 x1 x5 h) ?_ ?_
 ·rintro L' h ⟨x0, x1, x5, rfl, H⟩;unfold F.xbi.j1 at H;refine tr_cond rfl (fun g1 => ?_) (fun g1 => ?_)
  ·replace H := H.1 g1;refine tr_seq (tr_region (tq (y_assign rfl) (tr_nil (tr_thenN (tr_ret (tr_blockR (tr_thenR ?_)))))));exact tr_ret1 rfl rfl ⟨_, rfl, H⟩
  ·replace H := H.2 g1;refine tr_seq_j (fun L' h => ∃ (x12 : Bool), L' = [(12, (.bool x12))] ∧ F.xbi.j2 Q x12 h) ?_ ?_
   ·rintro L' h ⟨x12, rfl, H⟩;unfold F.xbi.j2 at H;refine tr_cond rfl (fun g2 => ?_) (fun g2 => ?_)
    ·replace H := H.1 g2;refine tr_seq (tr_region (tq (y_assign rfl) (tr_nil (tr_thenN (tr_ret (tr_blockR (tr_thenR ?_)))))));exact tr_ret1 rfl rfl ⟨_, rfl, H⟩
    ·replace H := H.2 g2;refine tr_skip (tr_blockN (tr_thenN (tr_seq (tr_region (tq (y_assign rfl) (tr_nil (tr_thenN (tr_ret ?_))))))));exact tr_ret1 rfl rfl ⟨_, rfl, H⟩
   ·refine tr_draw mixed [0, 1, 3, 7, 15, 31, 63, 127, 127, 383, 895, 1919, 127, 4223, 12415, 28799, 61567, 127103, 262015, 524159, 1048447, 2097151, 4194303, 8388607] (by kernel_rfl) (g_p 0 1 rfl (by kernel_rfl) (y_move rfl) rfl rfl ?_);obtain ⟨a3, e4, H⟩ := H;refine g_p 1 3 rfl (by kernel_rfl) (f_nn rfl e4) rfl rfl (g_p 2 7 rfl (by kernel_rfl) (y_fa (off := 0) Tryz.runUnderlying133 fo_133_0 rfl) rfl rfl ?_);obtain ⟨y5, k6, H⟩ := H;refine g_h 3 15 rfl (by kernel_rfl) (y_ld Tryz.isAgg131 rfl) k6 rfl rfl (g_p 4 31 rfl (by kernel_rfl) (y_len (ts := #[]) Tryz.runUnderlying131 (o := y5.ptr) (n := y5.len) (cap := y5.cap) rfl) rfl rfl (g_p 5 63 rfl (by kernel_rfl) (y_gtr rfl rfl) rfl rfl (g_p 6 127 rfl (by kernel_rfl) (y_move rfl) rfl rfl ?_)));refine g_split (t := 19) rfl (fun g7 => ?_) (fun g7 => ?_)
    ·replace H := H.1 g7;refine g_p 7 255 rfl (by kernel_rfl) (y_move rfl) rfl rfl (g_p 8 511 rfl (by kernel_rfl) (y_move rfl) rfl rfl ?_);obtain ⟨a8, e9, H⟩ := H;refine g_p 9 1023 rfl (by kernel_rfl) (f_nn rfl e9) rfl rfl (g_p 10 2047 rfl (by kernel_rfl) (y_fa (off := 0) Tryz.runUnderlying133 fo_133_0 rfl) rfl rfl ?_);obtain ⟨y10, k11, H⟩ := H;refine g_h 11 4095 rfl (by kernel_rfl) (y_ld Tryz.isAgg131 rfl) k11 rfl rfl (g_p 12 8191 rfl (by kernel_rfl) (y_move rfl) rfl rfl ?_);obtain ⟨a12, e13, H⟩ := H;refine g_p 13 16383 rfl (by kernel_rfl) (f_nn rfl e13) rfl rfl (g_p 14 32767 rfl (by kernel_rfl) (y_fa (off := 0) Tryz.runUnderlying133 fo_133_0 rfl) rfl rfl ?_);obtain ⟨y14, k15, H⟩ := H;refine g_h 15 65535 rfl (by kernel_rfl) (y_ld Tryz.isAgg131 rfl) k15 rfl rfl (g_p 16 131071 rfl (by kernel_rfl) (y_len (ts := #[]) Tryz.runUnderlying131 (o := y14.ptr) (n := y14.len) (cap := y14.cap) rfl) rfl rfl (g_p 17 262143 rfl (by kernel_rfl) (y_sub rfl rfl) rfl rfl ?_));obtain ⟨a16, e17, H⟩ := H;refine g_p 18 524287 rfl (by kernel_rfl) (f_idx (s := y10) Tryz.runUnderlying131 Tryz.sizeOf135 rfl rfl e17) rfl rfl (g_p 19 1048575 rfl (by kernel_rfl) (y_fa (off := 0) Tryz.runUnderlying135 fo_135_0 rfl) rfl rfl ?_);obtain ⟨y18, k19, H⟩ := H;refine g_h 20 2097151 rfl (by kernel_rfl) (y_ld Tryz.isAgg3 rfl) k19 rfl rfl (g_p 21 4194303 rfl (by kernel_rfl) (y_lss rfl rfl) rfl rfl (g_p 22 8388607 rfl (by kernel_rfl) (y_pick_t rfl rfl) rfl rfl (g_p 23 16777215 rfl (by kernel_rfl) (y_assign rfl) rfl rfl (g_d (by kernel_rfl) (tr_thenN ?_)))));exact tr_join [(12, (.bool (decide (x1 < y18))))] ⟨rfl, trivial⟩ ⟨_, rfl, H⟩
    ·replace H := H.2 g7;refine g_s 7 255 rfl (by kernel_rfl) rfl rfl (g_s 8 511 rfl (by kernel_rfl) rfl rfl (g_s 9 1023 rfl (by kernel_rfl) rfl rfl (g_s 10 2047 rfl (by kernel_rfl) rfl rfl (g_s 11 4095 rfl (by kernel_rfl) rfl rfl (g_s 12 8191 rfl (by kernel_rfl) rfl rfl (g_s 13 16383 rfl (by kernel_rfl) rfl rfl (g_s 14 32767 rfl (by kernel_rfl) rfl rfl (g_s 15 65535 rfl (by kernel_rfl) rfl rfl (g_s 16 131071 rfl (by kernel_rfl) rfl rfl (g_s 17 262143 rfl (by kernel_rfl) rfl rfl (g_s 18 524287 rfl (by kernel_rfl) rfl rfl (g_s 19 1048575 rfl (by kernel_rfl) rfl rfl (g_s 20 2097151 rfl (by kernel_rfl) rfl rfl ?_)))))))))))));refine g_s 21 4194303 rfl (by kernel_rfl) rfl rfl (g_p 22 8388607 rfl (by kernel_rfl) (y_pick_f rfl rfl) rfl rfl (g_p 23 16777215 rfl (by kernel_rfl) (y_assign rfl) rfl rfl (g_d (by kernel_rfl) (tr_thenN ?_))));exact tr_join [(12, (.bool false))] ⟨rfl, trivial⟩ ⟨_, rfl, H⟩
 ·refine tr_region (tq (y_move rfl) (tq (y_lss rfl rfl) (tq (y_move rfl) ?_)));refine tr_split (t := 8) rfl (fun g20 => ?_) (fun g20 => ?_)
  ·replace H := H.1 g20;refine ts (ts (tq (y_pick_t rfl rfl) (tq (y_assign rfl) (tr_nil (tr_thenN ?_)))));exact tr_join [(0, (.pointer p0)), (1, (.int .i64 p1)), (5, (.bool true))] ⟨rfl, rfl, rfl, trivial⟩ ⟨_, _, _, rfl, H⟩
  ·replace H := H.2 g20;refine tq (y_move rfl) (tq (y_gtr rfl rfl) (tq (y_pick_f rfl rfl) (tq (y_assign rfl) (tr_nil (tr_thenN ?_)))));exact tr_join [(0, (.pointer p0)), (1, (.int .i64 p1)), (5, (.bool (decide (p1 > 1099511627776))))] ⟨rfl, rfl, rfl, trivial⟩ ⟨_, _, _, rfl, H⟩
def F.xcg (p0 : Option Addr) (h : H) (Q : S_api_Agg -> Int -> Bool -> H -> Prop) : Prop :=
  new h (((⟨0, 0, 0, 0⟩ : S_api_Agg) : S_api_Agg).cells.toArray) ty_34 fun a2 h1 =>
  nn p0 fun a3 =>
  ldL h1 (a3.add 0) fun y5 =>
  ((((y5.len : Int) == 0)) = true ->
  ld_S_api_Agg h1 a2 fun y8 =>
  stH h1 a2 y8.cells fun h10 =>
  ld_S_api_Agg h10 a2 fun y11 =>
  Q y11 0 false h10) ∧
  ((((y5.len : Int) == 0)) = false ->
  nn p0 fun a13 =>
  ldL h1 (a13.add 0) fun y15 =>
  nn p0 fun a17 =>
  ldL h1 (a17.add 0) fun y19 =>
  idxA y15 (IntKind.wrap .i64 ((y19.len : Int) - 1)) 6 fun a21 =>
  ld_S_chain_version_api_Agg h1 a21 fun y23 =>
  new h1 (((⟨0, (⟨0, 0, 0, 0⟩ : S_api_Agg), false⟩ : S_chain_version_api_Agg) : S_chain_version_api_Agg).cells.toArray) ty_135 fun a26 h25 =>
  Cells h25 a21 y23.cells ∧
  cellH h25 (a17.add 0) = some y19.enc ∧
  cellH h25 (a13.add 0) = some y15.enc ∧
  stH h25 a26 y23.cells fun h30 =>
  ld_S_api_Agg h30 (a26.add 1) fun y31 =>
  ldI .i64 h30 (a26.add 0) fun y33 =>
  ldB h30 (a26.add 5) fun y35 =>
  stH h30 a2 y31.cells fun h37 =>
  cellH h37 (a26.add 5) = some (.bool y35) ∧
  cellH h37 (a26.add 0) = some (.int .i64 y33) ∧
  ld_S_api_Agg h37 a2 fun y40 =>
  Q y40 y33 (!y35) h37)
theorem F.xcg_ok {p0 : Option Addr} {h : H} {Q : S_api_Agg -> Int -> Bool -> H -> Prop} (H : F.xcg p0 h Q) : Fn PP 42 ([(.pointer p0)] : List Value).toArray h fun r h' => ∃ r0 r1 r2, r = .tuple #[(.agg r0.cells.toArray), (.int .i64 r1), (.bool r2)] ∧ Q r0 r1 r2 h' := by
 unfold F.xcg at H;refine fn_of Tryz.func42 Tryz.ntmps42 rfl rfl fun w0 => (tr_sub [(0, (.pointer p0))] ⟨rfl, trivial⟩ (tr_seq (tr_region (tr_e (f_alloc (cs := ((⟨0, 0, 0, 0⟩ : S_api_Agg) : S_api_Agg).cells.toArray) Tryz.zeroValue34 rfl H) rfl rfl ?_))));rintro _ h1 ⟨a2, rfl, H⟩;refine tq (y_assign rfl) (tq (y_assign rfl) (tr_nil (tr_thenN (tr_seq (tr_seq (tr_region (tq (y_move rfl) ?_)))))));obtain ⟨a3, e4, H⟩ := H;refine tq (f_nn rfl e4) (tq (y_fa (off := 0) Tryz.runUnderlying133 fo_133_0 rfl) ?_);obtain ⟨y5, k6, H⟩ := H;refine tr_h (y_ld Tryz.isAgg131 rfl) k6 rfl rfl (tq (y_len (ts := #[]) Tryz.runUnderlying131 (o := y5.ptr) (n := y5.len) (cap := y5.cap) rfl) (tq (y_eql rfl rfl) (tr_nil (tr_thenN ?_))));refine tr_cond rfl (fun g7 => ?_) (fun g7 => ?_)
 ·replace H := H.1 g7;refine tr_seq (tr_region ?_);obtain ⟨y8, k9, H⟩ := H;refine tr_h (y_ldS Tryz.isAgg34 Tryz.sizeOf34 rfl rfl) k9 rfl rfl (tr_e (f_store (vs := y8.cells) Tryz.sizeOf34 rfl rfl cellsOfStruct rfl (by intro v hv; exact ones_S_api_Agg _ v hv) H) rfl rfl ?_);rintro _ h10 ⟨rfl, H⟩;refine tq (y_assign rfl) (tq (y_assign rfl) (tr_nil (tr_thenN (tr_ret (tr_thenR ?_)))));obtain ⟨y11, k12, H⟩ := H;exact tr_rv3 rfl (rv_cellS Tryz.isAgg34 Tryz.sizeOf34 rfl rfl k12) (rv_tmp rfl) (rv_tmp rfl) ⟨_, _, _, rfl, H⟩
 ·replace H := H.2 g7;refine tr_skip (tr_thenN (tr_seq (tr_draw mixed [0, 1, 3, 7, 0, 16, 48, 112, 240, 496, 1023, 2047, 0, 8191] (by kernel_rfl) (g_p 0 1 rfl (by kernel_rfl) (y_move rfl) rfl rfl ?_))));obtain ⟨a13, e14, H⟩ := H;refine g_p 1 3 rfl (by kernel_rfl) (f_nn rfl e14) rfl rfl (g_p 2 7 rfl (by kernel_rfl) (y_fa (off := 0) Tryz.runUnderlying133 fo_133_0 rfl) rfl rfl ?_);obtain ⟨y15, k16, H⟩ := H;refine g_h 3 15 rfl (by kernel_rfl) (y_ld Tryz.isAgg131 rfl) k16 rfl rfl (g_p 4 31 rfl (by kernel_rfl) (y_move rfl) rfl rfl ?_);obtain ⟨a17, e18, H⟩ := H;refine g_p 5 63 rfl (by kernel_rfl) (f_nn rfl e18) rfl rfl (g_p 6 127 rfl (by kernel_rfl) (y_fa (off := 0) Tryz.runUnderlying133 fo_133_0 rfl) rfl rfl ?_);obtain ⟨y19, k20, H⟩ := H;refine g_h 7 255 rfl (by kernel_rfl) (y_ld Tryz.isAgg131 rfl) k20 rfl rfl (g_p 8 511 rfl (by kernel_rfl) (y_len (ts := #[]) Tryz.runUnderlying131 (o := y19.ptr) (n := y19.len) (cap := y19.cap) rfl) rfl rfl (g_p 9 1023 rfl (by kernel_rfl) (y_sub rfl rfl) rfl rfl ?_));obtain ⟨a21, e22, H⟩ := H;refine g_p 10 2047 rfl (by kernel_rfl) (f_idx (s := y15) Tryz.runUnderlying131 Tryz.sizeOf135 rfl rfl e22) rfl rfl ?_;obtain ⟨y23, k24, H⟩ := H;refine g_h 11 4095 rfl (by kernel_rfl) (y_ldS Tryz.isAgg135 Tryz.sizeOf135 rfl rfl) k24 rfl rfl (g_e 12 8191 [(11, fun h => Cells h a21 y23.cells), (7, fun h => cellH h (a17.add 0) = some y19.enc), (3, fun h => cellH h (a13.add 0) = some y15.enc)] (by kernel_rfl) rfl (by kernel_rfl) (f_alloc (cs := ((⟨0, (⟨0, 0, 0, 0⟩ : S_api_Agg), false⟩ : S_chain_version_api_Agg) : S_chain_version_api_Agg).cells.toArray) Tryz.zeroValue135 rfl H) rfl rfl ?_);rintro _ h25 ⟨a26, rfl, H⟩;obtain ⟨k27, k28, k29, H⟩ := H;refine ⟨And.intro k27 (And.intro k28 (And.intro k29 trivial)), ?_⟩;refine g_e 13 16383 [] (by kernel_rfl) rfl (by kernel_rfl) (f_store (vs := y23.cells) Tryz.sizeOf135 rfl rfl cellsOfStruct rfl (by intro v hv; exact ones_S_chain_version_api_Agg _ v hv) H) rfl rfl ?_;rintro _ h30 ⟨rfl, H⟩;refine ⟨trivial, ?_⟩;refine g_d (by kernel_rfl) (tr_thenN (tr_seq (tr_draw mixed [0, 1, 0, 4, 0, 16, 48, 3, 143, 511] (by kernel_rfl) (g_p 0 1 rfl (by kernel_rfl) (y_fa (off := 1) Tryz.runUnderlying135 fo_135_1 rfl) rfl rfl ?_))));obtain ⟨y31, k32, H⟩ := H;refine g_h 1 3 rfl (by kernel_rfl) (y_ldS Tryz.isAgg34 Tryz.sizeOf34 rfl rfl) k32 rfl rfl (g_p 2 7 rfl (by kernel_rfl) (y_fa (off := 0) Tryz.runUnderlying135 fo_135_0 rfl) rfl rfl ?_);obtain ⟨y33, k34, H⟩ := H;refine g_h 3 15 rfl (by kernel_rfl) (y_ld Tryz.isAgg3 rfl) k34 rfl rfl (g_p 4 31 rfl (by kernel_rfl) (y_fa (off := 5) Tryz.runUnderlying135 fo_135_2 rfl) rfl rfl ?_);obtain ⟨y35, k36, H⟩ := H;refine g_h 5 63 rfl (by kernel_rfl) (y_ld Tryz.isAgg4 rfl) k36 rfl rfl (g_p 6 127 rfl (by kernel_rfl) (y_not rfl) rfl rfl (g_e 7 255 [(5, fun h => cellH h (a26.add 5) = some (.bool y35)), (3, fun h => cellH h (a26.add 0) = some (.int .i64 y33))] (by kernel_rfl) rfl (by kernel_rfl) (f_store (vs := y31.cells) Tryz.sizeOf34 rfl rfl cellsOfStruct rfl (by intro v hv; exact ones_S_api_Agg _ v hv) H) rfl rfl ?_));rintro _ h37 ⟨rfl, H⟩;obtain ⟨k38, k39, H⟩ := H;refine ⟨And.intro k38 (And.intro k39 trivial), ?_⟩;refine g_p 8 511 rfl (by kernel_rfl) (y_assign rfl) rfl rfl (g_p 9 1023 rfl (by kernel_rfl) (y_assign rfl) rfl rfl (g_d (by kernel_rfl) (tr_thenN (tr_ret ?_))));obtain ⟨y40, k41, H⟩ := H;exact tr_rv3 rfl (rv_cellS Tryz.isAgg34 Tryz.sizeOf34 rfl rfl k41) (rv_tmp rfl) (rv_tmp rfl) ⟨_, _, _, rfl, H⟩
def F.xbg.j1 (Q : Int -> H -> Prop) (x0 : Option Addr) (x3 : Addr) (h : H) : Prop :=
  nn x0 fun a3 =>
  ldL h (a3.add 0) fun y5 =>
  ld_S_chain_version_api_Agg h x3 fun y7 =>
  newL h ((y7.cells).toArray) ty_135 1 fun s10 h9 =>
  cellH h9 (a3.add 0) = some y5.enc ∧
  runL PP (Builtin.append_ #[131, 131] 131 #[y5.enc, s10.enc]) h9 fun s13 h12 =>
  nn x0 fun a14 =>
  stH h12 (a14.add 0) [s13.enc] fun h16 =>
  Q 1 h16
def F.xbg.j2 (Q : Int -> H -> Prop) (x0 : Option Addr) (x3 : Addr) (x5 : Int) (x26 : Bool) (h : H) : Prop :=
  (x26 = true ->
  nn x0 fun a22 =>
  ldL h (a22.add 0) fun y24 =>
  ld_S_chain_version_api_Agg h x3 fun y26 =>
  idxA y24 (IntKind.wrap .i64 (x5 - 1)) 6 fun a28 =>
  stH h a28 y26.cells fun h30 =>
  Q 0 h30) ∧
  (x26 = false ->
  F.xbg.j1 Q x0 x3 h)
def F.xbg (p0 : Option Addr) (p1 : S_chain_version_api_Agg) (h : H) (Q : Int -> H -> Prop) : Prop :=
  new h p1.cells.toArray ty_135 fun a2 h1 =>
  nn p0 fun a17 =>
  ldL h1 (a17.add 0) fun y19 =>
  ((decide ((y19.len : Int) > 0)) = true ->
  nn p0 fun a32 =>
  ldL h1 (a32.add 0) fun y34 =>
  idxA y34 (IntKind.wrap .i64 ((y19.len : Int) - 1)) 6 fun a36 =>
  ldI .i64 h1 (a36.add 0) fun y38 =>
  ldI .i64 h1 (a2.add 0) fun y40 =>
  F.xbg.j2 Q p0 a2 (y19.len : Int) ((y38 == y40)) h1) ∧
  ((decide ((y19.len : Int) > 0)) = false ->
  F.xbg.j2 Q p0 a2 (y19.len : Int) false h1)
theorem F.xbg_ok {p0 : Option Addr} {p1 : S_chain_version_api_Agg} {h : H} {Q : Int -> H -> Prop} (H : F.xbg p0 p1 h Q) : Fn PP 84 ([(.pointer p0), (.agg p1.cells.toArray)] : List Value).toArray h fun r h' => ∃ r0, r = (.int .i64 r0) ∧ Q r0 h' := by
 unfold F.xbg at H;refine fn_of Tryz.func84 Tryz.ntmps84 rfl rfl fun w0 => (tr_sub [(0, (.pointer p0)), (1, (.agg p1.cells.toArray))] ⟨rfl, rfl, trivial⟩ (tr_seq (tr_region (tr_e (f_box (cs := p1.cells.toArray) rfl rfl H) rfl rfl ?_))));rintro _ h1 ⟨a2, rfl, H⟩;refine tq (y_assign rfl) (tr_nil (tr_thenN ?_));refine tr_seq_j (fun L' h => ∃ (x0 : Option Addr) (x3 : Addr), L' = [(0, (.pointer x0)), (3, (.pointer (some x3)))] ∧ F.xbg.j1 Q x0 x3 h) ?_ ?_
 ·rintro L' h ⟨x0, x3, rfl, H⟩;unfold F.xbg.j1 at H;refine tr_seq (tr_draw mixed [0, 0, 2, 6, 14, 0, 32, 126, 255, 511, 1023] (by kernel_rfl) (g_p 0 1 rfl (by kernel_rfl) (y_move rfl) rfl rfl (g_p 1 3 rfl (by kernel_rfl) (y_move rfl) rfl rfl ?_)));obtain ⟨a3, e4, H⟩ := H;refine g_p 2 7 rfl (by kernel_rfl) (f_nn rfl e4) rfl rfl (g_p 3 15 rfl (by kernel_rfl) (y_fa (off := 0) Tryz.runUnderlying133 fo_133_0 rfl) rfl rfl ?_);obtain ⟨y5, k6, H⟩ := H;refine g_h 4 31 rfl (by kernel_rfl) (y_ld Tryz.isAgg131 rfl) k6 rfl rfl ?_;obtain ⟨y7, k8, H⟩ := H;refine g_h 5 63 rfl (by kernel_rfl) (y_ldS Tryz.isAgg135 Tryz.sizeOf135 rfl rfl) k8 rfl rfl (g_e 6 127 [(4, fun h => cellH h (a3.add 0) = some y5.enc)] (by kernel_rfl) rfl (by kernel_rfl) (f_buildL (cs := (y7.cells).toArray) rfl rfl (bl_131_1_0 y7) H) rfl rfl ?_);rintro _ h9 ⟨s10, rfl, H⟩;obtain ⟨k11, H⟩ := H;refine ⟨And.intro k11 trivial, ?_⟩;refine g_e 7 255 [] (by kernel_rfl) rfl (by kernel_rfl) (f_app rfl H) rfl rfl ?_;rintro _ h12 ⟨s13, rfl, H⟩;refine ⟨trivial, ?_⟩;obtain ⟨a14, e15, H⟩ := H;refine g_p 8 511 rfl (by kernel_rfl) (f_nn rfl e15) rfl rfl (g_p 9 1023 rfl (by kernel_rfl) (y_fa (off := 0) Tryz.runUnderlying133 fo_133_0 rfl) rfl rfl (g_e 10 2047 [] (by kernel_rfl) rfl (by kernel_rfl) (f_store (vs := [s13.enc]) Tryz.sizeOf131 rfl rfl rfl rfl (one1 rfl) H) rfl rfl ?_));rintro _ h16 ⟨rfl, H⟩;refine ⟨trivial, ?_⟩;refine g_d (by kernel_rfl) (tr_thenN (tr_seq (tr_region (tq (y_assign rfl) (tr_nil (tr_thenN (tr_ret ?_)))))));exact tr_ret1 rfl rfl ⟨_, rfl, H⟩
 ·refine tr_seq (tr_region (tq (y_move rfl) ?_));obtain ⟨a17, e18, H⟩ := H;refine tq (f_nn rfl e18) (tq (y_fa (off := 0) Tryz.runUnderlying133 fo_133_0 rfl) ?_);obtain ⟨y19, k20, H⟩ := H;refine tr_h (y_ld Tryz.isAgg131 rfl) k20 rfl rfl (tq (y_len (ts := #[]) Tryz.runUnderlying131 (o := y19.ptr) (n := y19.len) (cap := y19.cap) rfl) (tq (y_assign rfl) (tr_nil (tr_thenN ?_))));refine tr_seq_j (fun L' h => ∃ (x0 : Option Addr) (x3 : Addr) (x5 : Int) (x26 : Bool), L' = [(0, (.pointer x0)), (3, (.pointer (some x3))), (5, (.int .i64 x5)), (26, (.bool x26))] ∧ F.xbg.j2 Q x0 x3 x5 x26 h) ?_ ?_
  ·rintro L' h ⟨x0, x3, x5, x26, rfl, H⟩;unfold F.xbg.j2 at H;refine tr_cond rfl (fun g21 => ?_) (fun g21 => ?_)
   ·replace H := H.1 g21;refine tr_seq (tr_draw mixed [0, 1, 3, 7, 0, 16, 0, 127, 255] (by kernel_rfl) (g_p 0 1 rfl (by kernel_rfl) (y_move rfl) rfl rfl ?_));obtain ⟨a22, e23, H⟩ := H;refine g_p 1 3 rfl (by kernel_rfl) (f_nn rfl e23) rfl rfl (g_p 2 7 rfl (by kernel_rfl) (y_fa (off := 0) Tryz.runUnderlying133 fo_133_0 rfl) rfl rfl ?_);obtain ⟨y24, k25, H⟩ := H;refine g_h 3 15 rfl (by kernel_rfl) (y_ld Tryz.isAgg131 rfl) k25 rfl rfl (g_p 4 31 rfl (by kernel_rfl) (y_move rfl) rfl rfl (g_p 5 63 rfl (by kernel_rfl) (y_sub rfl rfl) rfl rfl ?_));obtain ⟨y26, k27, H⟩ := H;refine g_h 6 127 rfl (by kernel_rfl) (y_ldS Tryz.isAgg135 Tryz.sizeOf135 rfl rfl) k27 rfl rfl ?_;obtain ⟨a28, e29, H⟩ := H;refine g_p 7 255 rfl (by kernel_rfl) (f_idx (s := y24) Tryz.runUnderlying131 Tryz.sizeOf135 rfl rfl e29) rfl rfl (g_e 8 511 [] (by kernel_rfl) rfl (by kernel_rfl) (f_store (vs := y26.cells) Tryz.sizeOf135 rfl rfl cellsOfStruct rfl (by intro v hv; exact ones_S_chain_version_api_Agg _ v hv) H) rfl rfl ?_);rintro _ h30 ⟨rfl, H⟩;refine ⟨trivial, ?_⟩;refine g_d (by kernel_rfl) (tr_thenN (tr_seq (tr_region (tq (y_assign rfl) (tr_nil (tr_thenN (tr_ret (tr_thenR ?_))))))));exact tr_ret1 rfl rfl ⟨_, rfl, H⟩
   ·replace H := H.2 g21;refine tr_skip (tr_thenN ?_);exact tr_join [(0, (.pointer x0)), (3, (.pointer (some x3)))] ⟨rfl, rfl, trivial⟩ ⟨_, _, rfl, H⟩
  ·refine tr_draw mixed [0, 1, 3, 7, 15, 31, 63, 7, 135, 511, 1023, 2047, 7, 4103, 16383, 32767] (by kernel_rfl) (g_p 0 1 rfl (by kernel_rfl) (y_move rfl) rfl rfl (g_p 1 3 rfl (by kernel_rfl) (y_gtr rfl rfl) rfl rfl (g_p 2 7 rfl (by kernel_rfl) (y_move rfl) rfl rfl ?_)));refine g_split (t := 13) rfl (fun g31 => ?_) (fun g31 => ?_)
   ·replace H := H.1 g31;refine g_p 3 15 rfl (by kernel_rfl) (y_move rfl) rfl rfl ?_;obtain ⟨a32, e33, H⟩ := H;refine g_p 4 31 rfl (by kernel_rfl) (f_nn rfl e33) rfl rfl (g_p 5 63 rfl (by kernel_rfl) (y_fa (off := 0) Tryz.runUnderlying133 fo_133_0 rfl) rfl rfl ?_);obtain ⟨y34, k35, H⟩ := H;refine g_h 6 127 rfl (by kernel_rfl) (y_ld Tryz.isAgg131 rfl) k35 rfl rfl (g_p 7 255 rfl (by kernel_rfl) (y_move rfl) rfl rfl (g_p 8 511 rfl (by kernel_rfl) (y_sub rfl rfl) rfl rfl ?_));obtain ⟨a36, e37, H⟩ := H;refine g_p 9 1023 rfl (by kernel_rfl) (f_idx (s := y34) Tryz.runUnderlying131 Tryz.sizeOf135 rfl rfl e37) rfl rfl (g_p 10 2047 rfl (by kernel_rfl) (y_fa (off := 0) Tryz.runUnderlying135 fo_135_0 rfl) rfl rfl ?_);obtain ⟨y38, k39, H⟩ := H;refine g_h 11 4095 rfl (by kernel_rfl) (y_ld Tryz.isAgg3 rfl) k39 rfl rfl (g_p 12 8191 rfl (by kernel_rfl) (y_fa (off := 0) Tryz.runUnderlying135 fo_135_0 rfl) rfl rfl ?_);obtain ⟨y40, k41, H⟩ := H;refine g_h 13 16383 rfl (by kernel_rfl) (y_ld Tryz.isAgg3 rfl) k41 rfl rfl (g_p 14 32767 rfl (by kernel_rfl) (y_eql rfl rfl) rfl rfl (g_p 15 65535 rfl (by kernel_rfl) (y_pick_t rfl rfl) rfl rfl (g_d (by kernel_rfl) (tr_thenN ?_))));exact tr_join [(0, (.pointer p0)), (3, (.pointer (some a2))), (5, (.int .i64 (y19.len : Int))), (26, (.bool ((y38 == y40))))] ⟨rfl, rfl, rfl, rfl, trivial⟩ ⟨_, _, _, _, rfl, H⟩
   ·replace H := H.2 g31;refine g_s 3 15 rfl (by kernel_rfl) rfl rfl (g_s 4 31 rfl (by kernel_rfl) rfl rfl (g_s 5 63 rfl (by kernel_rfl) rfl rfl (g_s 6 127 rfl (by kernel_rfl) rfl rfl (g_s 7 255 rfl (by kernel_rfl) rfl rfl (g_s 8 511 rfl (by kernel_rfl) rfl rfl (g_s 9 1023 rfl (by kernel_rfl) rfl rfl (g_s 10 2047 rfl (by kernel_rfl) rfl rfl (g_s 11 4095 rfl (by kernel_rfl) rfl rfl (g_s 12 8191 rfl (by kernel_rfl) rfl rfl (g_s 13 16383 rfl (by kernel_rfl) rfl rfl (g_s 14 32767 rfl (by kernel_rfl) rfl rfl (g_p 15 65535 rfl (by kernel_rfl) (y_pick_f rfl rfl) rfl rfl (g_d (by kernel_rfl) ?_)))))))))))));refine tr_thenN ?_;exact tr_join [(0, (.pointer p0)), (3, (.pointer (some a2))), (5, (.int .i64 (y19.len : Int))), (26, (.bool false))] ⟨rfl, rfl, rfl, rfl, trivial⟩ ⟨_, _, _, _, rfl, H⟩
def F.xdg (p0 : Option Addr) (p1 : Int) (h : H) (Q : Int -> Int -> H -> Prop) : Prop :=
  F.xbi p0 p1 h fun r2 h1 =>
  (((r2 != 0)) = true ->
  Q 0 r2 h1) ∧
  (((r2 != 0)) = false ->
  F.xcg p0 h1 fun r5 r6 r7 h4 =>
  new h4 (((⟨0, 0, 0, 0⟩ : S_api_Agg) : S_api_Agg).cells.toArray) ty_34 fun a9 h8 =>
  stH h8 a9 r5.cells fun h10 =>
  ((!r7) = true ->
  Q 0 44 h10) ∧
  ((!r7) = false ->
  F.xbg p0 (⟨p1, (⟨0, 0, 0, 0⟩ : S_api_Agg), true⟩ : S_chain_version_api_Agg) h10 fun r13 h12 =>
  Q r13 0 h12))
theorem F.xdg_ok {p0 : Option Addr} {p1 : Int} {h : H} {Q : Int -> Int -> H -> Prop} (H : F.xdg p0 p1 h Q) : Fn PP 67 ([(.pointer p0), (.int .i64 p1)] : List Value).toArray h fun r h' => ∃ r0 r1, r = .tuple #[(.int .i64 r0), (.int .i64 r1)] ∧ Q r0 r1 h' := by
 unfold F.xdg at H;refine fn_of Tryz.func67 Tryz.ntmps67 rfl rfl fun w0 => (tr_sub [(0, (.pointer p0)), (1, (.int .i64 p1))] ⟨rfl, rfl, trivial⟩ (tr_seq (tr_region (tq (y_assign rfl) (tq (y_assign rfl) (tr_nil (tr_thenN (tr_seq (tr_seq (tr_region (tq (y_move rfl) (tq (y_move rfl) (tr_e (e_call Tryz.call83 rfl (F.xbi_ok H)) rfl rfl ?_)))))))))))));rintro _ h1 ⟨r2, rfl, H⟩;refine tq (y_assign rfl) (tr_nil (tr_thenN (tr_seq (tr_region (tq (y_move rfl) (tq (y_neq rfl rfl) (tr_nil (tr_thenN ?_))))))));refine tr_cond rfl (fun g3 => ?_) (fun g3 => ?_)
 ·replace H := H.1 g3;refine tr_seq (tr_region (tq (y_move rfl) (tq (y_assign rfl) (tq (y_assign rfl) (tr_nil (tr_thenN (tr_ret (tr_thenR ?_))))))));exact tr_ret2 rfl rfl rfl ⟨_, _, rfl, H⟩
 ·replace H := H.2 g3;refine tr_skip (tr_thenN (tr_seq (tr_seq (tr_region (tq (y_move rfl) (tr_e (e_call Tryz.call42 rfl (F.xcg_ok H)) rfl rfl ?_))))));rintro _ h4 ⟨r5, r6, r7, rfl, H⟩;refine tq (y_move rfl) (tq (y_ext rfl rfl) (tq (y_ext rfl rfl) (tq (y_ext rfl rfl) (tr_e (f_alloc (cs := ((⟨0, 0, 0, 0⟩ : S_api_Agg) : S_api_Agg).cells.toArray) Tryz.zeroValue34 rfl H) rfl rfl ?_))));rintro _ h8 ⟨a9, rfl, H⟩;refine tr_e (f_store (vs := r5.cells) Tryz.sizeOf34 rfl rfl cellsOfStruct rfl (by intro v hv; exact ones_S_api_Agg _ v hv) H) rfl rfl ?_;rintro _ h10 ⟨rfl, H⟩;refine tq (y_assign rfl) (tq (y_assign rfl) (tr_nil (tr_thenN (tr_seq (tr_region (tq (y_move rfl) (tq (y_not rfl) (tr_nil (tr_thenN ?_)))))))));refine tr_cond rfl (fun g11 => ?_) (fun g11 => ?_)
  ·replace H := H.1 g11;refine tr_seq (tr_region (tq (y_assign rfl) (tq (y_assign rfl) (tr_nil (tr_thenN (tr_ret (tr_thenR ?_)))))));exact tr_ret2 rfl rfl rfl ⟨_, _, rfl, H⟩
  ·replace H := H.2 g11;refine tr_skip (tr_thenN (tr_seq (tr_region (tq (y_move rfl) (tq (y_move rfl) (tq (f_build rfl (bd_135_0_2 p1 true)) (tr_e (e_call Tryz.call84 rfl (F.xbg_ok H)) rfl rfl ?_)))))));rintro _ h12 ⟨r13, rfl, H⟩;refine tq (y_assign rfl) (tq (y_assign rfl) (tr_nil (tr_thenN (tr_ret ?_))));exact tr_ret2 rfl rfl rfl ⟨_, _, rfl, H⟩
def F.xbl.j1 (Q : Int -> H -> Prop) (x0 : Option Addr) (x1 : Int) (x5 : Addr) (h : H) : Prop :=
  ld_S_api_Cell h x5 fun y9 =>
  F.xck x0 y9 h fun r12 h11 =>
  (r12.isNone = true ->
  Q 44 h11) ∧
  (r12.isNone = false ->
  F.xdg r12 x1 h11 fun r15 r16 h14 =>
  (((r16 != 0)) = true ->
  Q r16 h14) ∧
  (((r16 != 0)) = false ->
  nn x0 fun a18 =>
  ldI .i64 h14 ((a18.add 0).add 0) fun y20 =>
  nn x0 fun a22 =>
  stH h14 ((a22.add 0).add 0) [(.int .i64 (IntKind.wrap .i64 (y20 + (IntKind.wrap .i64 (r15 - 1)))))] fun h24 =>
  nn x0 fun a25 =>
  ldI .i64 h24 ((a25.add 0).add 1) fun y27 =>
  nn x0 fun a29 =>
  stH h24 ((a29.add 0).add 1) [(.int .i64 (IntKind.wrap .i64 (y27 - 1)))] fun h31 =>
  Q 0 h31))
def F.xbl.j2 (Q : Int -> H -> Prop) (x0 : Option Addr) (x1 : Int) (x5 : Addr) (x25 : Bool) (h : H) : Prop :=
  (x25 = true ->
  Q 1 h) ∧
  (x25 = false ->
  F.xbl.j1 Q x0 x1 x5 h)
def F.xbl (p0 : Option Addr) (p1 : Int) (p2 : S_api_Cell) (h : H) (Q : Int -> H -> Prop) : Prop :=
  new h p2.cells.toArray ty_32 fun a2 h1 =>
  ld_S_api_Cell h1 a2 fun y3 =>
  F.xak y3 h1 fun r6 r7 h5 =>
  (((r7 != 0)) = true ->
  Q r7 h5) ∧
  (((r7 != 0)) = false ->
  ((decide (p1 < 1)) = true ->
  F.xbl.j2 Q p0 p1 a2 true h5) ∧
  ((decide (p1 < 1)) = false ->
  F.xbl.j2 Q p0 p1 a2 (decide (p1 > 1099511627776)) h5))
theorem F.xbl_ok {p0 : Option Addr} {p1 : Int} {p2 : S_api_Cell} {h : H} {Q : Int -> H -> Prop} (H : F.xbl p0 p1 p2 h Q) : Fn PP 32 ([(.pointer p0), (.int .i64 p1), (.agg p2.cells.toArray)] : List Value).toArray h fun r h' => ∃ r0, r = (.int .i64 r0) ∧ Q r0 h' := by
 unfold F.xbl at H;refine fn_of Tryz.func32 Tryz.ntmps32 rfl rfl fun w0 => (tr_sub [(0, (.pointer p0)), (1, (.int .i64 p1)), (2, (.agg p2.cells.toArray))] ⟨rfl, rfl, rfl, trivial⟩ (tr_seq (tr_region (tr_e (f_box (cs := p2.cells.toArray) rfl rfl H) rfl rfl ?_))));rintro _ h1 ⟨a2, rfl, H⟩;refine tq (y_assign rfl) (tr_nil (tr_thenN (tr_seq (tr_seq (tr_region ?_)))));obtain ⟨y3, k4, H⟩ := H;refine tr_h (y_ldS Tryz.isAgg32 Tryz.sizeOf32 rfl rfl) k4 rfl rfl (tr_e (e_call Tryz.call39 rfl (F.xak_ok H)) rfl rfl ?_);rintro _ h5 ⟨r6, r7, rfl, H⟩;refine tq (y_move rfl) (tq (y_ext rfl rfl) (tq (y_ext rfl rfl) (tq (y_assign rfl) (tq (y_assign rfl) (tr_nil (tr_thenN (tr_seq (tr_region (tq (y_move rfl) (tq (y_neq rfl rfl) (tr_nil (tr_thenN ?_))))))))))));refine tr_cond rfl (fun g8 => ?_) (fun g8 => ?_)
 ·replace H := H.1 g8;refine tr_seq (tr_region (tq (y_move rfl) (tq (y_assign rfl) (tr_nil (tr_thenN (tr_ret (tr_thenR ?_)))))));exact tr_ret1 rfl rfl ⟨_, rfl, H⟩
 ·replace H := H.2 g8;refine tr_skip (tr_thenN ?_);refine tr_seq_j (fun L' h => ∃ (x0 : Option Addr) (x1 : Int) (x5 : Addr), L' = [(0, (.pointer x0)), (1, (.int .i64 x1)), (5, (.pointer (some x5)))] ∧ F.xbl.j1 Q x0 x1 x5 h) ?_ ?_
  ·rintro L' h ⟨x0, x1, x5, rfl, H⟩;unfold F.xbl.j1 at H;refine tr_seq (tr_region (tq (y_move rfl) ?_));obtain ⟨y9, k10, H⟩ := H;refine tr_h (y_ldS Tryz.isAgg32 Tryz.sizeOf32 rfl rfl) k10 rfl rfl (tr_e (e_call Tryz.call64 rfl (F.xck_ok H)) rfl rfl ?_);rintro _ h11 ⟨r12, rfl, H⟩;refine tq (y_assign rfl) (tr_nil (tr_thenN (tr_seq (tr_seq (tr_region (tq (y_move rfl) (tq (y_pnil_eql Tryz.runUnderlying70 rfl rfl) (tr_nil (tr_thenN ?_)))))))));refine tr_cond rfl (fun g13 => ?_) (fun g13 => ?_)
   ·replace H := H.1 g13;refine tr_seq (tr_region (tq (y_assign rfl) (tr_nil (tr_thenN (tr_ret (tr_thenR ?_))))));exact tr_ret1 rfl rfl ⟨_, rfl, H⟩
   ·replace H := H.2 g13;refine tr_skip (tr_thenN (tr_seq (tr_region (tq (y_move rfl) (tq (y_move rfl) (tr_e (e_call Tryz.call67 rfl (F.xdg_ok H)) rfl rfl ?_))))));rintro _ h14 ⟨r15, r16, rfl, H⟩;refine tq (y_move rfl) (tq (y_ext rfl rfl) (tq (y_ext rfl rfl) (tq (y_assign rfl) (tq (y_assign rfl) (tr_nil (tr_thenN (tr_seq (tr_seq (tr_region (tq (y_move rfl) (tq (y_neq rfl rfl) (tr_nil (tr_thenN ?_)))))))))))));refine tr_cond rfl (fun g17 => ?_) (fun g17 => ?_)
    ·replace H := H.1 g17;refine tr_seq (tr_region (tq (y_move rfl) (tq (y_assign rfl) (tr_nil (tr_thenN (tr_ret (tr_thenR ?_)))))));exact tr_ret1 rfl rfl ⟨_, rfl, H⟩
    ·replace H := H.2 g17;refine tr_skip (tr_thenN (tr_seq (tr_region (tq (y_move rfl) ?_))));obtain ⟨a18, e19, H⟩ := H;refine tq (f_nn rfl e19) (tq (y_fa (off := 0) Tryz.runUnderlying46 fo_46_0 rfl) (tq (y_fa (off := 0) Tryz.runUnderlying43 fo_43_0 rfl) ?_));obtain ⟨y20, k21, H⟩ := H;refine tr_h (y_ld Tryz.isAgg3 rfl) k21 rfl rfl (tq (y_move rfl) (tq (y_sub rfl rfl) (tq (y_add rfl rfl) ?_)));obtain ⟨a22, e23, H⟩ := H;refine tq (f_nn rfl e23) (tq (y_fa (off := 0) Tryz.runUnderlying46 fo_46_0 rfl) (tq (y_fa (off := 0) Tryz.runUnderlying43 fo_43_0 rfl) (tr_e (f_store (vs := [(.int .i64 (IntKind.wrap .i64 (y20 + (IntKind.wrap .i64 (r15 - 1)))))]) Tryz.sizeOf3 rfl rfl rfl rfl (one1 rfl) H) rfl rfl ?_)));rintro _ h24 ⟨rfl, H⟩;refine tr_nil (tr_thenN (tr_seq (tr_region (tq (y_move rfl) ?_))));obtain ⟨a25, e26, H⟩ := H;refine tq (f_nn rfl e26) (tq (y_fa (off := 0) Tryz.runUnderlying46 fo_46_0 rfl) (tq (y_fa (off := 1) Tryz.runUnderlying43 fo_43_1 rfl) ?_));obtain ⟨y27, k28, H⟩ := H;refine tr_h (y_ld Tryz.isAgg3 rfl) k28 rfl rfl (tq (y_sub rfl rfl) ?_);obtain ⟨a29, e30, H⟩ := H;refine tq (f_nn rfl e30) (tq (y_fa (off := 0) Tryz.runUnderlying46 fo_46_0 rfl) (tq (y_fa (off := 1) Tryz.runUnderlying43 fo_43_1 rfl) (tr_e (f_store (vs := [(.int .i64 (IntKind.wrap .i64 (y27 - 1)))]) Tryz.sizeOf3 rfl rfl rfl rfl (one1 rfl) H) rfl rfl ?_)));rintro _ h31 ⟨rfl, H⟩;refine tr_nil (tr_thenN (tr_seq (tr_region (tq (y_assign rfl) (tr_nil (tr_thenN (tr_ret ?_)))))));exact tr_ret1 rfl rfl ⟨_, rfl, H⟩
  ·refine tr_seq_j (fun L' h => ∃ (x0 : Option Addr) (x1 : Int) (x5 : Addr) (x25 : Bool), L' = [(0, (.pointer x0)), (1, (.int .i64 x1)), (5, (.pointer (some x5))), (25, (.bool x25))] ∧ F.xbl.j2 Q x0 x1 x5 x25 h) ?_ ?_
   ·rintro L' h ⟨x0, x1, x5, x25, rfl, H⟩;unfold F.xbl.j2 at H;refine tr_cond rfl (fun g32 => ?_) (fun g32 => ?_)
    ·replace H := H.1 g32;refine tr_seq (tr_region (tq (y_assign rfl) (tr_nil (tr_thenN (tr_ret (tr_thenR ?_))))));exact tr_ret1 rfl rfl ⟨_, rfl, H⟩
    ·replace H := H.2 g32;refine tr_skip (tr_thenN ?_);exact tr_join [(0, (.pointer x0)), (1, (.int .i64 x1)), (5, (.pointer (some x5)))] ⟨rfl, rfl, rfl, trivial⟩ ⟨_, _, _, rfl, H⟩
   ·refine tr_region (tq (y_move rfl) (tq (y_lss rfl rfl) (tq (y_move rfl) ?_)));refine tr_split (t := 22) rfl (fun g33 => ?_) (fun g33 => ?_)
    ·replace H := H.1 g33;refine ts (ts (tq (y_pick_t rfl rfl) (tr_nil (tr_thenN ?_))));exact tr_join [(0, (.pointer p0)), (1, (.int .i64 p1)), (5, (.pointer (some a2))), (25, (.bool true))] ⟨rfl, rfl, rfl, rfl, trivial⟩ ⟨_, _, _, _, rfl, H⟩
    ·replace H := H.2 g33;refine tq (y_move rfl) (tq (y_gtr rfl rfl) (tq (y_pick_f rfl rfl) (tr_nil (tr_thenN ?_))));exact tr_join [(0, (.pointer p0)), (1, (.int .i64 p1)), (5, (.pointer (some a2))), (25, (.bool (decide (p1 > 1099511627776))))] ⟨rfl, rfl, rfl, rfl, trivial⟩ ⟨_, _, _, _, rfl, H⟩
def F.xcf.l1 (Q : H -> Prop) : Nat -> Value -> Addr -> H -> Prop
  | 0, _, _, _ => False
  | q1 + 1, x0, x5, h =>
    RunS PP (Instr.next (.pointer (some x5)) false 0) h fun u h5 => ∃ (b6 : Bool) (t7 : Array Value), u = (.tuple (#[.bool b6] ++ t7)) ∧
    (b6 = true ->
    RunS PP (Instr.entry (.pointer (some x5))) h5 fun u h9 => ∃ (r10 : ByteArray) (r11 : Option Addr), u = (.tuple #[(.string r10), (.pointer r11)]) ∧
    CV PP x0 [(.string r10)] h9 fun u h12 => ∃ (r13 : Bool), u = (.bool r13) ∧
    ((!r13) = true ->
    Q h12) ∧
    ((!r13) = false ->
    (F.xcf.l1 Q q1) x0 x5 h12)) ∧
    (b6 = false ->
    Q h5)
def F.xcf (p0 : Value) (p1 : Addr) (h : H) (Q : H -> Prop) : Prop :=
  ldM h p1 fun y1 =>
  RunS PP (Instr.range 150 (.map y1)) h fun u h3 => ∃ a4 : Addr, u = (.pointer (some a4)) ∧
  ∃ m, F.xcf.l1 Q m p0 a4 h3
theorem F.xcf_ok {p0 : Value} {p1 : Addr} {h : H} {Q : H -> Prop} (H : F.xcf p0 p1 h Q) : Fn PP 123 ([p0, (.pointer (some p1))] : List Value).toArray h fun r h' => r = .tuple #[] ∧ Q  h' := by
 unfold F.xcf at H;refine fn_of Tryz.func123 Tryz.ntmps123 rfl rfl fun w0 => (tr_sub [(0, p0), (1, (.pointer (some p1)))] ⟨rfl, rfl, trivial⟩ (tr_seq (tr_region ?_)));obtain ⟨y1, k2, H⟩ := H;refine tr_h (y_ld Tryz.isAgg150 rfl) k2 rfl rfl (tr_e (f_rg rfl H) rfl rfl ?_);rintro _ h3 ⟨a4, rfl, H⟩;refine tr_nil (tr_thenN (tr_block ?_));obtain ⟨m15, H⟩ := H;refine tr_sub [(0, p0), (5, (.pointer (some a4)))] ⟨rfl, rfl, trivial⟩ ?_;refine tr_loop_j (fun m L' h => ∃ (x0 : Value) (x5 : Addr), L' = [(0, x0), (5, (.pointer (some x5)))] ∧ F.xcf.l1 Q m x0 x5 h) ?_ ?_ m15 ⟨_, _, rfl, H⟩
 ·rintro L' h ⟨_, _, _, H⟩; exact H
 ·rintro q1 L' h ⟨x0, x5, rfl, H⟩;unfold F.xcf.l1 at H;refine tr_seq (tr_region (tr_e (f_nx rfl H) rfl rfl ?_));rintro _ h5 ⟨b6, t7, rfl, H⟩;refine tq (y_ext0 (t := t7) rfl) (tr_nil (tr_thenN (tr_seq ?_)));refine tr_cond rfl (fun g8 => ?_) (fun g8 => ?_)
  ·replace H := H.1 g8;refine tr_skip (tr_thenN (tr_block (tr_seq (tr_region (tr_e (f_en rfl H) rfl rfl ?_)))));rintro _ h9 ⟨r10, r11, rfl, H⟩;refine tq (y_ext rfl rfl) (tq (y_assign rfl) (tr_nil (tr_thenN (tr_seq (tr_region (tq (y_move rfl) (tq (y_move rfl) (tr_e (e_callD rfl rfl H) rfl rfl ?_))))))));rintro _ h12 ⟨r13, rfl, H⟩;refine tq (y_not rfl) (tr_nil (tr_thenN ?_));refine tr_cond rfl (fun g14 => ?_) (fun g14 => ?_)
   ·replace H := H.1 g14;refine tr_ret (tr_blockR (tr_thenR (tr_blockR ?_)));exact tr_ret0 rfl ⟨rfl, H⟩
   ·replace H := H.2 g14;refine tr_skip (tr_blockN (tr_thenN ?_));exact tr_join [(0, x0), (5, (.pointer (some x5)))] ⟨rfl, rfl, trivial⟩ ⟨_, _, rfl, H⟩
  ·replace H := H.2 g8;refine tr_exit (tr_thenE (tr_thenE (tr_hit ?_)));exact tr_end0 rfl ⟨rfl, H⟩
def F.xbj (p0 : Option Nat) (h : H) (Q : Value -> H -> Prop) : Prop :=
  new h #[(.map p0)] ty_150 fun a2 h1 =>
  Q (.func (.func 123) #[] #[(.pointer (some a2))]) h1
theorem F.xbj_ok {p0 : Option Nat} {h : H} {Q : Value -> H -> Prop} (H : F.xbj p0 h Q) : Fn PP 95 ([(.map p0)] : List Value).toArray h fun r h' => ∃ r0, r = r0 ∧ Q r0 h' := by
 unfold F.xbj at H;refine fn_of Tryz.func95 Tryz.ntmps95 rfl rfl fun w0 => (tr_sub [(0, (.map p0))] ⟨rfl, trivial⟩ (tr_seq (tr_region (tr_e (f_box (cs := #[(.map p0)]) rfl rfl H) rfl rfl ?_))));rintro _ h1 ⟨a2, rfl, H⟩;refine tq (y_assign rfl) (tr_nil (tr_thenN (tr_seq (tr_region (tq (y_fn rfl rfl) (tq (y_assign rfl) (tr_nil (tr_thenN (tr_ret ?_)))))))));exact tr_ret1 rfl rfl ⟨_, rfl, H⟩
def F.xdm (p0 : Sl) (p1 : Value) (h : H) (Q : Sl -> H -> Prop) : Prop :=
  new h #[p0.enc] ty_114 fun a2 h1 =>
  rng PP p1 h1 [] (fun bg1 l1 args h K1 J1 => ∃ (y1_7 : ByteArray), args = [(.string y1_7)] ∧
    bg1 h fun h3 =>
    ldL h3 a2 fun y4 =>
    newL h3 #[(.string y1_7)] ty_9 1 fun s7 h6 =>
    runL PP (Builtin.append_ #[114, 114] 114 #[y4.enc, s7.enc]) h6 fun s9 h8 =>
    stH h8 a2 [s9.enc] fun h10 =>
    K1 h10) (fun h11 =>
    ldL h11 a2 fun y12 =>
    shuts (h1.size :: ([] : List Nat)) h11 fun h14 =>
    Q y12 h14) (fun jj h15 =>
    True)
theorem F.xdm_ok {p0 : Sl} {p1 : Value} {h : H} {Q : Sl -> H -> Prop} (H : F.xdm p0 p1 h Q) : Fn PP 135 ([p0.enc, p1] : List Value).toArray h fun r h' => ∃ r0, r = r0.enc ∧ Q r0 h' := by
 unfold F.xdm at H;refine fn_ofM Tryz.func135 Tryz.ntmps135 rfl rfl fun w0 => (tr_sub [(0, p0.enc), (1, p1)] ⟨rfl, rfl, trivial⟩ (tr_seq (tr_region (tr_e (f_box (cs := #[p0.enc]) rfl rfl H) rfl rfl ?_))));rintro _ h1 ⟨a2, rfl, H⟩;refine tq (y_assign rfl) (tr_nil (tr_thenN (tr_seq (tr_seq (tr_region (tq (y_move rfl) (tr_nil (tr_thenN (tr_block ?_)))))))));refine tr_range rfl (by kernel_rfl) H ?_ ?_ ?_
 ·intro bg1 l1 args h K1 J1 w1 hbg1 H;obtain ⟨y1_7, rfl, H⟩ := H;refine ⟨rfl, ?_⟩;refine tr_sub [(0, p0.enc), (1, p1), (2, (.pointer (some a2))), (4, (⟨none, 0, 0⟩ : Sl).enc), (6, p1), (7, (.string y1_7))] ⟨rfl, rfl, rfl, rfl, rfl, rfl, trivial⟩ (tr_region (tq (y_assign rfl) (tr_nil (tr_thenN (tr_bgn hbg1 H fun h3 H => (tr_block (tr_region ?_)))))));obtain ⟨y4, k5, H⟩ := H;refine tr_h (y_ld Tryz.isAgg114 rfl) k5 rfl rfl (tq (y_move rfl) (tr_e (f_buildL (cs := #[(.string y1_7)]) rfl rfl (bl_114_1_0 y1_7) H) rfl rfl ?_));rintro _ h6 ⟨s7, rfl, H⟩;refine tr_e (f_app rfl H) rfl rfl ?_;rintro _ h8 ⟨s9, rfl, H⟩;refine tr_e (f_store (vs := [s9.enc]) Tryz.sizeOf114 rfl rfl rfl rfl (one1 rfl) H) rfl rfl ?_;rintro _ h10 ⟨rfl, H⟩;refine tr_nil (tr_blockN ?_);exact tr_rN H
 ·intro h11 H;refine tr_blockN (tr_thenN (tr_seq (tr_region ?_)));obtain ⟨y12, k13, H⟩ := H;refine tr_h (y_ld Tryz.isAgg114 rfl) k13 rfl rfl (tq (y_assign rfl) (tr_nil (tr_thenN (tr_ret (tr_shut (h1.size :: ([] : List Nat)) rfl H fun h14 H => ?_)))));exact tr_ret1 rfl rfl ⟨_, rfl, H⟩
 ·intro jj c h15 hjc H;simp at hjc
def F.xdu (p0 : Value) (h : H) (Q : Sl -> H -> Prop) : Prop :=
  F.xdm (⟨none, 0, 0⟩ : Sl) p0 h fun r2 h1 =>
  Q r2 h1
theorem F.xdu_ok {p0 : Value} {h : H} {Q : Sl -> H -> Prop} (H : F.xdu p0 h Q) : Fn PP 121 ([p0] : List Value).toArray h fun r h' => ∃ r0, r = r0.enc ∧ Q r0 h' := by
 unfold F.xdu at H;refine fn_of Tryz.func121 Tryz.ntmps121 rfl rfl fun w0 => (tr_sub [(0, p0)] ⟨rfl, trivial⟩ (tr_seq (tr_region (tq (y_assign rfl) (tr_nil (tr_thenN (tr_seq (tr_region (tq (y_move rfl) (tr_e (e_call Tryz.call135 rfl (F.xdm_ok H)) rfl rfl ?_))))))))));rintro _ h1 ⟨r2, rfl, H⟩;refine tq (y_assign rfl) (tr_nil (tr_thenN (tr_ret ?_)));exact tr_ret1 rfl rfl ⟨_, rfl, H⟩
def F.xdp (p0 : Value) (h : H) (Q : Sl -> H -> Prop) : Prop :=
  F.xdu p0 h fun r2 h1 =>
  Fn PP 122 [r2.enc].toArray h1 fun u h3 => u = (.tuple #[]) ∧
  Q r2 h3
theorem F.xdp_ok {p0 : Value} {h : H} {Q : Sl -> H -> Prop} (H : F.xdp p0 h Q) : Fn PP 94 ([p0] : List Value).toArray h fun r h' => ∃ r0, r = r0.enc ∧ Q r0 h' := by
 unfold F.xdp at H;refine fn_of Tryz.func94 Tryz.ntmps94 rfl rfl fun w0 => (tr_sub [(0, p0)] ⟨rfl, trivial⟩ (tr_seq (tr_region (tq (y_assign rfl) (tr_nil (tr_thenN (tr_seq (tr_region (tq (y_move rfl) (tr_e (e_call Tryz.call121 rfl (F.xdu_ok H)) rfl rfl ?_))))))))));rintro _ h1 ⟨r2, rfl, H⟩;refine tq (y_assign rfl) (tr_nil (tr_thenN (tr_seq (tr_region (tq (y_move rfl) (tr_e (e_call Tryz.call122 rfl H) rfl rfl ?_))))));rintro _ h3 ⟨rfl, H⟩;refine tr_nil (tr_thenN (tr_seq (tr_region (tq (y_move rfl) (tq (y_assign rfl) (tr_nil (tr_thenN (tr_ret ?_))))))));exact tr_ret1 rfl rfl ⟨_, rfl, H⟩
def F.xch.l1 (Q : H -> Prop) : Nat -> Value -> Addr -> Sl -> Int -> Int -> H -> Prop
  | 0, _, _, _, _, _, _ => False
  | q1 + 1, x0, x2, x6, x7, x8, h =>
    ((decide (x8 < x7)) = true ->
    idxA x6 x8 1 fun a4 =>
    ldS h a4 fun y6 =>
    ldM h x2 fun y8 =>
    RunS PP (Instr.lookup 150 (.map y8) (.string y6) false) h fun u h10 => ∃ r11 : Option Addr, u = (.pointer r11) ∧
    CV PP x0 [(.string y6), (.pointer r11)] h10 fun u h12 => ∃ (r13 : Bool), u = (.bool r13) ∧
    ((!r13) = true ->
    Q h12) ∧
    ((!r13) = false ->
    (F.xch.l1 Q q1) x0 x2 x6 x7 (IntKind.wrap .i64 (x8 + 1)) h12)) ∧
    ((decide (x8 < x7)) = false ->
    Q h)
def F.xch (p0 : Value) (p1 : Addr) (p2 : Addr) (h : H) (Q : H -> Prop) : Prop :=
  ldL h p1 fun y1 =>
  ∃ m, F.xch.l1 Q m p0 p2 y1 (y1.len : Int) 0 h
theorem F.xch_ok {p0 : Value} {p1 : Addr} {p2 : Addr} {h : H} {Q : H -> Prop} (H : F.xch p0 p1 p2 h Q) : Fn PP 96 ([p0, (.pointer (some p1)), (.pointer (some p2))] : List Value).toArray h fun r h' => r = .tuple #[] ∧ Q  h' := by
 unfold F.xch at H;refine fn_of Tryz.func96 Tryz.ntmps96 rfl rfl fun w0 => (tr_sub [(0, p0), (1, (.pointer (some p1))), (2, (.pointer (some p2)))] ⟨rfl, rfl, rfl, trivial⟩ (tr_seq (tr_region ?_)));obtain ⟨y1, k2, H⟩ := H;refine tr_h (y_ld Tryz.isAgg114 rfl) k2 rfl rfl (tq (y_len (ts := #[]) Tryz.runUnderlying114 (o := y1.ptr) (n := y1.len) (cap := y1.cap) rfl) (tq (y_move rfl) (tr_nil (tr_thenN (tr_block ?_)))));obtain ⟨m15, H⟩ := H;refine tr_sub [(0, p0), (2, (.pointer (some p2))), (6, y1.enc), (7, (.int .i64 (y1.len : Int))), (8, (.int .i64 0))] ⟨rfl, rfl, rfl, rfl, rfl, trivial⟩ ?_;refine tr_loop_j (fun m L' h => ∃ (x0 : Value) (x2 : Addr) (x6 : Sl) (x7 : Int) (x8 : Int), L' = [(0, x0), (2, (.pointer (some x2))), (6, x6.enc), (7, (.int .i64 x7)), (8, (.int .i64 x8))] ∧ F.xch.l1 Q m x0 x2 x6 x7 x8 h) ?_ ?_ m15 ⟨_, _, _, _, _, rfl, H⟩
 ·rintro L' h ⟨_, _, _, _, _, _, H⟩; exact H
 ·rintro q1 L' h ⟨x0, x2, x6, x7, x8, rfl, H⟩;unfold F.xch.l1 at H;refine tr_seq (tr_region (tq (y_lss rfl rfl) (tr_nil (tr_thenN (tr_seq ?_)))));refine tr_cond rfl (fun g3 => ?_) (fun g3 => ?_)
  ·replace H := H.1 g3;refine tr_skip (tr_thenN (tr_seq (tr_block (tr_seq (tr_region ?_)))));obtain ⟨a4, e5, H⟩ := H;refine tq (f_idx (s := x6) Tryz.runUnderlying114 Tryz.sizeOf9 rfl rfl e5) ?_;obtain ⟨y6, k7, H⟩ := H;refine tr_h (y_ld Tryz.isAgg9 rfl) k7 rfl rfl (tq (y_assign rfl) (tr_nil (tr_thenN (tr_seq (tr_region (tq (y_move rfl) (tq (y_move rfl) ?_)))))));obtain ⟨y8, k9, H⟩ := H;refine tr_h (y_ld Tryz.isAgg150 rfl) k9 rfl rfl (tq (y_move rfl) (tr_e (f_lk rfl rfl H) rfl rfl ?_));rintro _ h10 ⟨r11, rfl, H⟩;refine tr_e (e_callD rfl rfl H) rfl rfl ?_;rintro _ h12 ⟨r13, rfl, H⟩;refine tq (y_not rfl) (tr_nil (tr_thenN ?_));refine tr_cond rfl (fun g14 => ?_) (fun g14 => ?_)
   ·replace H := H.1 g14;refine tr_ret (tr_blockR (tr_thenR (tr_thenR (tr_blockR ?_))));exact tr_ret0 rfl ⟨rfl, H⟩
   ·replace H := H.2 g14;refine tr_skip (tr_blockN (tr_thenN (tr_region (tq (y_add rfl rfl) (tq (y_move rfl) (tr_nil (tr_thenN ?_)))))));exact tr_join [(0, x0), (2, (.pointer (some x2))), (6, x6.enc), (7, (.int .i64 x7)), (8, (.int .i64 (IntKind.wrap .i64 (x8 + 1))))] ⟨rfl, rfl, rfl, rfl, rfl, trivial⟩ ⟨_, _, _, _, _, rfl, H⟩
  ·replace H := H.2 g3;refine tr_exit (tr_thenE (tr_thenE (tr_hit ?_)));exact tr_end0 rfl ⟨rfl, H⟩
def F.xah.l2 (Q : Value -> H -> Prop) (C1 : Addr -> Sl -> Int -> Int -> H -> Prop) : Nat -> Addr -> Sl -> Int -> Int -> Sl -> Int -> Int -> H -> Prop
  | 0, _, _, _, _, _, _, _, _ => False
  | q2 + 1, x3, x22, x23, x24, x28, x29, x30, h =>
    ((decide (x30 < x29)) = true ->
    idxA x28 x30 3 fun a26 =>
    ld_S_table_place_chain_Chain_api_Agg h a26 fun y28 =>
    new h (((⟨0, (⟨#[]⟩ : ByteArray), none⟩ : S_table_place_chain_Chain_api_Agg) : S_table_place_chain_Chain_api_Agg).cells.toArray) ty_130 fun a31 h30 =>
    stH h30 a31 y28.cells fun h32 =>
    ldI .u8 h32 (a31.add 0) fun y33 =>
    (((y33 == 1)) = true ->
    ldM h32 x3 fun y36 =>
    ldS h32 (a31.add 1) fun y38 =>
    ldP h32 (a31.add 2) fun y40 =>
    RunS PP (Instr.mapUpdate 150 (.map y36) (.string y38) (.pointer y40)) h32 fun _ h42 =>
    (F.xah.l2 Q C1 q2) x3 x22 x23 x24 x28 x29 (IntKind.wrap .i64 (x30 + 1)) h42) ∧
    (((y33 == 1)) = false ->
    (F.xah.l2 Q C1 q2) x3 x22 x23 x24 x28 x29 (IntKind.wrap .i64 (x30 + 1)) h32)) ∧
    ((decide (x30 < x29)) = false ->
    C1 x3 x22 x23 (IntKind.wrap .i64 (x24 + 1)) h)
def F.xah.l1 (Q : Value -> H -> Prop) : Nat -> Addr -> Sl -> Int -> Int -> H -> Prop
  | 0, _, _, _, _, _ => False
  | q1 + 1, x3, x22, x23, x24, h =>
    ((decide (x24 < x23)) = true ->
    idxA x22 x24 1 fun a21 =>
    ldL h a21 fun y23 =>
    ∃ m, F.xah.l2 Q (F.xah.l1 Q q1) m x3 x22 x23 x24 y23 (y23.len : Int) 0 h) ∧
    ((decide (x24 < x23)) = false ->
    ldM h x3 fun y44 =>
    F.xbj y44 h fun r47 h46 =>
    F.xdp r47 h46 fun r49 h48 =>
    new h48 #[(⟨none, 0, 0⟩ : Sl).enc] ty_114 fun a51 h50 =>
    stH h50 a51 [r49.enc] fun h52 =>
    Q (.func (.func 96) #[] #[(.pointer (some a51)), (.pointer (some x3))]) h52)
def F.xah (p0 : Option Addr) (h : H) (Q : Value -> H -> Prop) : Prop :=
  nn p0 fun a1 =>
  ldI .i64 h (a1.add 3) fun y3 =>
  RunS PP (Instr.makeMap 150 (some (.int .i64 y3))) h fun u h5 => ∃ m6 : Option Nat, u = (.map m6) ∧
  new h5 #[(.map none)] ty_150 fun a8 h7 =>
  stH h7 a8 [(.map m6)] fun h9 =>
  nn p0 fun a10 =>
  ldL h9 (a10.add 0) fun y12 =>
  nn p0 fun a14 =>
  ldL h9 (a14.add 1) fun y16 =>
  newL h9 #[y12.enc, y16.enc] ty_110 2 fun s19 h18 =>
  ∃ m, F.xah.l1 Q m a8 s19 (s19.len : Int) 0 h18
theorem F.xah_ok {p0 : Option Addr} {h : H} {Q : Value -> H -> Prop} (H : F.xah p0 h Q) : Fn PP 59 ([(.pointer p0)] : List Value).toArray h fun r h' => ∃ r0, r = r0 ∧ Q r0 h' := by
 unfold F.xah at H;refine fn_of Tryz.func59 Tryz.ntmps59 rfl rfl fun w0 => (tr_sub [(0, (.pointer p0))] ⟨rfl, trivial⟩ (tr_seq (tr_region (tq (y_assign rfl) (tr_nil (tr_thenN (tr_seq (tr_region (tq (y_move rfl) ?_)))))))));obtain ⟨a1, e2, H⟩ := H;refine tq (f_nn rfl e2) (tq (y_fa (off := 3) Tryz.runUnderlying112 fo_112_3 rfl) ?_);obtain ⟨y3, k4, H⟩ := H;refine tr_h (y_ld Tryz.isAgg3 rfl) k4 rfl rfl (tr_e (f_mkS rfl H) rfl rfl ?_);rintro _ h5 ⟨m6, rfl, H⟩;refine tr_e (f_alloc (cs := #[(.map none)]) Tryz.zeroValue150 rfl H) rfl rfl ?_;rintro _ h7 ⟨a8, rfl, H⟩;refine tr_e (f_store (vs := [(.map m6)]) Tryz.sizeOf150 rfl rfl rfl rfl (one1 rfl) H) rfl rfl ?_;rintro _ h9 ⟨rfl, H⟩;refine tr_nil (tr_thenN (tr_seq (tr_seq (tr_draw mixed [0, 1, 3, 7, 0, 16, 48, 112, 255, 511, 0] (by kernel_rfl) (g_p 0 1 rfl (by kernel_rfl) (y_move rfl) rfl rfl ?_)))));obtain ⟨a10, e11, H⟩ := H;refine g_p 1 3 rfl (by kernel_rfl) (f_nn rfl e11) rfl rfl (g_p 2 7 rfl (by kernel_rfl) (y_fa (off := 0) Tryz.runUnderlying112 fo_112_0 rfl) rfl rfl ?_);obtain ⟨y12, k13, H⟩ := H;refine g_h 3 15 rfl (by kernel_rfl) (y_ld Tryz.isAgg110 rfl) k13 rfl rfl (g_p 4 31 rfl (by kernel_rfl) (y_move rfl) rfl rfl ?_);obtain ⟨a14, e15, H⟩ := H;refine g_p 5 63 rfl (by kernel_rfl) (f_nn rfl e15) rfl rfl (g_p 6 127 rfl (by kernel_rfl) (y_fa (off := 1) Tryz.runUnderlying112 fo_112_1 rfl) rfl rfl ?_);obtain ⟨y16, k17, H⟩ := H;refine g_h 7 255 rfl (by kernel_rfl) (y_ld Tryz.isAgg110 rfl) k17 rfl rfl (g_p 10 1279 rfl (by kernel_rfl) (y_move rfl) rfl rfl (g_e 8 1535 [] (by kernel_rfl) rfl (by kernel_rfl) (f_buildL (cs := #[y12.enc, y16.enc]) rfl rfl (bl_151_2_0_1 y12 y16) H) rfl rfl ?_));rintro _ h18 ⟨s19, rfl, H⟩;refine ⟨trivial, ?_⟩;refine g_p 9 2047 rfl (by kernel_rfl) (y_len (ts := #[]) Tryz.runUnderlying151 (o := s19.ptr) (n := s19.len) (cap := s19.cap) rfl) rfl rfl (g_d (by kernel_rfl) (tr_thenN (tr_block ?_)));obtain ⟨m53, H⟩ := H;refine tr_sub [(3, (.pointer (some a8))), (22, s19.enc), (23, (.int .i64 (s19.len : Int))), (24, (.int .i64 0))] ⟨rfl, rfl, rfl, rfl, trivial⟩ ?_;refine tr_loop_j (fun m L' h => ∃ (x3 : Addr) (x22 : Sl) (x23 : Int) (x24 : Int), L' = [(3, (.pointer (some x3))), (22, x22.enc), (23, (.int .i64 x23)), (24, (.int .i64 x24))] ∧ F.xah.l1 Q m x3 x22 x23 x24 h) ?_ ?_ m53 ⟨_, _, _, _, rfl, H⟩
 ·rintro L' h ⟨_, _, _, _, _, H⟩; exact H
 ·rintro q1 L' h ⟨x3, x22, x23, x24, rfl, H⟩;unfold F.xah.l1 at H;refine tr_seq (tr_region (tq (y_lss rfl rfl) (tr_nil (tr_thenN (tr_seq ?_)))));refine tr_cond rfl (fun g20 => ?_) (fun g20 => ?_)
  ·replace H := H.1 g20;refine tr_skip (tr_thenN (tr_seq (tr_block (tr_seq (tr_region ?_)))));obtain ⟨a21, e22, H⟩ := H;refine tq (f_idx (s := x22) Tryz.runUnderlying151 Tryz.sizeOf110 rfl rfl e22) ?_;obtain ⟨y23, k24, H⟩ := H;refine tr_h (y_ld Tryz.isAgg110 rfl) k24 rfl rfl (tq (y_assign rfl) (tr_nil (tr_thenN (tr_seq (tr_region (tq (y_move rfl) (tq (y_len (ts := #[]) Tryz.runUnderlying110 (o := y23.ptr) (n := y23.len) (cap := y23.cap) rfl) (tq (y_move rfl) (tr_nil (tr_thenN (tr_block ?_)))))))))));obtain ⟨m43, H⟩ := H;refine tr_sub [(3, (.pointer (some x3))), (22, x22.enc), (23, (.int .i64 x23)), (24, (.int .i64 x24)), (28, y23.enc), (29, (.int .i64 (y23.len : Int))), (30, (.int .i64 0))] ⟨rfl, rfl, rfl, rfl, rfl, rfl, rfl, trivial⟩ ?_;refine tr_loop_j (fun m L' h => ∃ (x3 : Addr) (x22 : Sl) (x23 : Int) (x24 : Int) (x28 : Sl) (x29 : Int) (x30 : Int), L' = [(3, (.pointer (some x3))), (22, x22.enc), (23, (.int .i64 x23)), (24, (.int .i64 x24)), (28, x28.enc), (29, (.int .i64 x29)), (30, (.int .i64 x30))] ∧ F.xah.l2 Q (F.xah.l1 Q q1) m x3 x22 x23 x24 x28 x29 x30 h) ?_ ?_ m43 ⟨_, _, _, _, _, _, _, rfl, H⟩
   ·rintro L' h ⟨_, _, _, _, _, _, _, _, H⟩; exact H
   ·rintro q2 L' h ⟨x3, x22, x23, x24, x28, x29, x30, rfl, H⟩;unfold F.xah.l2 at H;refine tr_seq (tr_region (tq (y_lss rfl rfl) (tr_nil (tr_thenN (tr_seq ?_)))));refine tr_cond rfl (fun g25 => ?_) (fun g25 => ?_)
    ·replace H := H.1 g25;refine tr_skip (tr_thenN (tr_seq (tr_block (tr_seq (tr_region ?_)))));obtain ⟨a26, e27, H⟩ := H;refine tq (f_idx (s := x28) Tryz.runUnderlying110 Tryz.sizeOf130 rfl rfl e27) ?_;obtain ⟨y28, k29, H⟩ := H;refine tr_h (y_ldS Tryz.isAgg130 Tryz.sizeOf130 rfl rfl) k29 rfl rfl (tr_e (f_alloc (cs := ((⟨0, (⟨#[]⟩ : ByteArray), none⟩ : S_table_place_chain_Chain_api_Agg) : S_table_place_chain_Chain_api_Agg).cells.toArray) Tryz.zeroValue130 rfl H) rfl rfl ?_);rintro _ h30 ⟨a31, rfl, H⟩;refine tr_e (f_store (vs := y28.cells) Tryz.sizeOf130 rfl rfl cellsOfStruct rfl (by intro v hv; exact ones_S_table_place_chain_Chain_api_Agg _ v hv) H) rfl rfl ?_;rintro _ h32 ⟨rfl, H⟩;refine tr_nil (tr_thenN (tr_seq (tr_region (tq (y_fa (off := 0) Tryz.runUnderlying130 fo_130_0 rfl) ?_))));obtain ⟨y33, k34, H⟩ := H;refine tr_h (y_ld Tryz.isAgg5 rfl) k34 rfl rfl (tq (y_eql rfl rfl) (tr_nil (tr_thenN ?_)));refine tr_cond rfl (fun g35 => ?_) (fun g35 => ?_)
     ·replace H := H.1 g35;refine tr_region ?_;obtain ⟨y36, k37, H⟩ := H;refine tr_h (y_ld Tryz.isAgg150 rfl) k37 rfl rfl (tq (y_fa (off := 1) Tryz.runUnderlying130 fo_130_1 rfl) ?_);obtain ⟨y38, k39, H⟩ := H;refine tr_h (y_ld Tryz.isAgg9 rfl) k39 rfl rfl (tq (y_fa (off := 2) Tryz.runUnderlying130 fo_130_2 rfl) ?_);obtain ⟨y40, k41, H⟩ := H;refine tr_h (y_ld Tryz.isAgg70 rfl) k41 rfl rfl (tr_e (f_mu rfl rfl rfl H) rfl rfl ?_);rintro _ h42 ⟨rfl, H⟩;refine tr_nil (tr_blockN (tr_thenN (tr_region (tq (y_add rfl rfl) (tq (y_move rfl) (tr_nil (tr_thenN ?_)))))));exact tr_join [(3, (.pointer (some x3))), (22, x22.enc), (23, (.int .i64 x23)), (24, (.int .i64 x24)), (28, x28.enc), (29, (.int .i64 x29)), (30, (.int .i64 (IntKind.wrap .i64 (x30 + 1))))] ⟨rfl, rfl, rfl, rfl, rfl, rfl, rfl, trivial⟩ ⟨_, _, _, _, _, _, _, rfl, H⟩
     ·replace H := H.2 g35;refine tr_skip (tr_blockN (tr_thenN (tr_region (tq (y_add rfl rfl) (tq (y_move rfl) (tr_nil (tr_thenN ?_)))))));exact tr_join [(3, (.pointer (some x3))), (22, x22.enc), (23, (.int .i64 x23)), (24, (.int .i64 x24)), (28, x28.enc), (29, (.int .i64 x29)), (30, (.int .i64 (IntKind.wrap .i64 (x30 + 1))))] ⟨rfl, rfl, rfl, rfl, rfl, rfl, rfl, trivial⟩ ⟨_, _, _, _, _, _, _, rfl, H⟩
    ·replace H := H.2 g25;refine tr_exit (tr_thenE (tr_thenE (tr_hit (tr_blockN (tr_thenN (tr_region (tq (y_add rfl rfl) (tq (y_move rfl) (tr_nil (tr_thenN ?_))))))))));exact tr_join [(3, (.pointer (some x3))), (22, x22.enc), (23, (.int .i64 x23)), (24, (.int .i64 (IntKind.wrap .i64 (x24 + 1))))] ⟨rfl, rfl, rfl, rfl, trivial⟩ ⟨_, _, _, _, rfl, H⟩
  ·replace H := H.2 g20;refine tr_exit (tr_thenE (tr_thenE (tr_hit (tr_thenN (tr_seq (tr_region ?_))))));obtain ⟨y44, k45, H⟩ := H;refine tr_h (y_ld Tryz.isAgg150 rfl) k45 rfl rfl (tr_e (e_call Tryz.call95 rfl (F.xbj_ok H)) rfl rfl ?_);rintro r47 h46 ⟨_, rfl, H⟩;refine tr_e (e_call Tryz.call94 rfl (F.xdp_ok H)) rfl rfl ?_;rintro _ h48 ⟨r49, rfl, H⟩;refine tr_e (f_alloc (cs := #[(⟨none, 0, 0⟩ : Sl).enc]) Tryz.zeroValue114 rfl H) rfl rfl ?_;rintro _ h50 ⟨a51, rfl, H⟩;refine tr_e (f_store (vs := [r49.enc]) Tryz.sizeOf114 rfl rfl rfl rfl (one1 rfl) H) rfl rfl ?_;rintro _ h52 ⟨rfl, H⟩;refine tr_nil (tr_thenN (tr_seq (tr_region (tq (y_fn rfl rfl) (tq (y_assign rfl) (tr_nil (tr_thenN (tr_ret ?_))))))));exact tr_ret1 rfl rfl ⟨_, rfl, H⟩
def F.xcd.l1 (Q : Int -> Bool -> H -> Prop) : Nat -> Sl -> Int -> Value -> Int -> Int -> Int -> H -> Prop
  | 0, _, _, _, _, _, _, _ => False
  | q1 + 1, x0, x1, x2, x8, x9, x10, h =>
    ((decide (x9 < x10)) = true ->
    0 <= (1 : Int) ∧
    idxA x0 (IntKind.wrap .i64 (Int.fdiv (IntKind.wrap .u64 (IntKind.wrap .i64 (x9 + x10))) (2 ^ (min (1 : Int).toNat (IntKind.bits .u64)) : Int))) 6 fun a3 =>
    ld_S_chain_version_api_Agg h a3 fun y5 =>
    CV PP x2 [(.agg y5.cells.toArray), (.int .i64 x1)] h fun u h7 => ∃ (r8 : Int), u = (.int .i64 r8) ∧
    ((decide (r8 < 0)) = true ->
    (F.xcd.l1 Q q1) x0 x1 x2 x8 (IntKind.wrap .i64 ((IntKind.wrap .i64 (Int.fdiv (IntKind.wrap .u64 (IntKind.wrap .i64 (x9 + x10))) (2 ^ (min (1 : Int).toNat (IntKind.bits .u64)) : Int))) + 1)) x10 h7) ∧
    ((decide (r8 < 0)) = false ->
    (F.xcd.l1 Q q1) x0 x1 x2 x8 x9 (IntKind.wrap .i64 (Int.fdiv (IntKind.wrap .u64 (IntKind.wrap .i64 (x9 + x10))) (2 ^ (min (1 : Int).toNat (IntKind.bits .u64)) : Int))) h7)) ∧
    ((decide (x9 < x10)) = false ->
    ((decide (x9 < x8)) = true ->
    idxA x0 x9 6 fun a11 =>
    ld_S_chain_version_api_Agg h a11 fun y13 =>
    CV PP x2 [(.agg y13.cells.toArray), (.int .i64 x1)] h fun u h15 => ∃ (r16 : Int), u = (.int .i64 r16) ∧
    Q x9 ((r16 == 0)) h15) ∧
    ((decide (x9 < x8)) = false ->
    Q x9 false h))
def F.xcd (p0 : Sl) (p1 : Int) (p2 : Value) (h : H) (Q : Int -> Bool -> H -> Prop) : Prop :=
  ∃ m, F.xcd.l1 Q m p0 p1 p2 (p0.len : Int) 0 (p0.len : Int) h
theorem F.xcd_ok {p0 : Sl} {p1 : Int} {p2 : Value} {h : H} {Q : Int -> Bool -> H -> Prop} (H : F.xcd p0 p1 p2 h Q) : Fn PP 124 ([p0.enc, (.int .i64 p1), p2] : List Value).toArray h fun r h' => ∃ r0 r1, r = .tuple #[(.int .i64 r0), (.bool r1)] ∧ Q r0 r1 h' := by
 unfold F.xcd at H;refine fn_of Tryz.func124 Tryz.ntmps124 rfl rfl fun w0 => (tr_sub [(0, p0.enc), (1, (.int .i64 p1)), (2, p2)] ⟨rfl, rfl, rfl, trivial⟩ (tr_seq (tr_region (tq (y_assign rfl) (tq (y_assign rfl) (tr_nil (tr_thenN (tr_seq (tr_region (tq (y_move rfl) (tq (y_len (ts := #[]) Tryz.runUnderlying131 (o := p0.ptr) (n := p0.len) (cap := p0.cap) rfl) (tq (y_assign rfl) (tr_nil ?_)))))))))))));refine tr_thenN (tr_seq (tr_region (tq (y_move rfl) (tq (y_assign rfl) (tq (y_assign rfl) (tr_nil (tr_thenN (tr_seq (tr_block ?_)))))))));obtain ⟨m17, H⟩ := H;refine tr_sub [(0, p0.enc), (1, (.int .i64 p1)), (2, p2), (8, (.int .i64 (p0.len : Int))), (9, (.int .i64 0)), (10, (.int .i64 (p0.len : Int)))] ⟨rfl, rfl, rfl, rfl, rfl, rfl, trivial⟩ ?_;refine tr_loop_j (fun m L' h => ∃ (x0 : Sl) (x1 : Int) (x2 : Value) (x8 : Int) (x9 : Int) (x10 : Int), L' = [(0, x0.enc), (1, (.int .i64 x1)), (2, x2), (8, (.int .i64 x8)), (9, (.int .i64 x9)), (10, (.int .i64 x10))] ∧ F.xcd.l1 Q m x0 x1 x2 x8 x9 x10 h) ?_ ?_ m17 ⟨_, _, _, _, _, _, rfl, H⟩
 ·rintro L' h ⟨_, _, _, _, _, _, _, H⟩; exact H
 ·rintro q1 L' h ⟨x0, x1, x2, x8, x9, x10, rfl, H⟩;unfold F.xcd.l1 at H;refine tr_seq (tr_seq (tr_region (tq (y_move rfl) (tq (y_move rfl) (tq (y_lss rfl rfl) (tr_nil (tr_thenN ?_)))))));refine tr_cond rfl (fun g1 => ?_) (fun g1 => ?_)
  ·replace H := H.1 g1;refine tr_skip (tr_thenN (tr_block (tr_seq (tr_region (tq (y_move rfl) (tq (y_move rfl) (tq (y_add rfl rfl) (tq (y_cvt Tryz.runUnderlying3 Tryz.runUnderlying117 rfl) ?_))))))));obtain ⟨e2, H⟩ := H;refine tq (y_shr rfl rfl e2) (tq (y_cvt Tryz.runUnderlying117 Tryz.runUnderlying3 rfl) (tq (y_assign rfl) (tr_nil (tr_thenN (tr_seq (tr_region (tq (y_move rfl) (tq (y_move rfl) (tq (y_move rfl) ?_)))))))));obtain ⟨a3, e4, H⟩ := H;refine tq (f_idx (s := x0) Tryz.runUnderlying131 Tryz.sizeOf135 rfl rfl e4) ?_;obtain ⟨y5, k6, H⟩ := H;refine tr_h (y_ldS Tryz.isAgg135 Tryz.sizeOf135 rfl rfl) k6 rfl rfl (tq (y_move rfl) (tr_e (e_callD rfl rfl H) rfl rfl ?_));rintro _ h7 ⟨r8, rfl, H⟩;refine tq (y_lss rfl rfl) (tr_nil (tr_thenN ?_));refine tr_cond rfl (fun g9 => ?_) (fun g9 => ?_)
   ·replace H := H.1 g9;refine tr_region (tq (y_move rfl) (tq (y_add rfl rfl) (tq (y_assign rfl) (tr_nil (tr_blockN (tr_thenN ?_))))));exact tr_join [(0, x0.enc), (1, (.int .i64 x1)), (2, x2), (8, (.int .i64 x8)), (9, (.int .i64 (IntKind.wrap .i64 ((IntKind.wrap .i64 (Int.fdiv (IntKind.wrap .u64 (IntKind.wrap .i64 (x9 + x10))) (2 ^ (min (1 : Int).toNat (IntKind.bits .u64)) : Int))) + 1)))), (10, (.int .i64 x10))] ⟨rfl, rfl, rfl, rfl, rfl, rfl, trivial⟩ ⟨_, _, _, _, _, _, rfl, H⟩
   ·replace H := H.2 g9;refine tr_region (tq (y_move rfl) (tq (y_assign rfl) (tr_nil (tr_blockN (tr_thenN ?_)))));exact tr_join [(0, x0.enc), (1, (.int .i64 x1)), (2, x2), (8, (.int .i64 x8)), (9, (.int .i64 x9)), (10, (.int .i64 (IntKind.wrap .i64 (Int.fdiv (IntKind.wrap .u64 (IntKind.wrap .i64 (x9 + x10))) (2 ^ (min (1 : Int).toNat (IntKind.bits .u64)) : Int)))))] ⟨rfl, rfl, rfl, rfl, rfl, rfl, trivial⟩ ⟨_, _, _, _, _, _, rfl, H⟩
  ·replace H := H.2 g1;refine tr_exit (tr_thenE (tr_thenE (tr_hit (tr_thenN (tr_seq (tr_region (tq (y_move rfl) (tq (y_move rfl) (tq (y_move rfl) (tq (y_lss rfl rfl) (tq (y_move rfl) ?_)))))))))));refine tr_split (t := 39) rfl (fun g10 => ?_) (fun g10 => ?_)
   ·replace H := H.1 g10;refine tq (y_move rfl) (tq (y_move rfl) (tq (y_move rfl) ?_));obtain ⟨a11, e12, H⟩ := H;refine tq (f_idx (s := x0) Tryz.runUnderlying131 Tryz.sizeOf135 rfl rfl e12) ?_;obtain ⟨y13, k14, H⟩ := H;refine tr_h (y_ldS Tryz.isAgg135 Tryz.sizeOf135 rfl rfl) k14 rfl rfl (tq (y_move rfl) (tr_e (e_callD rfl rfl H) rfl rfl ?_));rintro _ h15 ⟨r16, rfl, H⟩;refine tq (y_eql rfl rfl) (tq (y_pick_t rfl rfl) (tq (y_assign rfl) (tq (y_assign rfl) (tr_nil (tr_thenN (tr_ret ?_))))));exact tr_ret2 rfl rfl rfl ⟨_, _, rfl, H⟩
   ·replace H := H.2 g10;refine ts (ts (ts (ts (ts (ts (ts (ts (tq (y_pick_f rfl rfl) (tq (y_assign rfl) (tq (y_assign rfl) (tr_nil (tr_thenN (tr_ret ?_)))))))))))));exact tr_ret2 rfl rfl rfl ⟨_, _, rfl, H⟩
def F.xdt (p0 : S_chain_version_api_Agg) (p1 : Int) (h : H) (Q : Int -> H -> Prop) : Prop :=
  new h p0.cells.toArray ty_135 fun a2 h1 =>
  ldI .i64 h1 (a2.add 0) fun y3 =>
  ((decide (y3 <= p1)) = true ->
  Q (-1) h1) ∧
  ((decide (y3 <= p1)) = false ->
  Q 1 h1)
theorem F.xdt_ok {p0 : S_chain_version_api_Agg} {p1 : Int} {h : H} {Q : Int -> H -> Prop} (H : F.xdt p0 p1 h Q) : Fn PP 125 ([(.agg p0.cells.toArray), (.int .i64 p1)] : List Value).toArray h fun r h' => ∃ r0, r = (.int .i64 r0) ∧ Q r0 h' := by
 unfold F.xdt at H;refine fn_of Tryz.func125 Tryz.ntmps125 rfl rfl fun w0 => (tr_sub [(0, (.agg p0.cells.toArray)), (1, (.int .i64 p1))] ⟨rfl, rfl, trivial⟩ (tr_seq (tr_region (tr_e (f_box (cs := p0.cells.toArray) rfl rfl H) rfl rfl ?_))));rintro _ h1 ⟨a2, rfl, H⟩;refine tq (y_assign rfl) (tr_nil (tr_thenN (tr_seq (tr_seq (tr_region (tq (y_fa (off := 0) Tryz.runUnderlying135 fo_135_0 rfl) ?_))))));obtain ⟨y3, k4, H⟩ := H;refine tr_h (y_ld Tryz.isAgg3 rfl) k4 rfl rfl (tq (y_move rfl) (tq (y_leq rfl rfl) (tr_nil (tr_thenN ?_))));refine tr_cond rfl (fun g5 => ?_) (fun g5 => ?_)
 ·replace H := H.1 g5;refine tr_seq (tr_region (tq (y_assign rfl) (tr_nil (tr_thenN (tr_ret (tr_thenR ?_))))));exact tr_ret1 rfl rfl ⟨_, rfl, H⟩
 ·replace H := H.2 g5;refine tr_skip (tr_thenN (tr_seq (tr_region (tq (y_assign rfl) (tr_nil (tr_thenN (tr_ret ?_)))))));exact tr_ret1 rfl rfl ⟨_, rfl, H⟩
def F.xbz (p0 : Option Addr) (p1 : Int) (h : H) (Q : Int -> H -> Prop) : Prop :=
  nn p0 fun a1 =>
  ldL h (a1.add 0) fun y3 =>
  F.xcd y3 p1 (.func (.func 125) #[] #[]) h fun r6 r7 h5 =>
  Q (IntKind.wrap .i64 (r6 - 1)) h5
theorem F.xbz_ok {p0 : Option Addr} {p1 : Int} {h : H} {Q : Int -> H -> Prop} (H : F.xbz p0 p1 h Q) : Fn PP 99 ([(.pointer p0), (.int .i64 p1)] : List Value).toArray h fun r h' => ∃ r0, r = (.int .i64 r0) ∧ Q r0 h' := by
 unfold F.xbz at H;refine fn_of Tryz.func99 Tryz.ntmps99 rfl rfl fun w0 => (tr_sub [(0, (.pointer p0)), (1, (.int .i64 p1))] ⟨rfl, rfl, trivial⟩ (tr_seq (tr_region (tq (y_assign rfl) (tr_nil (tr_thenN (tr_seq (tr_region (tq (y_move rfl) ?_)))))))));obtain ⟨a1, e2, H⟩ := H;refine tq (f_nn rfl e2) (tq (y_fa (off := 0) Tryz.runUnderlying133 fo_133_0 rfl) ?_);obtain ⟨y3, k4, H⟩ := H;refine tr_h (y_ld Tryz.isAgg131 rfl) k4 rfl rfl (tq (y_move rfl) (tr_e (e_call Tryz.call124 rfl (F.xcd_ok H)) rfl rfl ?_));rintro _ h5 ⟨r6, r7, rfl, H⟩;refine tq (y_move rfl) (tq (y_ext rfl rfl) (tq (y_ext rfl rfl) (tq (y_assign rfl) (tq (y_assign rfl) (tr_nil (tr_thenN (tr_seq (tr_region (tq (y_move rfl) (tq (y_sub rfl rfl) (tq (y_assign rfl) (tr_nil (tr_thenN ?_)))))))))))));refine tr_ret ?_;exact tr_ret1 rfl rfl ⟨_, rfl, H⟩
def F.xam.j3 (Q : Int -> H -> Prop) (x0 : Option Addr) (x5 : Int) (x10 : Sl) (h : H) : Prop :=
  nn x0 fun a45 =>
  stH h (a45.add 0) [x10.enc] fun h47 =>
  Q (IntKind.wrap .i64 (x5 - (x10.len : Int))) h47
def F.xam.j4 (Q : Int -> H -> Prop) (x0 : Option Addr) (x5 : Int) (x10 : Sl) (x68 : Bool) (h : H) : Prop :=
  (x68 = true ->
  F.xam.j3 Q x0 x5 (⟨none, 0, 0⟩ : Sl) h) ∧
  (x68 = false ->
  F.xam.j3 Q x0 x5 x10 h)
def F.xam.l2 (Q : Int -> H -> Prop) : Nat -> (Option Addr) -> Int -> Sl -> Sl -> Sl -> Int -> Int -> H -> Prop
  | 0, _, _, _, _, _, _, _, _ => False
  | q2 + 1, x0, x5, x6, x10, x44, x45, x46, h =>
    ((decide (x46 < x45)) = true ->
    idxA x44 x46 6 fun a27 =>
    ld_S_chain_version_api_Agg h a27 fun y29 =>
    new h (((⟨0, (⟨0, 0, 0, 0⟩ : S_api_Agg), false⟩ : S_chain_version_api_Agg) : S_chain_version_api_Agg).cells.toArray) ty_135 fun a32 h31 =>
    stH h31 a32 y29.cells fun h33 =>
    idxA x6 x46 1 fun a34 =>
    ldB h33 a34 fun y36 =>
    (y36 = true ->
    ld_S_chain_version_api_Agg h33 a32 fun y39 =>
    newL h33 ((y39.cells).toArray) ty_135 1 fun s42 h41 =>
    runL PP (Builtin.append_ #[131, 131] 131 #[x10.enc, s42.enc]) h41 fun s44 h43 =>
    (F.xam.l2 Q q2) x0 x5 x6 s44 x44 x45 (IntKind.wrap .i64 (x46 + 1)) h43) ∧
    (y36 = false ->
    (F.xam.l2 Q q2) x0 x5 x6 x10 x44 x45 (IntKind.wrap .i64 (x46 + 1)) h33)) ∧
    ((decide (x46 < x45)) = false ->
    ((((x10.len : Int) == 1)) = true ->
    idxA x10 0 6 fun a50 =>
    ldB h (a50.add 5) fun y52 =>
    F.xam.j4 Q x0 x5 x10 y52 h) ∧
    ((((x10.len : Int) == 1)) = false ->
    F.xam.j4 Q x0 x5 x10 false h))
def F.xam.l1 (Q : Int -> H -> Prop) : Nat -> (Option Addr) -> Int -> Sl -> Sl -> Int -> Int -> H -> Prop
  | 0, _, _, _, _, _, _, _ => False
  | q1 + 1, x0, x5, x6, x26, x27, x28, h =>
    ((decide (x28 < x27)) = true ->
    idxA x26 x28 1 fun a12 =>
    ldI .i64 h a12 fun y14 =>
    F.xbz x0 y14 h fun r17 h16 =>
    ((decide (r17 >= 0)) = true ->
    idxA x6 r17 1 fun a19 =>
    stH h16 a19 [(.bool true)] fun h21 =>
    (F.xam.l1 Q q1) x0 x5 x6 x26 x27 (IntKind.wrap .i64 (x28 + 1)) h21) ∧
    ((decide (r17 >= 0)) = false ->
    (F.xam.l1 Q q1) x0 x5 x6 x26 x27 (IntKind.wrap .i64 (x28 + 1)) h16)) ∧
    ((decide (x28 < x27)) = false ->
    nn x0 fun a22 =>
    ldL h (a22.add 0) fun y24 =>
    ∃ m, F.xam.l2 Q m x0 x5 x6 (⟨none, 0, 0⟩ : Sl) y24 (y24.len : Int) 0 h)
def F.xam (p0 : Option Addr) (p1 : Sl) (h : H) (Q : Int -> H -> Prop) : Prop :=
  nn p0 fun a1 =>
  ldL h (a1.add 0) fun y3 =>
  ((((y3.len : Int) == 0)) = true ->
  Q 0 h) ∧
  ((((y3.len : Int) == 0)) = false ->
  runL PP (Instr.makeSlice 159 (.int .i64 (y3.len : Int)) (.int .i64 (y3.len : Int))) h fun s7 h6 =>
  idxA s7 (IntKind.wrap .i64 ((y3.len : Int) - 1)) 1 fun a8 =>
  stH h6 a8 [(.bool true)] fun h10 =>
  ∃ m, F.xam.l1 Q m p0 (y3.len : Int) s7 p1 (p1.len : Int) 0 h10)
theorem F.xam_ok {p0 : Option Addr} {p1 : Sl} {h : H} {Q : Int -> H -> Prop} (H : F.xam p0 p1 h Q) : Fn PP 68 ([(.pointer p0), p1.enc] : List Value).toArray h fun r h' => ∃ r0, r = (.int .i64 r0) ∧ Q r0 h' := by
 unfold F.xam at H;refine fn_of Tryz.func68 Tryz.ntmps68 rfl rfl fun w0 => (tr_sub [(0, (.pointer p0)), (1, p1.enc)] ⟨rfl, rfl, trivial⟩ (tr_seq (tr_region (tq (y_assign rfl) (tr_nil (tr_thenN (tr_seq (tr_region (tq (y_move rfl) ?_)))))))));obtain ⟨a1, e2, H⟩ := H;refine tq (f_nn rfl e2) (tq (y_fa (off := 0) Tryz.runUnderlying133 fo_133_0 rfl) ?_);obtain ⟨y3, k4, H⟩ := H;refine tr_h (y_ld Tryz.isAgg131 rfl) k4 rfl rfl (tq (y_len (ts := #[]) Tryz.runUnderlying131 (o := y3.ptr) (n := y3.len) (cap := y3.cap) rfl) (tq (y_assign rfl) (tr_nil (tr_thenN (tr_seq (tr_seq (tr_region (tq (y_move rfl) (tq (y_eql rfl rfl) (tr_nil (tr_thenN ?_)))))))))));refine tr_cond rfl (fun g5 => ?_) (fun g5 => ?_)
 ·replace H := H.1 g5;refine tr_seq (tr_region (tq (y_assign rfl) (tr_nil (tr_thenN (tr_ret (tr_thenR ?_))))));exact tr_ret1 rfl rfl ⟨_, rfl, H⟩
 ·replace H := H.2 g5;refine tr_skip (tr_thenN (tr_seq (tr_region (tq (y_move rfl) (tr_e (f_make rfl rfl H) rfl rfl ?_)))));rintro _ h6 ⟨s7, rfl, H⟩;refine tq (y_assign rfl) (tr_nil (tr_thenN (tr_seq (tr_region (tq (y_move rfl) (tq (y_move rfl) (tq (y_sub rfl rfl) ?_)))))));obtain ⟨a8, e9, H⟩ := H;refine tq (f_idx (s := s7) Tryz.runUnderlying159 Tryz.sizeOf4 rfl rfl e9) (tr_e (f_store (vs := [(.bool true)]) Tryz.sizeOf4 rfl rfl rfl rfl (one1 rfl) H) rfl rfl ?_);rintro _ h10 ⟨rfl, H⟩;refine tr_nil (tr_thenN (tr_seq (tr_seq (tr_region (tq (y_move rfl) (tq (y_len (ts := #[]) Tryz.runUnderlying35 (o := p1.ptr) (n := p1.len) (cap := p1.cap) rfl) (tq (y_move rfl) (tr_nil (tr_thenN (tr_block ?_))))))))));obtain ⟨m55, H⟩ := H;refine tr_sub [(0, (.pointer p0)), (5, (.int .i64 (y3.len : Int))), (6, s7.enc), (26, p1.enc), (27, (.int .i64 (p1.len : Int))), (28, (.int .i64 0))] ⟨rfl, rfl, rfl, rfl, rfl, rfl, trivial⟩ ?_;refine tr_loop_j (fun m L' h => ∃ (x0 : Option Addr) (x5 : Int) (x6 : Sl) (x26 : Sl) (x27 : Int) (x28 : Int), L' = [(0, (.pointer x0)), (5, (.int .i64 x5)), (6, x6.enc), (26, x26.enc), (27, (.int .i64 x27)), (28, (.int .i64 x28))] ∧ F.xam.l1 Q m x0 x5 x6 x26 x27 x28 h) ?_ ?_ m55 ⟨_, _, _, _, _, _, rfl, H⟩
  ·rintro L' h ⟨_, _, _, _, _, _, _, H⟩; exact H
  ·rintro q1 L' h ⟨x0, x5, x6, x26, x27, x28, rfl, H⟩;unfold F.xam.l1 at H;refine tr_seq (tr_region (tq (y_lss rfl rfl) (tr_nil (tr_thenN (tr_seq ?_)))));refine tr_cond rfl (fun g11 => ?_) (fun g11 => ?_)
   ·replace H := H.1 g11;refine tr_skip (tr_thenN (tr_seq (tr_block (tr_seq (tr_region ?_)))));obtain ⟨a12, e13, H⟩ := H;refine tq (f_idx (s := x26) Tryz.runUnderlying35 Tryz.sizeOf3 rfl rfl e13) ?_;obtain ⟨y14, k15, H⟩ := H;refine tr_h (y_ld Tryz.isAgg3 rfl) k15 rfl rfl (tq (y_assign rfl) (tr_nil (tr_thenN (tr_seq (tr_region (tq (y_move rfl) (tq (y_move rfl) (tr_e (e_call Tryz.call99 rfl (F.xbz_ok H)) rfl rfl ?_))))))));rintro _ h16 ⟨r17, rfl, H⟩;refine tq (y_assign rfl) (tr_nil (tr_thenN (tr_seq (tr_region (tq (y_move rfl) (tq (y_geq rfl rfl) (tr_nil (tr_thenN ?_))))))));refine tr_cond rfl (fun g18 => ?_) (fun g18 => ?_)
    ·replace H := H.1 g18;refine tr_region (tq (y_move rfl) (tq (y_move rfl) ?_));obtain ⟨a19, e20, H⟩ := H;refine tq (f_idx (s := x6) Tryz.runUnderlying159 Tryz.sizeOf4 rfl rfl e20) (tr_e (f_store (vs := [(.bool true)]) Tryz.sizeOf4 rfl rfl rfl rfl (one1 rfl) H) rfl rfl ?_);rintro _ h21 ⟨rfl, H⟩;refine tr_nil (tr_blockN (tr_thenN (tr_region (tq (y_add rfl rfl) (tq (y_move rfl) (tr_nil (tr_thenN ?_)))))));exact tr_join [(0, (.pointer x0)), (5, (.int .i64 x5)), (6, x6.enc), (26, x26.enc), (27, (.int .i64 x27)), (28, (.int .i64 (IntKind.wrap .i64 (x28 + 1))))] ⟨rfl, rfl, rfl, rfl, rfl, rfl, trivial⟩ ⟨_, _, _, _, _, _, rfl, H⟩
    ·replace H := H.2 g18;refine tr_skip (tr_blockN (tr_thenN (tr_region (tq (y_add rfl rfl) (tq (y_move rfl) (tr_nil (tr_thenN ?_)))))));exact tr_join [(0, (.pointer x0)), (5, (.int .i64 x5)), (6, x6.enc), (26, x26.enc), (27, (.int .i64 x27)), (28, (.int .i64 (IntKind.wrap .i64 (x28 + 1))))] ⟨rfl, rfl, rfl, rfl, rfl, rfl, trivial⟩ ⟨_, _, _, _, _, _, rfl, H⟩
   ·replace H := H.2 g11;refine tr_exit (tr_thenE (tr_thenE (tr_hit (tr_thenN (tr_seq (tr_region (tq (y_assign rfl) (tr_nil (tr_thenN (tr_seq (tr_seq (tr_region (tq (y_move rfl) ?_)))))))))))));obtain ⟨a22, e23, H⟩ := H;refine tq (f_nn rfl e23) (tq (y_fa (off := 0) Tryz.runUnderlying133 fo_133_0 rfl) ?_);obtain ⟨y24, k25, H⟩ := H;refine tr_h (y_ld Tryz.isAgg131 rfl) k25 rfl rfl (tq (y_len (ts := #[]) Tryz.runUnderlying131 (o := y24.ptr) (n := y24.len) (cap := y24.cap) rfl) (tq (y_move rfl) (tr_nil (tr_thenN (tr_block ?_)))));obtain ⟨m54, H⟩ := H;refine tr_sub [(0, (.pointer x0)), (5, (.int .i64 x5)), (6, x6.enc), (10, (⟨none, 0, 0⟩ : Sl).enc), (44, y24.enc), (45, (.int .i64 (y24.len : Int))), (46, (.int .i64 0))] ⟨rfl, rfl, rfl, rfl, rfl, rfl, rfl, trivial⟩ ?_;refine tr_loop_j (fun m L' h => ∃ (x0 : Option Addr) (x5 : Int) (x6 : Sl) (x10 : Sl) (x44 : Sl) (x45 : Int) (x46 : Int), L' = [(0, (.pointer x0)), (5, (.int .i64 x5)), (6, x6.enc), (10, x10.enc), (44, x44.enc), (45, (.int .i64 x45)), (46, (.int .i64 x46))] ∧ F.xam.l2 Q m x0 x5 x6 x10 x44 x45 x46 h) ?_ ?_ m54 ⟨_, _, _, _, _, _, _, rfl, H⟩
    ·rintro L' h ⟨_, _, _, _, _, _, _, _, H⟩; exact H
    ·rintro q2 L' h ⟨x0, x5, x6, x10, x44, x45, x46, rfl, H⟩;unfold F.xam.l2 at H;refine tr_seq (tr_region (tq (y_lss rfl rfl) (tr_nil (tr_thenN (tr_seq ?_)))));refine tr_cond rfl (fun g26 => ?_) (fun g26 => ?_)
     ·replace H := H.1 g26;refine tr_skip (tr_thenN (tr_seq (tr_block (tr_seq (tr_region (tq (y_move rfl) ?_))))));obtain ⟨a27, e28, H⟩ := H;refine tq (f_idx (s := x44) Tryz.runUnderlying131 Tryz.sizeOf135 rfl rfl e28) ?_;obtain ⟨y29, k30, H⟩ := H;refine tr_h (y_ldS Tryz.isAgg135 Tryz.sizeOf135 rfl rfl) k30 rfl rfl (tr_e (f_alloc (cs := ((⟨0, (⟨0, 0, 0, 0⟩ : S_api_Agg), false⟩ : S_chain_version_api_Agg) : S_chain_version_api_Agg).cells.toArray) Tryz.zeroValue135 rfl H) rfl rfl ?_);rintro _ h31 ⟨a32, rfl, H⟩;refine tq (y_assign rfl) (tr_e (f_store (vs := y29.cells) Tryz.sizeOf135 rfl rfl cellsOfStruct rfl (by intro v hv; exact ones_S_chain_version_api_Agg _ v hv) H) rfl rfl ?_);rintro _ h33 ⟨rfl, H⟩;refine tr_nil (tr_thenN (tr_seq (tr_region (tq (y_move rfl) (tq (y_move rfl) ?_)))));obtain ⟨a34, e35, H⟩ := H;refine tq (f_idx (s := x6) Tryz.runUnderlying159 Tryz.sizeOf4 rfl rfl e35) ?_;obtain ⟨y36, k37, H⟩ := H;refine tr_h (y_ld Tryz.isAgg4 rfl) k37 rfl rfl (tr_nil (tr_thenN ?_));refine tr_cond rfl (fun g38 => ?_) (fun g38 => ?_)
      ·replace H := H.1 g38;refine tr_region (tq (y_move rfl) ?_);obtain ⟨y39, k40, H⟩ := H;refine tr_h (y_ldS Tryz.isAgg135 Tryz.sizeOf135 rfl rfl) k40 rfl rfl (tr_e (f_buildL (cs := (y39.cells).toArray) rfl rfl (bl_131_1_0 y39) H) rfl rfl ?_);rintro _ h41 ⟨s42, rfl, H⟩;refine tr_e (f_app rfl H) rfl rfl ?_;rintro _ h43 ⟨s44, rfl, H⟩;refine tq (y_assign rfl) (tr_nil (tr_blockN (tr_thenN (tr_region (tq (y_add rfl rfl) (tq (y_move rfl) (tr_nil (tr_thenN ?_))))))));exact tr_join [(0, (.pointer x0)), (5, (.int .i64 x5)), (6, x6.enc), (10, s44.enc), (44, x44.enc), (45, (.int .i64 x45)), (46, (.int .i64 (IntKind.wrap .i64 (x46 + 1))))] ⟨rfl, rfl, rfl, rfl, rfl, rfl, rfl, trivial⟩ ⟨_, _, _, _, _, _, _, rfl, H⟩
      ·replace H := H.2 g38;refine tr_skip (tr_blockN (tr_thenN (tr_region (tq (y_add rfl rfl) (tq (y_move rfl) (tr_nil (tr_thenN ?_)))))));exact tr_join [(0, (.pointer x0)), (5, (.int .i64 x5)), (6, x6.enc), (10, x10.enc), (44, x44.enc), (45, (.int .i64 x45)), (46, (.int .i64 (IntKind.wrap .i64 (x46 + 1))))] ⟨rfl, rfl, rfl, rfl, rfl, rfl, rfl, trivial⟩ ⟨_, _, _, _, _, _, _, rfl, H⟩
     ·replace H := H.2 g26;refine tr_exit (tr_thenE (tr_thenE (tr_hit (tr_thenN ?_))));refine tr_seq_j (fun L' h => ∃ (x0 : Option Addr) (x5 : Int) (x10 : Sl), L' = [(0, (.pointer x0)), (5, (.int .i64 x5)), (10, x10.enc)] ∧ F.xam.j3 Q x0 x5 x10 h) ?_ ?_
      ·rintro L' h ⟨x0, x5, x10, rfl, H⟩;unfold F.xam.j3 at H;refine tr_seq (tr_region (tq (y_move rfl) (tq (y_move rfl) ?_)));obtain ⟨a45, e46, H⟩ := H;refine tq (f_nn rfl e46) (tq (y_fa (off := 0) Tryz.runUnderlying133 fo_133_0 rfl) (tr_e (f_store (vs := [x10.enc]) Tryz.sizeOf131 rfl rfl rfl rfl (one1 rfl) H) rfl rfl ?_));rintro _ h47 ⟨rfl, H⟩;refine tr_nil (tr_thenN (tr_seq (tr_region (tq (y_move rfl) (tq (y_move rfl) (tq (y_len (ts := #[]) Tryz.runUnderlying131 (o := x10.ptr) (n := x10.len) (cap := x10.cap) rfl) (tq (y_sub rfl rfl) (tq (y_assign rfl) (tr_nil (tr_thenN (tr_ret ?_)))))))))));exact tr_ret1 rfl rfl ⟨_, rfl, H⟩
      ·refine tr_seq_j (fun L' h => ∃ (x0 : Option Addr) (x5 : Int) (x10 : Sl) (x68 : Bool), L' = [(0, (.pointer x0)), (5, (.int .i64 x5)), (10, x10.enc), (68, (.bool x68))] ∧ F.xam.j4 Q x0 x5 x10 x68 h) ?_ ?_
       ·rintro L' h ⟨x0, x5, x10, x68, rfl, H⟩;unfold F.xam.j4 at H;refine tr_cond rfl (fun g48 => ?_) (fun g48 => ?_)
        ·replace H := H.1 g48;refine tr_region (tq (y_assign rfl) (tr_nil (tr_thenN ?_)));exact tr_join [(0, (.pointer x0)), (5, (.int .i64 x5)), (10, (⟨none, 0, 0⟩ : Sl).enc)] ⟨rfl, rfl, rfl, trivial⟩ ⟨_, _, _, rfl, H⟩
        ·replace H := H.2 g48;refine tr_skip (tr_thenN ?_);exact tr_join [(0, (.pointer x0)), (5, (.int .i64 x5)), (10, x10.enc)] ⟨rfl, rfl, rfl, trivial⟩ ⟨_, _, _, rfl, H⟩
       ·refine tr_region (tq (y_move rfl) (tq (y_len (ts := #[]) Tryz.runUnderlying131 (o := x10.ptr) (n := x10.len) (cap := x10.cap) rfl) (tq (y_eql rfl rfl) (tq (y_move rfl) ?_))));refine tr_split (t := 63) rfl (fun g49 => ?_) (fun g49 => ?_)
        ·replace H := H.1 g49;refine tq (y_move rfl) ?_;obtain ⟨a50, e51, H⟩ := H;refine tq (f_idx (s := x10) Tryz.runUnderlying131 Tryz.sizeOf135 rfl rfl e51) (tq (y_fa (off := 5) Tryz.runUnderlying135 fo_135_2 rfl) ?_);obtain ⟨y52, k53, H⟩ := H;refine tr_h (y_ld Tryz.isAgg4 rfl) k53 rfl rfl (tq (y_pick_t rfl rfl) (tr_nil (tr_thenN ?_)));exact tr_join [(0, (.pointer x0)), (5, (.int .i64 x5)), (10, x10.enc), (68, (.bool y52))] ⟨rfl, rfl, rfl, rfl, trivial⟩ ⟨_, _, _, _, rfl, H⟩
        ·replace H := H.2 g49;refine ts (ts (ts (ts (tq (y_pick_f rfl rfl) (tr_nil (tr_thenN ?_))))));exact tr_join [(0, (.pointer x0)), (5, (.int .i64 x5)), (10, x10.enc), (68, (.bool false))] ⟨rfl, rfl, rfl, rfl, trivial⟩ ⟨_, _, _, _, rfl, H⟩
def F.xdb (p0 : Option Addr) (h : H) (Q : Int -> H -> Prop) : Prop :=
  nn p0 fun a1 =>
  ldL h (a1.add 0) fun y3 =>
  Q (y3.len : Int) h
theorem F.xdb_ok {p0 : Option Addr} {h : H} {Q : Int -> H -> Prop} (H : F.xdb p0 h Q) : Fn PP 65 ([(.pointer p0)] : List Value).toArray h fun r h' => ∃ r0, r = (.int .i64 r0) ∧ Q r0 h' := by
 unfold F.xdb at H;refine fn_of Tryz.func65 Tryz.ntmps65 rfl rfl fun w0 => (tr_sub [(0, (.pointer p0))] ⟨rfl, trivial⟩ (tr_seq (tr_region (tq (y_assign rfl) (tr_nil (tr_thenN (tr_seq (tr_region (tq (y_move rfl) ?_)))))))));obtain ⟨a1, e2, H⟩ := H;refine tq (f_nn rfl e2) (tq (y_fa (off := 0) Tryz.runUnderlying133 fo_133_0 rfl) ?_);obtain ⟨y3, k4, H⟩ := H;refine tr_h (y_ld Tryz.isAgg131 rfl) k4 rfl rfl (tq (y_len (ts := #[]) Tryz.runUnderlying131 (o := y3.ptr) (n := y3.len) (cap := y3.cap) rfl) (tq (y_assign rfl) (tr_nil (tr_thenN (tr_ret ?_)))));exact tr_ret1 rfl rfl ⟨_, rfl, H⟩
def F.xdk (p0 : Option Addr) (h : H) (Q : Int -> H -> Prop) : Prop :=
  nn p0 fun a1 =>
  ldL h (a1.add 1) fun y3 =>
  nn p0 fun a5 =>
  ldI .i64 h (a5.add 2) fun y7 =>
  Q (IntKind.wrap .i64 ((y3.len : Int) - y7)) h
theorem F.xdk_ok {p0 : Option Addr} {h : H} {Q : Int -> H -> Prop} (H : F.xdk p0 h Q) : Fn PP 116 ([(.pointer p0)] : List Value).toArray h fun r h' => ∃ r0, r = (.int .i64 r0) ∧ Q r0 h' := by
 unfold F.xdk at H;refine fn_of Tryz.func116 Tryz.ntmps116 rfl rfl fun w0 => (tr_sub [(0, (.pointer p0))] ⟨rfl, trivial⟩ (tr_seq (tr_region (tq (y_assign rfl) (tr_nil (tr_thenN (tr_seq (tr_draw mixed [0, 1, 3, 7, 15, 0, 32, 96, 224, 511, 1023] (by kernel_rfl) (g_p 0 1 rfl (by kernel_rfl) (y_move rfl) rfl rfl ?_)))))))));obtain ⟨a1, e2, H⟩ := H;refine g_p 1 3 rfl (by kernel_rfl) (f_nn rfl e2) rfl rfl (g_p 2 7 rfl (by kernel_rfl) (y_fa (off := 1) Tryz.runUnderlying112 fo_112_1 rfl) rfl rfl ?_);obtain ⟨y3, k4, H⟩ := H;refine g_h 3 15 rfl (by kernel_rfl) (y_ld Tryz.isAgg110 rfl) k4 rfl rfl (g_p 4 31 rfl (by kernel_rfl) (y_len (ts := #[]) Tryz.runUnderlying110 (o := y3.ptr) (n := y3.len) (cap := y3.cap) rfl) rfl rfl (g_p 5 63 rfl (by kernel_rfl) (y_move rfl) rfl rfl ?_));obtain ⟨a5, e6, H⟩ := H;refine g_p 6 127 rfl (by kernel_rfl) (f_nn rfl e6) rfl rfl (g_p 7 255 rfl (by kernel_rfl) (y_fa (off := 2) Tryz.runUnderlying112 fo_112_2 rfl) rfl rfl ?_);obtain ⟨y7, k8, H⟩ := H;refine g_h 8 511 rfl (by kernel_rfl) (y_ld Tryz.isAgg3 rfl) k8 rfl rfl (g_p 9 1023 rfl (by kernel_rfl) (y_sub rfl rfl) rfl rfl (g_p 10 2047 rfl (by kernel_rfl) (y_assign rfl) rfl rfl (g_d (by kernel_rfl) (tr_thenN (tr_ret ?_)))));exact tr_ret1 rfl rfl ⟨_, rfl, H⟩
def F.xae.j3 (Q : Int -> H -> Prop) (C1 : (Option Addr) -> Int -> H -> Prop) (x0 : Option Addr) (x1 : Int) (h : H) : Prop :=
  C1 x0 (IntKind.wrap .i64 (x1 - 1)) h
def F.xae.j4 (Q : Int -> H -> Prop) (C1 : (Option Addr) -> Int -> H -> Prop) (x0 : Option Addr) (x1 : Int) (h : H) : Prop :=
  nn x0 fun a1 =>
  ldI .i64 h (a1.add 2) fun y3 =>
  nn x0 fun a5 =>
  stH h (a5.add 2) [(.int .i64 (IntKind.wrap .i64 (y3 + 1)))] fun h7 =>
  F.xae.j3 Q C1 x0 x1 h7
def F.xae.j2 (Q : Int -> H -> Prop) (C1 : (Option Addr) -> Int -> H -> Prop) (x0 : Option Addr) (x1 : Int) (h : H) : Prop :=
  nn x0 fun a8 =>
  ldL h (a8.add 1) fun y10 =>
  nn x0 fun a12 =>
  ldI .i64 h (a12.add 2) fun y14 =>
  idxA y10 y14 3 fun a16 =>
  ldI .u8 h (a16.add 0) fun y18 =>
  (((y18 == 1)) = true ->
  nn x0 fun a21 =>
  ldL h (a21.add 0) fun y23 =>
  ldS h (a16.add 1) fun y25 =>
  F.xaj y23 y25 h fun r28 r29 h27 =>
  nn x0 fun a30 =>
  ldL h27 (a30.add 0) fun y32 =>
  ld_S_table_place_chain_Chain_api_Agg h27 a16 fun y34 =>
  idxA y32 r28 3 fun a36 =>
  stH h27 a36 y34.cells fun h38 =>
  stH h38 a16 ((⟨2, (⟨#[]⟩ : ByteArray), none⟩ : S_table_place_chain_Chain_api_Agg).cells) fun h39 =>
  F.xae.j4 Q C1 x0 x1 h39) ∧
  (((y18 == 1)) = false ->
  F.xae.j4 Q C1 x0 x1 h)
def F.xae.j6 (Q : Int -> H -> Prop) (x0 : Option Addr) (h : H) : Prop :=
  F.xdk x0 h fun r42 h41 =>
  Q r42 h41
def F.xae.j5 (Q : Int -> H -> Prop) (C1 : (Option Addr) -> Int -> H -> Prop) (x0 : Option Addr) (x1 : Int) (x21 : Bool) (h : H) : Prop :=
  (x21 = true ->
  F.xae.j2 Q C1 x0 x1 h) ∧
  (x21 = false ->
  nn x0 fun a43 =>
  ldI .i64 h (a43.add 2) fun y45 =>
  nn x0 fun a47 =>
  ldL h (a47.add 1) fun y49 =>
  (((y45 == (y49.len : Int))) = true ->
  nn x0 fun a52 =>
  stH h (a52.add 1) [(⟨none, 0, 0⟩ : Sl).enc] fun h54 =>
  nn x0 fun a55 =>
  stH h54 (a55.add 2) [(.int .i64 0)] fun h57 =>
  F.xae.j6 Q x0 h57) ∧
  (((y45 == (y49.len : Int))) = false ->
  F.xae.j6 Q x0 h))
def F.xae.l1 (Q : Int -> H -> Prop) : Nat -> (Option Addr) -> Int -> H -> Prop
  | 0, _, _, _ => False
  | q1 + 1, x0, x1, h =>
    ((decide (x1 > 0)) = true ->
    nn x0 fun a59 =>
    ldI .i64 h (a59.add 2) fun y61 =>
    nn x0 fun a63 =>
    ldL h (a63.add 1) fun y65 =>
    F.xae.j5 Q (F.xae.l1 Q q1) x0 x1 (decide (y61 < (y65.len : Int))) h) ∧
    ((decide (x1 > 0)) = false ->
    F.xae.j5 Q (F.xae.l1 Q q1) x0 x1 false h)
def F.xae (p0 : Option Addr) (p1 : Int) (h : H) (Q : Int -> H -> Prop) : Prop :=
  ∃ m, F.xae.l1 Q m p0 p1 h
theorem F.xae_ok {p0 : Option Addr} {p1 : Int} {h : H} {Q : Int -> H -> Prop} (H : F.xae p0 p1 h Q) : Fn PP 81 ([(.pointer p0), (.int .i64 p1)] : List Value).toArray h fun r h' => ∃ r0, r = (.int .i64 r0) ∧ Q r0 h' := by
 unfold F.xae at H;refine fn_of Tryz.func81 Tryz.ntmps81 rfl rfl fun w0 => (tr_sub [(0, (.pointer p0)), (1, (.int .i64 p1))] ⟨rfl, rfl, trivial⟩ (tr_seq (tr_region (tq (y_assign rfl) (tr_nil (tr_thenN (tr_seq (tr_block ?_))))))));obtain ⟨m67, H⟩ := H;refine tr_sub [(0, (.pointer p0)), (1, (.int .i64 p1))] ⟨rfl, rfl, trivial⟩ ?_;refine tr_loop_j (fun m L' h => ∃ (x0 : Option Addr) (x1 : Int), L' = [(0, (.pointer x0)), (1, (.int .i64 x1))] ∧ F.xae.l1 Q m x0 x1 h) ?_ ?_ m67 ⟨_, _, rfl, H⟩
 ·rintro L' h ⟨_, _, _, H⟩; exact H
 ·rintro q1 L' h ⟨x0, x1, rfl, H⟩;unfold F.xae.l1 at H;refine tr_seq_j (fun L' h => ∃ (x0 : Option Addr) (x1 : Int), L' = [(0, (.pointer x0)), (1, (.int .i64 x1))] ∧ F.xae.j2 Q (F.xae.l1 Q q1) x0 x1 h) ?_ ?_
  ·rintro L' h ⟨x0, x1, rfl, H⟩;unfold F.xae.j2 at H;refine tr_seq_j (fun L' h => ∃ (x0 : Option Addr) (x1 : Int), L' = [(0, (.pointer x0)), (1, (.int .i64 x1))] ∧ F.xae.j3 Q (F.xae.l1 Q q1) x0 x1 h) ?_ ?_
   ·rintro L' h ⟨x0, x1, rfl, H⟩;unfold F.xae.j3 at H;refine tr_region (tq (y_move rfl) (tq (y_sub rfl rfl) (tq (y_assign rfl) (tr_nil (tr_thenN ?_)))));exact tr_join [(0, (.pointer x0)), (1, (.int .i64 (IntKind.wrap .i64 (x1 - 1))))] ⟨rfl, rfl, trivial⟩ ⟨_, _, rfl, H⟩
   ·refine tr_block ?_;refine tr_seq_j (fun L' h => ∃ (x0 : Option Addr) (x1 : Int), L' = [(0, (.pointer x0)), (1, (.int .i64 x1))] ∧ F.xae.j4 Q (F.xae.l1 Q q1) x0 x1 h) ?_ ?_
    ·rintro L' h ⟨x0, x1, rfl, H⟩;unfold F.xae.j4 at H;refine tr_region (tq (y_move rfl) ?_);obtain ⟨a1, e2, H⟩ := H;refine tq (f_nn rfl e2) (tq (y_fa (off := 2) Tryz.runUnderlying112 fo_112_2 rfl) ?_);obtain ⟨y3, k4, H⟩ := H;refine tr_h (y_ld Tryz.isAgg3 rfl) k4 rfl rfl (tq (y_add rfl rfl) ?_);obtain ⟨a5, e6, H⟩ := H;refine tq (f_nn rfl e6) (tq (y_fa (off := 2) Tryz.runUnderlying112 fo_112_2 rfl) (tr_e (f_store (vs := [(.int .i64 (IntKind.wrap .i64 (y3 + 1)))]) Tryz.sizeOf3 rfl rfl rfl rfl (one1 rfl) H) rfl rfl ?_));rintro _ h7 ⟨rfl, H⟩;refine tr_nil (tr_blockN (tr_thenN ?_));exact tr_join [(0, (.pointer x0)), (1, (.int .i64 x1))] ⟨rfl, rfl, trivial⟩ ⟨_, _, rfl, H⟩
    ·refine tr_seq (tr_draw mixed [0, 1, 3, 7, 0, 16, 48, 112, 255, 511] (by kernel_rfl) (g_p 0 1 rfl (by kernel_rfl) (y_move rfl) rfl rfl ?_));obtain ⟨a8, e9, H⟩ := H;refine g_p 1 3 rfl (by kernel_rfl) (f_nn rfl e9) rfl rfl (g_p 2 7 rfl (by kernel_rfl) (y_fa (off := 1) Tryz.runUnderlying112 fo_112_1 rfl) rfl rfl ?_);obtain ⟨y10, k11, H⟩ := H;refine g_h 3 15 rfl (by kernel_rfl) (y_ld Tryz.isAgg110 rfl) k11 rfl rfl (g_p 4 31 rfl (by kernel_rfl) (y_move rfl) rfl rfl ?_);obtain ⟨a12, e13, H⟩ := H;refine g_p 5 63 rfl (by kernel_rfl) (f_nn rfl e13) rfl rfl (g_p 6 127 rfl (by kernel_rfl) (y_fa (off := 2) Tryz.runUnderlying112 fo_112_2 rfl) rfl rfl ?_);obtain ⟨y14, k15, H⟩ := H;refine g_h 7 255 rfl (by kernel_rfl) (y_ld Tryz.isAgg3 rfl) k15 rfl rfl ?_;obtain ⟨a16, e17, H⟩ := H;refine g_p 8 511 rfl (by kernel_rfl) (f_idx (s := y10) Tryz.runUnderlying110 Tryz.sizeOf130 rfl rfl e17) rfl rfl (g_p 9 1023 rfl (by kernel_rfl) (y_assign rfl) rfl rfl (g_d (by kernel_rfl) (tr_thenN (tr_seq (tr_region (tq (y_move rfl) (tq (y_nil rfl) (tq (y_fa (off := 0) Tryz.runUnderlying130 fo_130_0 rfl) ?_))))))));obtain ⟨y18, k19, H⟩ := H;refine tr_h (y_ld Tryz.isAgg5 rfl) k19 rfl rfl (tq (y_eql rfl rfl) (tr_nil (tr_thenN ?_)));refine tr_cond rfl (fun g20 => ?_) (fun g20 => ?_)
     ·replace H := H.1 g20;refine tr_seq (tr_draw mixed [0, 1, 3, 7, 0, 16, 48, 112, 255, 511, 1023, 1023, 2047, 8191] (by kernel_rfl) (g_p 0 1 rfl (by kernel_rfl) (y_move rfl) rfl rfl ?_));obtain ⟨a21, e22, H⟩ := H;refine g_p 1 3 rfl (by kernel_rfl) (f_nn rfl e22) rfl rfl (g_p 2 7 rfl (by kernel_rfl) (y_fa (off := 0) Tryz.runUnderlying112 fo_112_0 rfl) rfl rfl ?_);obtain ⟨y23, k24, H⟩ := H;refine g_h 3 15 rfl (by kernel_rfl) (y_ld Tryz.isAgg110 rfl) k24 rfl rfl (g_p 4 31 rfl (by kernel_rfl) (y_move rfl) rfl rfl (g_p 5 63 rfl (by kernel_rfl) (y_nil rfl) rfl rfl (g_p 6 127 rfl (by kernel_rfl) (y_fa (off := 1) Tryz.runUnderlying130 fo_130_1 rfl) rfl rfl ?_)));obtain ⟨y25, k26, H⟩ := H;refine g_h 7 255 rfl (by kernel_rfl) (y_ld Tryz.isAgg9 rfl) k26 rfl rfl (g_e 8 511 [] (by kernel_rfl) rfl (by kernel_rfl) (e_call Tryz.call82 rfl (F.xaj_ok H)) rfl rfl ?_);rintro _ h27 ⟨r28, r29, rfl, H⟩;refine ⟨trivial, ?_⟩;refine g_p 9 1023 rfl (by kernel_rfl) (y_move rfl) rfl rfl (g_p 10 2047 rfl (by kernel_rfl) (y_ext rfl rfl) rfl rfl (g_p 11 4095 rfl (by kernel_rfl) (y_ext rfl rfl) rfl rfl (g_p 12 8191 rfl (by kernel_rfl) (y_assign rfl) rfl rfl (g_p 13 16383 rfl (by kernel_rfl) (y_assign rfl) rfl rfl (g_d (by kernel_rfl) (tr_thenN (tr_seq (tr_draw mixed [0, 1, 3, 7, 0, 0, 32, 96, 255, 511] (by kernel_rfl) (g_p 0 1 rfl (by kernel_rfl) (y_move rfl) rfl rfl ?_)))))))));obtain ⟨a30, e31, H⟩ := H;refine g_p 1 3 rfl (by kernel_rfl) (f_nn rfl e31) rfl rfl (g_p 2 7 rfl (by kernel_rfl) (y_fa (off := 0) Tryz.runUnderlying112 fo_112_0 rfl) rfl rfl ?_);obtain ⟨y32, k33, H⟩ := H;refine g_h 3 15 rfl (by kernel_rfl) (y_ld Tryz.isAgg110 rfl) k33 rfl rfl (g_p 4 31 rfl (by kernel_rfl) (y_move rfl) rfl rfl (g_p 5 63 rfl (by kernel_rfl) (y_move rfl) rfl rfl (g_p 6 127 rfl (by kernel_rfl) (y_nil rfl) rfl rfl ?_)));obtain ⟨y34, k35, H⟩ := H;refine g_h 7 255 rfl (by kernel_rfl) (y_ldS Tryz.isAgg130 Tryz.sizeOf130 rfl rfl) k35 rfl rfl ?_;obtain ⟨a36, e37, H⟩ := H;refine g_p 8 511 rfl (by kernel_rfl) (f_idx (s := y32) Tryz.runUnderlying110 Tryz.sizeOf130 rfl rfl e37) rfl rfl (g_e 9 1023 [] (by kernel_rfl) rfl (by kernel_rfl) (f_store (vs := y34.cells) Tryz.sizeOf130 rfl rfl cellsOfStruct rfl (by intro v hv; exact ones_S_table_place_chain_Chain_api_Agg _ v hv) H) rfl rfl ?_);rintro _ h38 ⟨rfl, H⟩;refine ⟨trivial, ?_⟩;refine g_d (by kernel_rfl) (tr_thenN (tr_region (tq (y_move rfl) (tq (f_build rfl (bd_130_0 2)) (tq (y_nil rfl) (tr_e (f_store (vs := (⟨2, (⟨#[]⟩ : ByteArray), none⟩ : S_table_place_chain_Chain_api_Agg).cells) Tryz.sizeOf130 rfl rfl cellsOfStruct rfl (by intro v hv; exact ones_S_table_place_chain_Chain_api_Agg _ v hv) H) rfl rfl ?_))))));rintro _ h39 ⟨rfl, H⟩;refine tr_nil (tr_thenN ?_);exact tr_join [(0, (.pointer x0)), (1, (.int .i64 x1))] ⟨rfl, rfl, trivial⟩ ⟨_, _, rfl, H⟩
     ·replace H := H.2 g20;refine tr_skip (tr_thenN ?_);exact tr_join [(0, (.pointer x0)), (1, (.int .i64 x1))] ⟨rfl, rfl, trivial⟩ ⟨_, _, rfl, H⟩
  ·refine tr_seq_j (fun L' h => ∃ (x0 : Option Addr) (x1 : Int) (x21 : Bool), L' = [(0, (.pointer x0)), (1, (.int .i64 x1)), (21, (.bool x21))] ∧ F.xae.j5 Q (F.xae.l1 Q q1) x0 x1 x21 h) ?_ ?_
   ·rintro L' h ⟨x0, x1, x21, rfl, H⟩;unfold F.xae.j5 at H;refine tr_cond rfl (fun g40 => ?_) (fun g40 => ?_)
    ·replace H := H.1 g40;refine tr_skip (tr_thenN ?_);exact tr_join [(0, (.pointer x0)), (1, (.int .i64 x1))] ⟨rfl, rfl, trivial⟩ ⟨_, _, rfl, H⟩
    ·replace H := H.2 g40;refine tr_exit (tr_thenE (tr_thenE (tr_hit (tr_thenN ?_))));refine tr_seq_j (fun L' h => ∃ (x0 : Option Addr), L' = [(0, (.pointer x0))] ∧ F.xae.j6 Q x0 h) ?_ ?_
     ·rintro L' h ⟨x0, rfl, H⟩;unfold F.xae.j6 at H;refine tr_seq (tr_region (tq (y_move rfl) (tr_e (e_call Tryz.call116 rfl (F.xdk_ok H)) rfl rfl ?_)));rintro _ h41 ⟨r42, rfl, H⟩;refine tq (y_assign rfl) (tr_nil (tr_thenN (tr_ret ?_)));exact tr_ret1 rfl rfl ⟨_, rfl, H⟩
     ·refine tr_seq (tr_draw mixed [0, 1, 3, 7, 0, 16, 48, 112, 240, 511] (by kernel_rfl) (g_p 0 1 rfl (by kernel_rfl) (y_move rfl) rfl rfl ?_));obtain ⟨a43, e44, H⟩ := H;refine g_p 1 3 rfl (by kernel_rfl) (f_nn rfl e44) rfl rfl (g_p 2 7 rfl (by kernel_rfl) (y_fa (off := 2) Tryz.runUnderlying112 fo_112_2 rfl) rfl rfl ?_);obtain ⟨y45, k46, H⟩ := H;refine g_h 3 15 rfl (by kernel_rfl) (y_ld Tryz.isAgg3 rfl) k46 rfl rfl (g_p 4 31 rfl (by kernel_rfl) (y_move rfl) rfl rfl ?_);obtain ⟨a47, e48, H⟩ := H;refine g_p 5 63 rfl (by kernel_rfl) (f_nn rfl e48) rfl rfl (g_p 6 127 rfl (by kernel_rfl) (y_fa (off := 1) Tryz.runUnderlying112 fo_112_1 rfl) rfl rfl ?_);obtain ⟨y49, k50, H⟩ := H;refine g_h 7 255 rfl (by kernel_rfl) (y_ld Tryz.isAgg110 rfl) k50 rfl rfl (g_p 8 511 rfl (by kernel_rfl) (y_len (ts := #[]) Tryz.runUnderlying110 (o := y49.ptr) (n := y49.len) (cap := y49.cap) rfl) rfl rfl (g_p 9 1023 rfl (by kernel_rfl) (y_eql rfl rfl) rfl rfl (g_d (by kernel_rfl) (tr_thenN ?_))));refine tr_cond rfl (fun g51 => ?_) (fun g51 => ?_)
      ·replace H := H.1 g51;refine tr_region (tq (y_move rfl) (tq (y_move rfl) ?_));obtain ⟨a52, e53, H⟩ := H;refine tq (f_nn rfl e53) (tq (y_fa (off := 1) Tryz.runUnderlying112 fo_112_1 rfl) (tr_e (f_store (vs := [(⟨none, 0, 0⟩ : Sl).enc]) Tryz.sizeOf110 rfl rfl rfl rfl (one1 rfl) H) rfl rfl ?_));rintro _ h54 ⟨rfl, H⟩;obtain ⟨a55, e56, H⟩ := H;refine tq (f_nn rfl e56) (tq (y_fa (off := 2) Tryz.runUnderlying112 fo_112_2 rfl) (tr_e (f_store (vs := [(.int .i64 0)]) Tryz.sizeOf3 rfl rfl rfl rfl (one1 rfl) H) rfl rfl ?_));rintro _ h57 ⟨rfl, H⟩;refine tr_nil (tr_thenN ?_);exact tr_join [(0, (.pointer x0))] ⟨rfl, trivial⟩ ⟨_, rfl, H⟩
      ·replace H := H.2 g51;refine tr_skip (tr_thenN ?_);exact tr_join [(0, (.pointer x0))] ⟨rfl, trivial⟩ ⟨_, rfl, H⟩
   ·refine tr_draw mixed [0, 1, 3, 7, 15, 31, 63, 7, 135, 391, 903, 1927, 4095, 8191] (by kernel_rfl) (g_p 0 1 rfl (by kernel_rfl) (y_move rfl) rfl rfl (g_p 1 3 rfl (by kernel_rfl) (y_gtr rfl rfl) rfl rfl (g_p 2 7 rfl (by kernel_rfl) (y_move rfl) rfl rfl ?_)));refine g_split (t := 10) rfl (fun g58 => ?_) (fun g58 => ?_)
    ·replace H := H.1 g58;refine g_p 3 15 rfl (by kernel_rfl) (y_move rfl) rfl rfl ?_;obtain ⟨a59, e60, H⟩ := H;refine g_p 4 31 rfl (by kernel_rfl) (f_nn rfl e60) rfl rfl (g_p 5 63 rfl (by kernel_rfl) (y_fa (off := 2) Tryz.runUnderlying112 fo_112_2 rfl) rfl rfl ?_);obtain ⟨y61, k62, H⟩ := H;refine g_h 6 127 rfl (by kernel_rfl) (y_ld Tryz.isAgg3 rfl) k62 rfl rfl (g_p 7 255 rfl (by kernel_rfl) (y_move rfl) rfl rfl ?_);obtain ⟨a63, e64, H⟩ := H;refine g_p 8 511 rfl (by kernel_rfl) (f_nn rfl e64) rfl rfl (g_p 9 1023 rfl (by kernel_rfl) (y_fa (off := 1) Tryz.runUnderlying112 fo_112_1 rfl) rfl rfl ?_);obtain ⟨y65, k66, H⟩ := H;refine g_h 10 2047 rfl (by kernel_rfl) (y_ld Tryz.isAgg110 rfl) k66 rfl rfl (g_p 11 4095 rfl (by kernel_rfl) (y_len (ts := #[]) Tryz.runUnderlying110 (o := y65.ptr) (n := y65.len) (cap := y65.cap) rfl) rfl rfl (g_p 12 8191 rfl (by kernel_rfl) (y_lss rfl rfl) rfl rfl (g_p 13 16383 rfl (by kernel_rfl) (y_pick_t rfl rfl) rfl rfl (g_d (by kernel_rfl) (tr_thenN ?_)))));exact tr_join [(0, (.pointer x0)), (1, (.int .i64 x1)), (21, (.bool (decide (y61 < (y65.len : Int)))))] ⟨rfl, rfl, rfl, trivial⟩ ⟨_, _, _, rfl, H⟩
    ·replace H := H.2 g58;refine g_s 3 15 rfl (by kernel_rfl) rfl rfl (g_s 4 31 rfl (by kernel_rfl) rfl rfl (g_s 5 63 rfl (by kernel_rfl) rfl rfl (g_s 6 127 rfl (by kernel_rfl) rfl rfl (g_s 7 255 rfl (by kernel_rfl) rfl rfl (g_s 8 511 rfl (by kernel_rfl) rfl rfl (g_s 9 1023 rfl (by kernel_rfl) rfl rfl (g_s 10 2047 rfl (by kernel_rfl) rfl rfl (g_s 11 4095 rfl (by kernel_rfl) rfl rfl (g_s 12 8191 rfl (by kernel_rfl) rfl rfl (g_p 13 16383 rfl (by kernel_rfl) (y_pick_f rfl rfl) rfl rfl (g_d (by kernel_rfl) (tr_thenN ?_))))))))))));exact tr_join [(0, (.pointer x0)), (1, (.int .i64 x1)), (21, (.bool false))] ⟨rfl, rfl, rfl, trivial⟩ ⟨_, _, _, rfl, H⟩
def F.xaz.j2 (Q : (Option Addr) -> Bool -> H -> Prop) (C1 : (Option Addr) -> (Option Addr) -> Int -> Int -> Int -> H -> Prop) (x0 : Option Addr) (x4 : Option Addr) (x8 : Int) (x10 : Int) (x11 : Int) (h : H) : Prop :=
  (x10 : Int) ≠ 0 ∧
  C1 x0 x4 x8 x10 (Int.tmod (IntKind.wrap .i64 (x11 + 1)) x10) h
def F.xaz.l1 (Q : (Option Addr) -> Bool -> H -> Prop) : Nat -> (Option Addr) -> (Option Addr) -> Int -> Int -> Int -> H -> Prop
  | 0, _, _, _, _, _, _ => False
  | q1 + 1, x0, x4, x8, x10, x11, h =>
    nn x0 fun a61 =>
    ldL h (a61.add 0) fun y63 =>
    idxA y63 x11 3 fun a65 =>
    ldI .u8 h (a65.add 0) fun y67 =>
    (((y67 != 0)) = true ->
    nn x0 fun a71 =>
    ldL h (a71.add 0) fun y73 =>
    nn x0 fun a75 =>
    ldL h (a75.add 0) fun y77 =>
    idxA y77 x11 3 fun a79 =>
    ldS h (a79.add 1) fun y81 =>
    F.xct y73 y81 h fun r84 h83 =>
    (x10 : Int) ≠ 0 ∧
    (x10 : Int) ≠ 0 ∧
    ((decide ((Int.tmod (IntKind.wrap .i64 ((IntKind.wrap .i64 (x11 - r84)) + x10)) x10) >= (Int.tmod (IntKind.wrap .i64 ((IntKind.wrap .i64 (x11 - x8)) + x10)) x10))) = true ->
    nn x0 fun a88 =>
    ldL h83 (a88.add 0) fun y90 =>
    nn x0 fun a92 =>
    ldL h83 (a92.add 0) fun y94 =>
    idxA y94 x11 3 fun a96 =>
    ld_S_table_place_chain_Chain_api_Agg h83 a96 fun y98 =>
    idxA y90 x8 3 fun a100 =>
    stH h83 a100 y98.cells fun h102 =>
    F.xaz.j2 Q (F.xaz.l1 Q q1) x0 x4 x11 x10 x11 h102) ∧
    ((decide ((Int.tmod (IntKind.wrap .i64 ((IntKind.wrap .i64 (x11 - r84)) + x10)) x10) >= (Int.tmod (IntKind.wrap .i64 ((IntKind.wrap .i64 (x11 - x8)) + x10)) x10))) = false ->
    F.xaz.j2 Q (F.xaz.l1 Q q1) x0 x4 x8 x10 x11 h83)) ∧
    (((y67 != 0)) = false ->
    nn x0 fun a103 =>
    ldL h (a103.add 0) fun y105 =>
    idxA y105 x8 3 fun a107 =>
    stH h a107 ((⟨0, (⟨#[]⟩ : ByteArray), none⟩ : S_table_place_chain_Chain_api_Agg).cells) fun h109 =>
    Q x4 true h109)
def F.xaz (p0 : Option Addr) (p1 : ByteArray) (h : H) (Q : (Option Addr) -> Bool -> H -> Prop) : Prop :=
  F.xae p0 4 h fun r2 h1 =>
  nn p0 fun a3 =>
  ldL h1 (a3.add 1) fun y5 =>
  F.xaj y5 p1 h1 fun r8 r9 h7 =>
  (r9 = true ->
  nn p0 fun a11 =>
  ldL h7 (a11.add 1) fun y13 =>
  idxA y13 r8 3 fun a15 =>
  ldP h7 (a15.add 2) fun y17 =>
  nn p0 fun a19 =>
  ldL h7 (a19.add 1) fun y21 =>
  idxA y21 r8 3 fun a23 =>
  stH h7 a23 ((⟨2, (⟨#[]⟩ : ByteArray), none⟩ : S_table_place_chain_Chain_api_Agg).cells) fun h25 =>
  nn p0 fun a26 =>
  ldI .i64 h25 (a26.add 3) fun y28 =>
  nn p0 fun a30 =>
  stH h25 (a30.add 3) [(.int .i64 (IntKind.wrap .i64 (y28 - 1)))] fun h32 =>
  Q y17 true h32) ∧
  (r9 = false ->
  nn p0 fun a33 =>
  ldL h7 (a33.add 0) fun y35 =>
  F.xaj y35 p1 h7 fun r38 r39 h37 =>
  ((!r39) = true ->
  Q none false h37) ∧
  ((!r39) = false ->
  nn p0 fun a41 =>
  ldL h37 (a41.add 0) fun y43 =>
  idxA y43 r38 3 fun a45 =>
  ldP h37 (a45.add 2) fun y47 =>
  nn p0 fun a49 =>
  ldI .i64 h37 (a49.add 3) fun y51 =>
  nn p0 fun a53 =>
  stH h37 (a53.add 3) [(.int .i64 (IntKind.wrap .i64 (y51 - 1)))] fun h55 =>
  nn p0 fun a56 =>
  ldL h55 (a56.add 0) fun y58 =>
  ((y58.len : Int) : Int) ≠ 0 ∧
  ∃ m, F.xaz.l1 Q m p0 y47 r38 (y58.len : Int) (Int.tmod (IntKind.wrap .i64 (r38 + 1)) (y58.len : Int)) h55))
theorem F.xaz_ok {p0 : Option Addr} {p1 : ByteArray} {h : H} {Q : (Option Addr) -> Bool -> H -> Prop} (H : F.xaz p0 p1 h Q) : Fn PP 69 ([(.pointer p0), (.string p1)] : List Value).toArray h fun r h' => ∃ r0 r1, r = .tuple #[(.pointer r0), (.bool r1)] ∧ Q r0 r1 h' := by
 unfold F.xaz at H;refine fn_of Tryz.func69 Tryz.ntmps69 rfl rfl fun w0 => (tr_sub [(0, (.pointer p0)), (1, (.string p1))] ⟨rfl, rfl, trivial⟩ (tr_seq (tr_region (tq (y_assign rfl) (tq (y_assign rfl) (tr_nil (tr_thenN (tr_seq (tr_region (tq (y_move rfl) (tr_e (e_call Tryz.call81 rfl (F.xae_ok H)) rfl rfl ?_)))))))))));rintro _ h1 ⟨r2, rfl, H⟩;refine tr_nil (tr_thenN (tr_seq (tr_seq (tr_region (tq (y_move rfl) ?_)))));obtain ⟨a3, e4, H⟩ := H;refine tq (f_nn rfl e4) (tq (y_fa (off := 1) Tryz.runUnderlying112 fo_112_1 rfl) ?_);obtain ⟨y5, k6, H⟩ := H;refine tr_h (y_ld Tryz.isAgg110 rfl) k6 rfl rfl (tq (y_move rfl) (tr_e (e_call Tryz.call82 rfl (F.xaj_ok H)) rfl rfl ?_));rintro _ h7 ⟨r8, r9, rfl, H⟩;refine tq (y_move rfl) (tq (y_ext rfl rfl) (tq (y_ext rfl rfl) (tq (y_assign rfl) (tq (y_assign rfl) (tr_nil (tr_thenN (tr_seq (tr_region (tq (y_move rfl) (tr_nil (tr_thenN ?_)))))))))));refine tr_cond rfl (fun g10 => ?_) (fun g10 => ?_)
 ·replace H := H.1 g10;refine tr_seq (tr_region (tq (y_move rfl) ?_));obtain ⟨a11, e12, H⟩ := H;refine tq (f_nn rfl e12) (tq (y_fa (off := 1) Tryz.runUnderlying112 fo_112_1 rfl) ?_);obtain ⟨y13, k14, H⟩ := H;refine tr_h (y_ld Tryz.isAgg110 rfl) k14 rfl rfl (tq (y_move rfl) ?_);obtain ⟨a15, e16, H⟩ := H;refine tq (f_idx (s := y13) Tryz.runUnderlying110 Tryz.sizeOf130 rfl rfl e16) (tq (y_fa (off := 2) Tryz.runUnderlying130 fo_130_2 rfl) ?_);obtain ⟨y17, k18, H⟩ := H;refine tr_h (y_ld Tryz.isAgg70 rfl) k18 rfl rfl (tq (y_assign rfl) (tr_nil (tr_thenN (tr_seq (tr_region (tq (y_move rfl) ?_))))));obtain ⟨a19, e20, H⟩ := H;refine tq (f_nn rfl e20) (tq (y_fa (off := 1) Tryz.runUnderlying112 fo_112_1 rfl) ?_);obtain ⟨y21, k22, H⟩ := H;refine tr_h (y_ld Tryz.isAgg110 rfl) k22 rfl rfl (tq (y_move rfl) (tq (f_build rfl (bd_130_0 2)) ?_));obtain ⟨a23, e24, H⟩ := H;refine tq (f_idx (s := y21) Tryz.runUnderlying110 Tryz.sizeOf130 rfl rfl e24) (tr_e (f_store (vs := (⟨2, (⟨#[]⟩ : ByteArray), none⟩ : S_table_place_chain_Chain_api_Agg).cells) Tryz.sizeOf130 rfl rfl cellsOfStruct rfl (by intro v hv; exact ones_S_table_place_chain_Chain_api_Agg _ v hv) H) rfl rfl ?_);rintro _ h25 ⟨rfl, H⟩;refine tr_nil (tr_thenN (tr_seq (tr_region (tq (y_move rfl) ?_))));obtain ⟨a26, e27, H⟩ := H;refine tq (f_nn rfl e27) (tq (y_fa (off := 3) Tryz.runUnderlying112 fo_112_3 rfl) ?_);obtain ⟨y28, k29, H⟩ := H;refine tr_h (y_ld Tryz.isAgg3 rfl) k29 rfl rfl (tq (y_sub rfl rfl) ?_);obtain ⟨a30, e31, H⟩ := H;refine tq (f_nn rfl e31) (tq (y_fa (off := 3) Tryz.runUnderlying112 fo_112_3 rfl) (tr_e (f_store (vs := [(.int .i64 (IntKind.wrap .i64 (y28 - 1)))]) Tryz.sizeOf3 rfl rfl rfl rfl (one1 rfl) H) rfl rfl ?_));rintro _ h32 ⟨rfl, H⟩;refine tr_nil (tr_thenN (tr_seq (tr_region (tq (y_move rfl) (tq (y_assign rfl) (tq (y_assign rfl) (tr_nil (tr_thenN (tr_ret (tr_thenR ?_))))))))));exact tr_ret2 rfl rfl rfl ⟨_, _, rfl, H⟩
 ·replace H := H.2 g10;refine tr_skip (tr_thenN (tr_seq (tr_region (tq (y_move rfl) ?_))));obtain ⟨a33, e34, H⟩ := H;refine tq (f_nn rfl e34) (tq (y_fa (off := 0) Tryz.runUnderlying112 fo_112_0 rfl) ?_);obtain ⟨y35, k36, H⟩ := H;refine tr_h (y_ld Tryz.isAgg110 rfl) k36 rfl rfl (tq (y_move rfl) (tr_e (e_call Tryz.call82 rfl (F.xaj_ok H)) rfl rfl ?_));rintro _ h37 ⟨r38, r39, rfl, H⟩;refine tq (y_move rfl) (tq (y_ext rfl rfl) (tq (y_ext rfl rfl) (tq (y_assign rfl) (tq (y_assign rfl) (tr_nil (tr_thenN (tr_seq (tr_seq (tr_region (tq (y_move rfl) (tq (y_not rfl) (tr_nil (tr_thenN ?_)))))))))))));refine tr_cond rfl (fun g40 => ?_) (fun g40 => ?_)
  ·replace H := H.1 g40;refine tr_seq (tr_region (tq (y_move rfl) (tq (y_assign rfl) (tq (y_assign rfl) (tr_nil (tr_thenN (tr_ret (tr_thenR ?_))))))));exact tr_ret2 rfl rfl rfl ⟨_, _, rfl, H⟩
  ·replace H := H.2 g40;refine tr_skip (tr_thenN (tr_seq (tr_region (tq (y_move rfl) ?_))));obtain ⟨a41, e42, H⟩ := H;refine tq (f_nn rfl e42) (tq (y_fa (off := 0) Tryz.runUnderlying112 fo_112_0 rfl) ?_);obtain ⟨y43, k44, H⟩ := H;refine tr_h (y_ld Tryz.isAgg110 rfl) k44 rfl rfl (tq (y_move rfl) ?_);obtain ⟨a45, e46, H⟩ := H;refine tq (f_idx (s := y43) Tryz.runUnderlying110 Tryz.sizeOf130 rfl rfl e46) (tq (y_fa (off := 2) Tryz.runUnderlying130 fo_130_2 rfl) ?_);obtain ⟨y47, k48, H⟩ := H;refine tr_h (y_ld Tryz.isAgg70 rfl) k48 rfl rfl (tq (y_assign rfl) (tr_nil (tr_thenN (tr_seq (tr_region (tq (y_move rfl) ?_))))));obtain ⟨a49, e50, H⟩ := H;refine tq (f_nn rfl e50) (tq (y_fa (off := 3) Tryz.runUnderlying112 fo_112_3 rfl) ?_);obtain ⟨y51, k52, H⟩ := H;refine tr_h (y_ld Tryz.isAgg3 rfl) k52 rfl rfl (tq (y_sub rfl rfl) ?_);obtain ⟨a53, e54, H⟩ := H;refine tq (f_nn rfl e54) (tq (y_fa (off := 3) Tryz.runUnderlying112 fo_112_3 rfl) (tr_e (f_store (vs := [(.int .i64 (IntKind.wrap .i64 (y51 - 1)))]) Tryz.sizeOf3 rfl rfl rfl rfl (one1 rfl) H) rfl rfl ?_));rintro _ h55 ⟨rfl, H⟩;refine tr_nil (tr_thenN (tr_seq (tr_region (tq (y_move rfl) ?_))));obtain ⟨a56, e57, H⟩ := H;refine tq (f_nn rfl e57) (tq (y_fa (off := 0) Tryz.runUnderlying112 fo_112_0 rfl) ?_);obtain ⟨y58, k59, H⟩ := H;refine tr_h (y_ld Tryz.isAgg110 rfl) k59 rfl rfl (tq (y_len (ts := #[]) Tryz.runUnderlying110 (o := y58.ptr) (n := y58.len) (cap := y58.cap) rfl) (tq (y_assign rfl) (tr_nil (tr_thenN (tr_seq (tr_seq (tr_region (tq (y_move rfl) (tq (y_add rfl rfl) (tq (y_move rfl) ?_))))))))));obtain ⟨e60, H⟩ := H;refine tq (y_rem rfl rfl e60) (tq (y_assign rfl) (tr_nil (tr_thenN (tr_block ?_))));obtain ⟨m110, H⟩ := H;refine tr_sub [(0, (.pointer p0)), (4, (.pointer y47)), (8, (.int .i64 r38)), (10, (.int .i64 (y58.len : Int))), (11, (.int .i64 (Int.tmod (IntKind.wrap .i64 (r38 + 1)) (y58.len : Int))))] ⟨rfl, rfl, rfl, rfl, rfl, trivial⟩ ?_;refine tr_loop_j (fun m L' h => ∃ (x0 : Option Addr) (x4 : Option Addr) (x8 : Int) (x10 : Int) (x11 : Int), L' = [(0, (.pointer x0)), (4, (.pointer x4)), (8, (.int .i64 x8)), (10, (.int .i64 x10)), (11, (.int .i64 x11))] ∧ F.xaz.l1 Q m x0 x4 x8 x10 x11 h) ?_ ?_ m110 ⟨_, _, _, _, _, rfl, H⟩
   ·rintro L' h ⟨_, _, _, _, _, _, H⟩; exact H
   ·rintro q1 L' h ⟨x0, x4, x8, x10, x11, rfl, H⟩;unfold F.xaz.l1 at H;refine tr_seq (tr_seq (tr_region (tq (y_move rfl) ?_)));obtain ⟨a61, e62, H⟩ := H;refine tq (f_nn rfl e62) (tq (y_fa (off := 0) Tryz.runUnderlying112 fo_112_0 rfl) ?_);obtain ⟨y63, k64, H⟩ := H;refine tr_h (y_ld Tryz.isAgg110 rfl) k64 rfl rfl (tq (y_move rfl) ?_);obtain ⟨a65, e66, H⟩ := H;refine tq (f_idx (s := y63) Tryz.runUnderlying110 Tryz.sizeOf130 rfl rfl e66) (tq (y_fa (off := 0) Tryz.runUnderlying130 fo_130_0 rfl) ?_);obtain ⟨y67, k68, H⟩ := H;refine tr_h (y_ld Tryz.isAgg5 rfl) k68 rfl rfl (tq (y_neq rfl rfl) (tr_nil (tr_thenN ?_)));refine tr_cond rfl (fun g69 => ?_) (fun g69 => ?_)
    ·replace H := H.1 g69;refine tr_skip (tr_thenN ?_);refine tr_seq_j (fun L' h => ∃ (x0 : Option Addr) (x4 : Option Addr) (x8 : Int) (x10 : Int) (x11 : Int), L' = [(0, (.pointer x0)), (4, (.pointer x4)), (8, (.int .i64 x8)), (10, (.int .i64 x10)), (11, (.int .i64 x11))] ∧ F.xaz.j2 Q (F.xaz.l1 Q q1) x0 x4 x8 x10 x11 h) ?_ ?_
     ·rintro L' h ⟨x0, x4, x8, x10, x11, rfl, H⟩;unfold F.xaz.j2 at H;refine tr_region (tq (y_move rfl) (tq (y_add rfl rfl) (tq (y_move rfl) ?_)));obtain ⟨e70, H⟩ := H;refine tq (y_rem rfl rfl e70) (tq (y_assign rfl) (tr_nil (tr_thenN ?_)));exact tr_join [(0, (.pointer x0)), (4, (.pointer x4)), (8, (.int .i64 x8)), (10, (.int .i64 x10)), (11, (.int .i64 (Int.tmod (IntKind.wrap .i64 (x11 + 1)) x10)))] ⟨rfl, rfl, rfl, rfl, rfl, trivial⟩ ⟨_, _, _, _, _, rfl, H⟩
     ·refine tr_block (tr_seq (tr_draw mixed [0, 1, 3, 7, 0, 16, 48, 112, 0, 496, 1008, 2032, 4095, 8191] (by kernel_rfl) (g_p 0 1 rfl (by kernel_rfl) (y_move rfl) rfl rfl ?_)));obtain ⟨a71, e72, H⟩ := H;refine g_p 1 3 rfl (by kernel_rfl) (f_nn rfl e72) rfl rfl (g_p 2 7 rfl (by kernel_rfl) (y_fa (off := 0) Tryz.runUnderlying112 fo_112_0 rfl) rfl rfl ?_);obtain ⟨y73, k74, H⟩ := H;refine g_h 3 15 rfl (by kernel_rfl) (y_ld Tryz.isAgg110 rfl) k74 rfl rfl (g_p 4 31 rfl (by kernel_rfl) (y_move rfl) rfl rfl ?_);obtain ⟨a75, e76, H⟩ := H;refine g_p 5 63 rfl (by kernel_rfl) (f_nn rfl e76) rfl rfl (g_p 6 127 rfl (by kernel_rfl) (y_fa (off := 0) Tryz.runUnderlying112 fo_112_0 rfl) rfl rfl ?_);obtain ⟨y77, k78, H⟩ := H;refine g_h 7 255 rfl (by kernel_rfl) (y_ld Tryz.isAgg110 rfl) k78 rfl rfl (g_p 8 511 rfl (by kernel_rfl) (y_move rfl) rfl rfl ?_);obtain ⟨a79, e80, H⟩ := H;refine g_p 9 1023 rfl (by kernel_rfl) (f_idx (s := y77) Tryz.runUnderlying110 Tryz.sizeOf130 rfl rfl e80) rfl rfl (g_p 10 2047 rfl (by kernel_rfl) (y_fa (off := 1) Tryz.runUnderlying130 fo_130_1 rfl) rfl rfl ?_);obtain ⟨y81, k82, H⟩ := H;refine g_h 11 4095 rfl (by kernel_rfl) (y_ld Tryz.isAgg9 rfl) k82 rfl rfl (g_e 12 8191 [] (by kernel_rfl) rfl (by kernel_rfl) (e_call Tryz.call100 rfl (F.xct_ok H)) rfl rfl ?_);rintro _ h83 ⟨r84, rfl, H⟩;refine ⟨trivial, ?_⟩;refine g_p 13 16383 rfl (by kernel_rfl) (y_assign rfl) rfl rfl (g_d (by kernel_rfl) (tr_thenN (tr_seq (tr_draw mixed [0, 0, 3, 0, 15, 0, 63, 0, 0, 384, 0, 1920, 0, 8064, 16383] (by kernel_rfl) (g_p 0 1 rfl (by kernel_rfl) (y_move rfl) rfl rfl (g_p 1 3 rfl (by kernel_rfl) (y_move rfl) rfl rfl (g_p 2 7 rfl (by kernel_rfl) (y_sub rfl rfl) rfl rfl (g_p 3 15 rfl (by kernel_rfl) (y_move rfl) rfl rfl (g_p 4 31 rfl (by kernel_rfl) (y_add rfl rfl) rfl rfl (g_p 5 63 rfl (by kernel_rfl) (y_move rfl) rfl rfl ?_))))))))));obtain ⟨e85, H⟩ := H;refine g_p 6 127 rfl (by kernel_rfl) (y_rem rfl rfl e85) rfl rfl (g_p 7 255 rfl (by kernel_rfl) (y_move rfl) rfl rfl (g_p 8 511 rfl (by kernel_rfl) (y_move rfl) rfl rfl (g_p 9 1023 rfl (by kernel_rfl) (y_sub rfl rfl) rfl rfl (g_p 10 2047 rfl (by kernel_rfl) (y_move rfl) rfl rfl (g_p 11 4095 rfl (by kernel_rfl) (y_add rfl rfl) rfl rfl (g_p 12 8191 rfl (by kernel_rfl) (y_move rfl) rfl rfl ?_))))));obtain ⟨e86, H⟩ := H;refine g_p 13 16383 rfl (by kernel_rfl) (y_rem rfl rfl e86) rfl rfl (g_p 14 32767 rfl (by kernel_rfl) (y_geq rfl rfl) rfl rfl (g_d (by kernel_rfl) (tr_thenN ?_)));refine tr_cond rfl (fun g87 => ?_) (fun g87 => ?_)
      ·replace H := H.1 g87;refine tr_draw mixed [0, 1, 3, 7, 0, 0, 32, 96, 224, 0, 992, 2016, 0, 4095, 12287, 32767] (by kernel_rfl) (g_p 0 1 rfl (by kernel_rfl) (y_move rfl) rfl rfl ?_);obtain ⟨a88, e89, H⟩ := H;refine g_p 1 3 rfl (by kernel_rfl) (f_nn rfl e89) rfl rfl (g_p 2 7 rfl (by kernel_rfl) (y_fa (off := 0) Tryz.runUnderlying112 fo_112_0 rfl) rfl rfl ?_);obtain ⟨y90, k91, H⟩ := H;refine g_h 3 15 rfl (by kernel_rfl) (y_ld Tryz.isAgg110 rfl) k91 rfl rfl (g_p 4 31 rfl (by kernel_rfl) (y_move rfl) rfl rfl (g_p 5 63 rfl (by kernel_rfl) (y_move rfl) rfl rfl ?_));obtain ⟨a92, e93, H⟩ := H;refine g_p 6 127 rfl (by kernel_rfl) (f_nn rfl e93) rfl rfl (g_p 7 255 rfl (by kernel_rfl) (y_fa (off := 0) Tryz.runUnderlying112 fo_112_0 rfl) rfl rfl ?_);obtain ⟨y94, k95, H⟩ := H;refine g_h 8 511 rfl (by kernel_rfl) (y_ld Tryz.isAgg110 rfl) k95 rfl rfl (g_p 9 1023 rfl (by kernel_rfl) (y_move rfl) rfl rfl ?_);obtain ⟨a96, e97, H⟩ := H;refine g_p 10 2047 rfl (by kernel_rfl) (f_idx (s := y94) Tryz.runUnderlying110 Tryz.sizeOf130 rfl rfl e97) rfl rfl ?_;obtain ⟨y98, k99, H⟩ := H;refine g_h 11 4095 rfl (by kernel_rfl) (y_ldS Tryz.isAgg130 Tryz.sizeOf130 rfl rfl) k99 rfl rfl (g_p 12 8191 rfl (by kernel_rfl) (y_move rfl) rfl rfl ?_);obtain ⟨a100, e101, H⟩ := H;refine g_p 13 16383 rfl (by kernel_rfl) (f_idx (s := y90) Tryz.runUnderlying110 Tryz.sizeOf130 rfl rfl e101) rfl rfl (g_e 14 32767 [] (by kernel_rfl) rfl (by kernel_rfl) (f_store (vs := y98.cells) Tryz.sizeOf130 rfl rfl cellsOfStruct rfl (by intro v hv; exact ones_S_table_place_chain_Chain_api_Agg _ v hv) H) rfl rfl ?_);rintro _ h102 ⟨rfl, H⟩;refine ⟨trivial, ?_⟩;refine g_e 15 65535 [] (by kernel_rfl) rfl (by kernel_rfl) (yp_ev (y_assign rfl)) rfl rfl ?_;rintro _ _ ⟨rfl, rfl⟩;refine ⟨trivial, ?_⟩;refine g_d (by kernel_rfl) (tr_blockN (tr_thenN ?_));exact tr_join [(0, (.pointer x0)), (4, (.pointer x4)), (8, (.int .i64 x11)), (10, (.int .i64 x10)), (11, (.int .i64 x11))] ⟨rfl, rfl, rfl, rfl, rfl, trivial⟩ ⟨_, _, _, _, _, rfl, H⟩
      ·replace H := H.2 g87;refine tr_skip (tr_blockN (tr_thenN ?_));exact tr_join [(0, (.pointer x0)), (4, (.pointer x4)), (8, (.int .i64 x8)), (10, (.int .i64 x10)), (11, (.int .i64 x11))] ⟨rfl, rfl, rfl, rfl, rfl, trivial⟩ ⟨_, _, _, _, _, rfl, H⟩
    ·replace H := H.2 g69;refine tr_exit (tr_thenE (tr_thenE (tr_hit (tr_thenN (tr_seq (tr_region (tq (y_move rfl) ?_)))))));obtain ⟨a103, e104, H⟩ := H;refine tq (f_nn rfl e104) (tq (y_fa (off := 0) Tryz.runUnderlying112 fo_112_0 rfl) ?_);obtain ⟨y105, k106, H⟩ := H;refine tr_h (y_ld Tryz.isAgg110 rfl) k106 rfl rfl (tq (y_move rfl) (tq (f_build rfl (bd_130_ )) ?_));obtain ⟨a107, e108, H⟩ := H;refine tq (f_idx (s := y105) Tryz.runUnderlying110 Tryz.sizeOf130 rfl rfl e108) (tr_e (f_store (vs := (⟨0, (⟨#[]⟩ : ByteArray), none⟩ : S_table_place_chain_Chain_api_Agg).cells) Tryz.sizeOf130 rfl rfl cellsOfStruct rfl (by intro v hv; exact ones_S_table_place_chain_Chain_api_Agg _ v hv) H) rfl rfl ?_);rintro _ h109 ⟨rfl, H⟩;refine tr_nil (tr_thenN (tr_seq (tr_region (tq (y_move rfl) (tq (y_assign rfl) (tq (y_assign rfl) (tr_nil (tr_thenN (tr_ret ?_)))))))));exact tr_ret2 rfl rfl rfl ⟨_, _, rfl, H⟩
def F.xbu.l1 (Q : Int -> H -> Prop) : Nat -> List Nat -> (Option Addr) -> Addr -> Sl -> Int -> Int -> H -> Prop
  | 0, _, _, _, _, _, _, _ => False
  | q1 + 1, ds, x0, x5, x30, x31, x32, h =>
    ((decide (x32 < x31)) = true ->
    idxA x30 x32 1 fun a37 =>
    ldS h a37 fun y39 =>
    nn x0 fun a41 =>
    ldP h (a41.add 3) fun y43 =>
    F.xaz y43 y39 h fun r46 r47 h45 =>
    (F.xbu.l1 Q q1) ds x0 x5 x30 x31 (IntKind.wrap .i64 (x32 + 1)) h45) ∧
    ((decide (x32 < x31)) = false ->
    nn x0 fun a48 =>
    ldI .i64 h ((a48.add 0).add 0) fun y50 =>
    ldI .i64 h x5 fun y52 =>
    nn x0 fun a54 =>
    stH h ((a54.add 0).add 0) [(.int .i64 (IntKind.wrap .i64 (y50 - y52)))] fun h56 =>
    ldI .i64 h56 x5 fun y57 =>
    shuts ds h56 fun h59 =>
    Q y57 h59)
def F.xbu (p0 : Option Addr) (p1 : Sl) (h : H) (Q : Int -> H -> Prop) : Prop :=
  new h #[p1.enc] ty_35 fun a2 h1 =>
  new h1 #[(.int .i64 0)] ty_3 fun a4 h3 =>
  stH h3 a4 [(.int .i64 0)] fun h5 =>
  new h5 #[(⟨none, 0, 0⟩ : Sl).enc] ty_114 fun a7 h6 =>
  nn p0 fun a8 =>
  ldP h6 (a8.add 3) fun y10 =>
  F.xah y10 h6 fun r13 h12 =>
  rng PP r13 h12 [] (fun bg1 l1 args h K1 J1 => ∃ (y1_16 : ByteArray), ∃ (y1_17 : Option Addr), args = [(.string y1_16), (.pointer y1_17)] ∧
    bg1 h fun h14 =>
    ldI .i64 h14 a4 fun y15 =>
    ldL h14 a2 fun y17 =>
    F.xam y1_17 y17 h14 fun r20 h19 =>
    cellH h19 a4 = some (.int .i64 y15) ∧
    stH h19 a4 [(.int .i64 (IntKind.wrap .i64 (y15 + r20)))] fun h22 =>
    F.xdb y1_17 h22 fun r24 h23 =>
    (((r24 == 0)) = true ->
    ldL h23 a7 fun y26 =>
    newL h23 #[(.string y1_16)] ty_9 1 fun s29 h28 =>
    runL PP (Builtin.append_ #[114, 114] 114 #[y26.enc, s29.enc]) h28 fun s31 h30 =>
    stH h30 a7 [s31.enc] fun h32 =>
    K1 h32) ∧
    (((r24 == 0)) = false ->
    K1 h23)) (fun h33 =>
    ldL h33 a7 fun y34 =>
    ∃ m, F.xbu.l1 Q m (h12.size :: ([] : List Nat)) p0 a4 y34 (y34.len : Int) 0 h33) (fun jj h61 =>
    True)
theorem F.xbu_ok {p0 : Option Addr} {p1 : Sl} {h : H} {Q : Int -> H -> Prop} (H : F.xbu p0 p1 h Q) : Fn PP 33 ([(.pointer p0), p1.enc] : List Value).toArray h fun r h' => ∃ r0, r = (.int .i64 r0) ∧ Q r0 h' := by
 unfold F.xbu at H;refine fn_ofM Tryz.func33 Tryz.ntmps33 rfl rfl fun w0 => (tr_sub [(0, (.pointer p0)), (1, p1.enc)] ⟨rfl, rfl, trivial⟩ (tr_seq (tr_region (tr_e (f_box (cs := #[p1.enc]) rfl rfl H) rfl rfl ?_))));rintro _ h1 ⟨a2, rfl, H⟩;refine tq (y_assign rfl) (tr_nil (tr_thenN (tr_seq (tr_region (tr_e (f_alloc (cs := #[(.int .i64 0)]) Tryz.zeroValue3 rfl H) rfl rfl ?_)))));rintro _ h3 ⟨a4, rfl, H⟩;refine tr_e (f_store (vs := [(.int .i64 0)]) Tryz.sizeOf3 rfl rfl rfl rfl (one1 rfl) H) rfl rfl ?_;rintro _ h5 ⟨rfl, H⟩;refine tr_nil (tr_thenN (tr_seq (tr_region (tr_e (f_alloc (cs := #[(⟨none, 0, 0⟩ : Sl).enc]) Tryz.zeroValue114 rfl H) rfl rfl ?_))));rintro _ h6 ⟨a7, rfl, H⟩;refine tr_nil (tr_thenN (tr_seq (tr_seq (tr_region (tq (y_move rfl) ?_)))));obtain ⟨a8, e9, H⟩ := H;refine tq (f_nn rfl e9) (tq (y_fa (off := 3) Tryz.runUnderlying46 fo_46_1 rfl) ?_);obtain ⟨y10, k11, H⟩ := H;refine tr_h (y_ld Tryz.isAgg44 rfl) k11 rfl rfl (tr_e (e_call Tryz.call59 rfl (F.xah_ok H)) rfl rfl ?_);rintro r13 h12 ⟨_, rfl, H⟩;refine tr_nil (tr_thenN (tr_block ?_));refine tr_range rfl (by kernel_rfl) H ?_ ?_ ?_
 ·intro bg1 l1 args h K1 J1 w1 hbg1 H;obtain ⟨y1_16, y1_17, rfl, H⟩ := H;refine ⟨rfl, ?_⟩;refine tr_sub [(0, (.pointer p0)), (1, p1.enc), (3, (.pointer (some a2))), (4, (.int .i64 0)), (5, (.pointer (some a4))), (6, (.pointer (some a7))), (11, (.pointer p0)), (12, (.pointer (some a8))), (13, (.pointer (some (a8.add 3)))), (14, (.pointer y10)), (15, r13), (16, (.string y1_16)), (17, (.pointer y1_17))] ⟨rfl, rfl, rfl, rfl, rfl, rfl, rfl, rfl, rfl, rfl, rfl, rfl, rfl, trivial⟩ (tr_seq (tr_region (tq (y_assign rfl) (tr_nil (tr_thenN (tr_region (tq (y_assign rfl) (tr_nil (tr_thenN (tr_bgn hbg1 H fun h14 H => (tr_block (tr_seq (tr_draw mixed [0, 0, 0, 6, 15, 31] (by kernel_rfl) ?_)))))))))))));obtain ⟨y15, k16, H⟩ := H;refine g_h 0 1 rfl (by kernel_rfl) (y_ld Tryz.isAgg3 rfl) k16 rfl rfl (g_p 1 3 rfl (by kernel_rfl) (y_move rfl) rfl rfl ?_);obtain ⟨y17, k18, H⟩ := H;refine g_h 2 7 rfl (by kernel_rfl) (y_ld Tryz.isAgg35 rfl) k18 rfl rfl (g_e 3 15 [(0, fun h => cellH h a4 = some (.int .i64 y15))] (by kernel_rfl) rfl (by kernel_rfl) (e_call Tryz.call68 rfl (F.xam_ok H)) rfl rfl ?_);rintro _ h19 ⟨r20, rfl, H⟩;obtain ⟨k21, H⟩ := H;refine ⟨And.intro k21 trivial, ?_⟩;refine g_p 4 31 rfl (by kernel_rfl) (y_add rfl rfl) rfl rfl (g_e 5 63 [] (by kernel_rfl) rfl (by kernel_rfl) (f_store (vs := [(.int .i64 (IntKind.wrap .i64 (y15 + r20)))]) Tryz.sizeOf3 rfl rfl rfl rfl (one1 rfl) H) rfl rfl ?_);rintro _ h22 ⟨rfl, H⟩;refine ⟨trivial, ?_⟩;refine g_d (by kernel_rfl) (tr_thenN (tr_seq (tr_region (tq (y_move rfl) (tr_e (e_call Tryz.call65 rfl (F.xdb_ok H)) rfl rfl ?_)))));rintro _ h23 ⟨r24, rfl, H⟩;refine tq (y_eql rfl rfl) (tr_nil (tr_thenN ?_));refine tr_cond rfl (fun g25 => ?_) (fun g25 => ?_)
  ·replace H := H.1 g25;refine tr_region ?_;obtain ⟨y26, k27, H⟩ := H;refine tr_h (y_ld Tryz.isAgg114 rfl) k27 rfl rfl (tq (y_move rfl) (tr_e (f_buildL (cs := #[(.string y1_16)]) rfl rfl (bl_114_1_0 y1_16) H) rfl rfl ?_));rintro _ h28 ⟨s29, rfl, H⟩;refine tr_e (f_app rfl H) rfl rfl ?_;rintro _ h30 ⟨s31, rfl, H⟩;refine tr_e (f_store (vs := [s31.enc]) Tryz.sizeOf114 rfl rfl rfl rfl (one1 rfl) H) rfl rfl ?_;rintro _ h32 ⟨rfl, H⟩;refine tr_nil (tr_blockN ?_);exact tr_rN H
  ·replace H := H.2 g25;refine tr_skip (tr_blockN ?_);exact tr_rN H
 ·intro h33 H;refine tr_blockN (tr_thenN (tr_seq (tr_seq (tr_region ?_))));obtain ⟨y34, k35, H⟩ := H;refine tr_h (y_ld Tryz.isAgg114 rfl) k35 rfl rfl (tq (y_len (ts := #[]) Tryz.runUnderlying114 (o := y34.ptr) (n := y34.len) (cap := y34.cap) rfl) (tq (y_move rfl) (tr_nil (tr_thenN (tr_block ?_)))));obtain ⟨m60, H⟩ := H;refine tr_sub [(0, (.pointer p0)), (5, (.pointer (some a4))), (30, y34.enc), (31, (.int .i64 (y34.len : Int))), (32, (.int .i64 0))] ⟨rfl, rfl, rfl, rfl, rfl, trivial⟩ ?_;refine tr_loop_jD (fun m ds L' h => ∃ (x0 : Option Addr) (x5 : Addr) (x30 : Sl) (x31 : Int) (x32 : Int), L' = [(0, (.pointer x0)), (5, (.pointer (some x5))), (30, x30.enc), (31, (.int .i64 x31)), (32, (.int .i64 x32))] ∧ F.xbu.l1 Q m ds x0 x5 x30 x31 x32 h) ?_ ?_ m60 (h12.size :: ([] : List Nat)) rfl ⟨_, _, _, _, _, rfl, H⟩
  ·rintro ds L' h ⟨_, _, _, _, _, _, H⟩; exact H
  ·rintro q1 ds L' h ⟨x0, x5, x30, x31, x32, rfl, H⟩;unfold F.xbu.l1 at H;refine tr_seq (tr_region (tq (y_lss rfl rfl) (tr_nil (tr_thenN (tr_seq ?_)))));refine tr_cond rfl (fun g36 => ?_) (fun g36 => ?_)
   ·replace H := H.1 g36;refine tr_skip (tr_thenN (tr_seq (tr_block (tr_seq (tr_region ?_)))));obtain ⟨a37, e38, H⟩ := H;refine tq (f_idx (s := x30) Tryz.runUnderlying114 Tryz.sizeOf9 rfl rfl e38) ?_;obtain ⟨y39, k40, H⟩ := H;refine tr_h (y_ld Tryz.isAgg9 rfl) k40 rfl rfl (tq (y_assign rfl) (tr_nil (tr_thenN (tr_region (tq (y_move rfl) ?_)))));obtain ⟨a41, e42, H⟩ := H;refine tq (f_nn rfl e42) (tq (y_fa (off := 3) Tryz.runUnderlying46 fo_46_1 rfl) ?_);obtain ⟨y43, k44, H⟩ := H;refine tr_h (y_ld Tryz.isAgg44 rfl) k44 rfl rfl (tq (y_move rfl) (tr_e (e_call Tryz.call69 rfl (F.xaz_ok H)) rfl rfl ?_));rintro _ h45 ⟨r46, r47, rfl, H⟩;refine tr_nil (tr_blockN (tr_thenN (tr_region (tq (y_add rfl rfl) (tq (y_move rfl) (tr_nil (tr_thenN ?_)))))));exact tr_joinD ds [(0, (.pointer x0)), (5, (.pointer (some x5))), (30, x30.enc), (31, (.int .i64 x31)), (32, (.int .i64 (IntKind.wrap .i64 (x32 + 1))))] rfl ⟨rfl, rfl, rfl, rfl, rfl, trivial⟩ ⟨_, _, _, _, _, rfl, H⟩
   ·replace H := H.2 g36;refine tr_exit (tr_thenE (tr_thenE (tr_hit (tr_thenN (tr_seq (tr_draw mixed [0, 1, 3, 7, 15, 0, 63, 127, 255, 511, 1023] (by kernel_rfl) (g_p 0 1 rfl (by kernel_rfl) (y_move rfl) rfl rfl ?_)))))));obtain ⟨a48, e49, H⟩ := H;refine g_p 1 3 rfl (by kernel_rfl) (f_nn rfl e49) rfl rfl (g_p 2 7 rfl (by kernel_rfl) (y_fa (off := 0) Tryz.runUnderlying46 fo_46_0 rfl) rfl rfl (g_p 3 15 rfl (by kernel_rfl) (y_fa (off := 0) Tryz.runUnderlying43 fo_43_0 rfl) rfl rfl ?_));obtain ⟨y50, k51, H⟩ := H;refine g_h 4 31 rfl (by kernel_rfl) (y_ld Tryz.isAgg3 rfl) k51 rfl rfl ?_;obtain ⟨y52, k53, H⟩ := H;refine g_h 5 63 rfl (by kernel_rfl) (y_ld Tryz.isAgg3 rfl) k53 rfl rfl (g_p 6 127 rfl (by kernel_rfl) (y_sub rfl rfl) rfl rfl ?_);obtain ⟨a54, e55, H⟩ := H;refine g_p 7 255 rfl (by kernel_rfl) (f_nn rfl e55) rfl rfl (g_p 8 511 rfl (by kernel_rfl) (y_fa (off := 0) Tryz.runUnderlying46 fo_46_0 rfl) rfl rfl (g_p 9 1023 rfl (by kernel_rfl) (y_fa (off := 0) Tryz.runUnderlying43 fo_43_0 rfl) rfl rfl (g_e 10 2047 [] (by kernel_rfl) rfl (by kernel_rfl) (f_store (vs := [(.int .i64 (IntKind.wrap .i64 (y50 - y52)))]) Tryz.sizeOf3 rfl rfl rfl rfl (one1 rfl) H) rfl rfl ?_)));rintro _ h56 ⟨rfl, H⟩;refine ⟨trivial, ?_⟩;refine g_d (by kernel_rfl) (tr_thenN (tr_seq (tr_region ?_)));obtain ⟨y57, k58, H⟩ := H;refine tr_h (y_ld Tryz.isAgg3 rfl) k58 rfl rfl (tq (y_assign rfl) (tr_nil (tr_thenN (tr_ret (tr_shut ds rfl H fun h59 H => ?_)))));exact tr_ret1 rfl rfl ⟨_, rfl, H⟩
 ·intro jj c h61 hjc H;simp at hjc
def F.xci (p0 : Int) (h : H) (Q : S_api_Agg -> H -> Prop) : Prop :=
  new h (((⟨0, 0, 0, 0⟩ : S_api_Agg) : S_api_Agg).cells.toArray) ty_34 fun a2 h1 =>
  stH h1 a2 ((⟨1, p0, p0, p0⟩ : S_api_Agg).cells) fun h3 =>
  ld_S_api_Agg h3 a2 fun y4 =>
  Q y4 h3
theorem F.xci_ok {p0 : Int} {h : H} {Q : S_api_Agg -> H -> Prop} (H : F.xci p0 h Q) : Fn PP 17 ([(.int .i64 p0)] : List Value).toArray h fun r h' => ∃ r0, r = (.agg r0.cells.toArray) ∧ Q r0 h' := by
 unfold F.xci at H;refine fn_of Tryz.func17 Tryz.ntmps17 rfl rfl fun w0 => (tr_sub [(0, (.int .i64 p0))] ⟨rfl, trivial⟩ (tr_seq (tr_region (tr_e (f_alloc (cs := ((⟨0, 0, 0, 0⟩ : S_api_Agg) : S_api_Agg).cells.toArray) Tryz.zeroValue34 rfl H) rfl rfl ?_))));rintro _ h1 ⟨a2, rfl, H⟩;refine tr_nil (tr_thenN (tr_seq (tr_region (tq (y_move rfl) (tq (y_move rfl) (tq (y_move rfl) (tq (f_build rfl (bd_34_0_1_2_3 1 p0 p0 p0)) (tr_e (f_store (vs := (⟨1, p0, p0, p0⟩ : S_api_Agg).cells) Tryz.sizeOf34 rfl rfl cellsOfStruct rfl (by intro v hv; exact ones_S_api_Agg _ v hv) H) rfl rfl ?_))))))));rintro _ h3 ⟨rfl, H⟩;refine tr_nil (tr_thenN (tr_ret ?_));obtain ⟨y4, k5, H⟩ := H;exact tr_rv1 rfl (rv_cellS Tryz.isAgg34 Tryz.sizeOf34 rfl rfl k5) ⟨_, rfl, H⟩
def F.xbe.j2 (Q : Int -> H -> Prop) (x42 : Bool) (h : H) : Prop :=
  (x42 = true ->
  Q 1 h) ∧
  (x42 = false ->
  Q 2 h)
def F.xbe.j1 (Q : Int -> H -> Prop) (x1 : Int) (x11 : Int) (x12 : Bool) (x35 : Bool) (h : H) : Prop :=
  (x35 = true ->
  Q 0 h) ∧
  (x35 = false ->
  (((x11 == x1)) = true ->
  F.xbe.j2 Q true h) ∧
  (((x11 == x1)) = false ->
  F.xbe.j2 Q x12 h))
def F.xbe (p0 : Option Addr) (p1 : Int) (p2 : S_api_Cell) (h : H) (Q : Int -> H -> Prop) : Prop :=
  new h p2.cells.toArray ty_32 fun a2 h1 =>
  ld_S_api_Cell h1 a2 fun y3 =>
  F.xak y3 h1 fun r6 r7 h5 =>
  (((r7 != 0)) = true ->
  Q 0 h5) ∧
  (((r7 != 0)) = false ->
  ld_S_api_Cell h5 a2 fun y9 =>
  F.xck p0 y9 h5 fun r12 h11 =>
  (r12.isNone = true ->
  Q 2 h11) ∧
  (r12.isNone = false ->
  F.xcg r12 h11 fun r15 r16 r17 h14 =>
  new h14 (((⟨0, 0, 0, 0⟩ : S_api_Agg) : S_api_Agg).cells.toArray) ty_34 fun a19 h18 =>
  stH h18 a19 r15.cells fun h20 =>
  ((decide (r16 > p1)) = true ->
  Q 0 h20) ∧
  ((decide (r16 > p1)) = false ->
  (((r16 == p1)) = true ->
  F.xbe.j1 Q p1 r16 r17 r17 h20) ∧
  (((r16 == p1)) = false ->
  F.xbe.j1 Q p1 r16 r17 false h20))))
theorem F.xbe_ok {p0 : Option Addr} {p1 : Int} {p2 : S_api_Cell} {h : H} {Q : Int -> H -> Prop} (H : F.xbe p0 p1 p2 h Q) : Fn PP 38 ([(.pointer p0), (.int .i64 p1), (.agg p2.cells.toArray)] : List Value).toArray h fun r h' => ∃ r0, r = (.int .i64 r0) ∧ Q r0 h' := by
 unfold F.xbe at H;refine fn_of Tryz.func38 Tryz.ntmps38 rfl rfl fun w0 => (tr_sub [(0, (.pointer p0)), (1, (.int .i64 p1)), (2, (.agg p2.cells.toArray))] ⟨rfl, rfl, rfl, trivial⟩ (tr_seq (tr_region (tr_e (f_box (cs := p2.cells.toArray) rfl rfl H) rfl rfl ?_))));rintro _ h1 ⟨a2, rfl, H⟩;refine tq (y_assign rfl) (tr_nil (tr_thenN (tr_seq (tr_seq (tr_region ?_)))));obtain ⟨y3, k4, H⟩ := H;refine tr_h (y_ldS Tryz.isAgg32 Tryz.sizeOf32 rfl rfl) k4 rfl rfl (tr_e (e_call Tryz.call39 rfl (F.xak_ok H)) rfl rfl ?_);rintro _ h5 ⟨r6, r7, rfl, H⟩;refine tq (y_move rfl) (tq (y_ext rfl rfl) (tq (y_ext rfl rfl) (tq (y_assign rfl) (tq (y_assign rfl) (tr_nil (tr_thenN (tr_seq (tr_region (tq (y_move rfl) (tq (y_neq rfl rfl) (tr_nil (tr_thenN ?_))))))))))));refine tr_cond rfl (fun g8 => ?_) (fun g8 => ?_)
 ·replace H := H.1 g8;refine tr_seq (tr_region (tq (y_assign rfl) (tr_nil (tr_thenN (tr_ret (tr_thenR ?_))))));exact tr_ret1 rfl rfl ⟨_, rfl, H⟩
 ·replace H := H.2 g8;refine tr_skip (tr_thenN (tr_seq (tr_region (tq (y_move rfl) ?_))));obtain ⟨y9, k10, H⟩ := H;refine tr_h (y_ldS Tryz.isAgg32 Tryz.sizeOf32 rfl rfl) k10 rfl rfl (tr_e (e_call Tryz.call64 rfl (F.xck_ok H)) rfl rfl ?_);rintro _ h11 ⟨r12, rfl, H⟩;refine tq (y_assign rfl) (tr_nil (tr_thenN (tr_seq (tr_seq (tr_region (tq (y_move rfl) (tq (y_pnil_eql Tryz.runUnderlying70 rfl rfl) (tr_nil (tr_thenN ?_)))))))));refine tr_cond rfl (fun g13 => ?_) (fun g13 => ?_)
  ·replace H := H.1 g13;refine tr_seq (tr_region (tq (y_assign rfl) (tr_nil (tr_thenN (tr_ret (tr_thenR ?_))))));exact tr_ret1 rfl rfl ⟨_, rfl, H⟩
  ·replace H := H.2 g13;refine tr_skip (tr_thenN (tr_seq (tr_region (tq (y_move rfl) (tr_e (e_call Tryz.call42 rfl (F.xcg_ok H)) rfl rfl ?_)))));rintro _ h14 ⟨r15, r16, r17, rfl, H⟩;refine tq (y_move rfl) (tq (y_ext rfl rfl) (tq (y_ext rfl rfl) (tq (y_ext rfl rfl) (tr_e (f_alloc (cs := ((⟨0, 0, 0, 0⟩ : S_api_Agg) : S_api_Agg).cells.toArray) Tryz.zeroValue34 rfl H) rfl rfl ?_))));rintro _ h18 ⟨a19, rfl, H⟩;refine tr_e (f_store (vs := r15.cells) Tryz.sizeOf34 rfl rfl cellsOfStruct rfl (by intro v hv; exact ones_S_api_Agg _ v hv) H) rfl rfl ?_;rintro _ h20 ⟨rfl, H⟩;refine tq (y_assign rfl) (tq (y_assign rfl) (tr_nil (tr_thenN (tr_seq (tr_block (tr_seq (tr_region (tq (y_move rfl) (tq (y_move rfl) (tq (y_gtr rfl rfl) (tq (y_assign rfl) (tr_nil (tr_thenN ?_)))))))))))));refine tr_cond rfl (fun g21 => ?_) (fun g21 => ?_)
   ·replace H := H.1 g21;refine tr_seq (tr_region (tq (y_assign rfl) (tr_nil (tr_thenN (tr_ret (tr_blockR (tr_thenR ?_)))))));exact tr_ret1 rfl rfl ⟨_, rfl, H⟩
   ·replace H := H.2 g21;refine tr_seq_j (fun L' h => ∃ (x1 : Int) (x11 : Int) (x12 : Bool) (x35 : Bool), L' = [(1, (.int .i64 x1)), (11, (.int .i64 x11)), (12, (.bool x12)), (35, (.bool x35))] ∧ F.xbe.j1 Q x1 x11 x12 x35 h) ?_ ?_
    ·rintro L' h ⟨x1, x11, x12, x35, rfl, H⟩;unfold F.xbe.j1 at H;refine tr_cond rfl (fun g22 => ?_) (fun g22 => ?_)
     ·replace H := H.1 g22;refine tr_seq (tr_region (tq (y_assign rfl) (tr_nil (tr_thenN (tr_ret (tr_blockR (tr_thenR ?_)))))));exact tr_ret1 rfl rfl ⟨_, rfl, H⟩
     ·replace H := H.2 g22;refine tr_seq_j (fun L' h => ∃ (x42 : Bool), L' = [(42, (.bool x42))] ∧ F.xbe.j2 Q x42 h) ?_ ?_
      ·rintro L' h ⟨x42, rfl, H⟩;unfold F.xbe.j2 at H;refine tr_cond rfl (fun g23 => ?_) (fun g23 => ?_)
       ·replace H := H.1 g23;refine tr_seq (tr_region (tq (y_assign rfl) (tr_nil (tr_thenN (tr_ret (tr_blockR (tr_thenR ?_)))))));exact tr_ret1 rfl rfl ⟨_, rfl, H⟩
       ·replace H := H.2 g23;refine tr_skip (tr_blockN (tr_thenN (tr_seq (tr_region (tq (y_assign rfl) (tr_nil (tr_thenN (tr_ret ?_))))))));exact tr_ret1 rfl rfl ⟨_, rfl, H⟩
      ·refine tr_region (tq (y_move rfl) (tq (y_move rfl) (tq (y_eql rfl rfl) (tq (y_move rfl) ?_))));refine tr_split (t := 46) rfl (fun g24 => ?_) (fun g24 => ?_)
       ·replace H := H.1 g24;refine ts (tq (y_pick_t rfl rfl) (tq (y_assign rfl) (tr_nil (tr_thenN ?_))));exact tr_join [(42, (.bool true))] ⟨rfl, trivial⟩ ⟨_, rfl, H⟩
       ·replace H := H.2 g24;refine tq (y_move rfl) (tq (y_pick_f rfl rfl) (tq (y_assign rfl) (tr_nil (tr_thenN ?_))));exact tr_join [(42, (.bool x12))] ⟨rfl, trivial⟩ ⟨_, rfl, H⟩
    ·refine tr_region (tq (y_move rfl) (tq (y_move rfl) (tq (y_eql rfl rfl) (tq (y_move rfl) ?_))));refine tr_split (t := 39) rfl (fun g25 => ?_) (fun g25 => ?_)
     ·replace H := H.1 g25;refine tq (y_move rfl) (tq (y_pick_t rfl rfl) (tq (y_assign rfl) (tr_nil (tr_thenN ?_))));exact tr_join [(1, (.int .i64 p1)), (11, (.int .i64 r16)), (12, (.bool r17)), (35, (.bool r17))] ⟨rfl, rfl, rfl, rfl, trivial⟩ ⟨_, _, _, _, rfl, H⟩
     ·replace H := H.2 g25;refine ts (tq (y_pick_f rfl rfl) (tq (y_assign rfl) (tr_nil (tr_thenN ?_))));exact tr_join [(1, (.int .i64 p1)), (11, (.int .i64 r16)), (12, (.bool r17)), (35, (.bool false))] ⟨rfl, rfl, rfl, rfl, trivial⟩ ⟨_, _, _, _, rfl, H⟩
end Go.Proofs.YtoccbnhahaoeiaaGreat.V
