/- Parts of the proof of StoreApart; no condition. -/
import Derived.Test.YtjjchpaomgmmdaaGreatQStoreApart1
namespace Go.Proofs.YtjjchpaomgmmdaaGreat.V
open Go
set_option linter.unusedVariables false
set_option maxRecDepth 100000
def F.xcw (p0 : ByteArray) (p1 : ByteArray) (h : H) (Q : Int -> H -> Prop) : Prop :=
  F.xcv p0 p1 h fun r2 h1 =>
  Q r2 h1
theorem F.xcw_ok {p0 : ByteArray} {p1 : ByteArray} {h : H} {Q : Int -> H -> Prop} (H : F.xcw p0 p1 h Q) : Fn PP 49 ([(.string p0), (.string p1)] : List Value).toArray h fun r h' => ∃ r0, r = (.int .i64 r0) ∧ Q r0 h' := by
 unfold F.xcw at H;refine fn_of Tryz.func49 Tryz.ntmps49 rfl rfl fun w0 => (tr_sub [(0, (.string p0)), (1, (.string p1))] ⟨rfl, rfl, trivial⟩ (tr_seq (tr_region (tq (y_assign rfl) (tr_nil (tr_thenN (tr_seq (tr_region (tq (y_move rfl) (tq (y_move rfl) (tr_e (e_call Tryz.call90 rfl (F.xcv_ok H)) rfl rfl ?_)))))))))));rintro _ h1 ⟨r2, rfl, H⟩;refine tq (y_assign rfl) (tr_nil (tr_thenN (tr_ret ?_)));exact tr_ret1 rfl rfl ⟨_, rfl, H⟩
def F.xcf (p0 : Int) (h : H) (Q : Bool -> H -> Prop) : Prop :=
  Q ((p0 != p0)) h
theorem F.xcf_ok {p0 : Int} {h : H} {Q : Bool -> H -> Prop} (H : F.xcf p0 h Q) : Fn PP 91 ([(.int .i64 p0)] : List Value).toArray h fun r h' => ∃ r0, r = (.bool r0) ∧ Q r0 h' := by
 unfold F.xcf at H;refine fn_of Tryz.func91 Tryz.ntmps91 rfl rfl fun w0 => (tr_sub [(0, (.int .i64 p0))] ⟨rfl, trivial⟩ (tr_seq (tr_region (tq (y_assign rfl) (tr_nil (tr_thenN (tr_seq (tr_region (tq (y_move rfl) (tq (y_move rfl) (tq (y_neq rfl rfl) (tq (y_assign rfl) (tr_nil ?_)))))))))))));refine tr_thenN (tr_ret ?_);exact tr_ret1 rfl rfl ⟨_, rfl, H⟩
def F.xcs (p0 : Int) (p1 : Int) (h : H) (Q : Int -> H -> Prop) : Prop :=
  F.xcf p0 h fun r2 h1 =>
  F.xcf p1 h1 fun r4 h3 =>
  (r2 = true ->
  (r4 = true ->
  Q 0 h3) ∧
  (r4 = false ->
  Q (-1) h3)) ∧
  (r2 = false ->
  (r4 = true ->
  Q 1 h3) ∧
  (r4 = false ->
  ((decide (p0 < p1)) = true ->
  Q (-1) h3) ∧
  ((decide (p0 < p1)) = false ->
  ((decide (p0 > p1)) = true ->
  Q 1 h3) ∧
  ((decide (p0 > p1)) = false ->
  Q 0 h3))))
theorem F.xcs_ok {p0 : Int} {p1 : Int} {h : H} {Q : Int -> H -> Prop} (H : F.xcs p0 p1 h Q) : Fn PP 50 ([(.int .i64 p0), (.int .i64 p1)] : List Value).toArray h fun r h' => ∃ r0, r = (.int .i64 r0) ∧ Q r0 h' := by
 unfold F.xcs at H;refine fn_of Tryz.func50 Tryz.ntmps50 rfl rfl fun w0 => (tr_sub [(0, (.int .i64 p0)), (1, (.int .i64 p1))] ⟨rfl, rfl, trivial⟩ (tr_seq (tr_region (tq (y_assign rfl) (tr_nil (tr_thenN (tr_seq (tr_region (tq (y_move rfl) (tr_e (e_call Tryz.call91 rfl (F.xcf_ok H)) rfl rfl ?_))))))))));rintro _ h1 ⟨r2, rfl, H⟩;refine tq (y_assign rfl) (tr_nil (tr_thenN (tr_seq (tr_region (tq (y_move rfl) (tr_e (e_call Tryz.call91 rfl (F.xcf_ok H)) rfl rfl ?_))))));rintro _ h3 ⟨r4, rfl, H⟩;refine tq (y_assign rfl) (tr_nil (tr_thenN (tr_seq (tr_seq (tr_region (tq (y_move rfl) (tr_nil (tr_thenN ?_))))))));refine tr_cond rfl (fun g5 => ?_) (fun g5 => ?_)
 ·replace H := H.1 g5;refine tr_seq (tr_seq (tr_region (tq (y_move rfl) (tr_nil (tr_thenN ?_)))));refine tr_cond rfl (fun g6 => ?_) (fun g6 => ?_)
  ·replace H := H.1 g6;refine tr_seq (tr_region (tq (y_assign rfl) (tr_nil (tr_thenN (tr_ret (tr_thenR (tr_thenR ?_)))))));exact tr_ret1 rfl rfl ⟨_, rfl, H⟩
  ·replace H := H.2 g6;refine tr_skip (tr_thenN (tr_seq (tr_region (tq (y_assign rfl) (tr_nil (tr_thenN (tr_ret (tr_thenR ?_))))))));exact tr_ret1 rfl rfl ⟨_, rfl, H⟩
 ·replace H := H.2 g5;refine tr_skip (tr_thenN (tr_seq (tr_seq (tr_region (tq (y_move rfl) (tr_nil (tr_thenN ?_)))))));refine tr_cond rfl (fun g7 => ?_) (fun g7 => ?_)
  ·replace H := H.1 g7;refine tr_seq (tr_region (tq (y_assign rfl) (tr_nil (tr_thenN (tr_ret (tr_thenR ?_))))));exact tr_ret1 rfl rfl ⟨_, rfl, H⟩
  ·replace H := H.2 g7;refine tr_skip (tr_thenN (tr_seq (tr_seq (tr_region (tq (y_move rfl) (tq (y_move rfl) (tq (y_lss rfl rfl) (tr_nil (tr_thenN ?_)))))))));refine tr_cond rfl (fun g8 => ?_) (fun g8 => ?_)
   ·replace H := H.1 g8;refine tr_seq (tr_region (tq (y_assign rfl) (tr_nil (tr_thenN (tr_ret (tr_thenR ?_))))));exact tr_ret1 rfl rfl ⟨_, rfl, H⟩
   ·replace H := H.2 g8;refine tr_skip (tr_thenN (tr_seq (tr_seq (tr_region (tq (y_move rfl) (tq (y_move rfl) (tq (y_gtr rfl rfl) (tr_nil (tr_thenN ?_)))))))));refine tr_cond rfl (fun g9 => ?_) (fun g9 => ?_)
    ·replace H := H.1 g9;refine tr_seq (tr_region (tq (y_assign rfl) (tr_nil (tr_thenN (tr_ret (tr_thenR ?_))))));exact tr_ret1 rfl rfl ⟨_, rfl, H⟩
    ·replace H := H.2 g9;refine tr_skip (tr_thenN (tr_seq (tr_region (tq (y_assign rfl) (tr_nil (tr_thenN (tr_ret ?_)))))));exact tr_ret1 rfl rfl ⟨_, rfl, H⟩
def F.xam.l1 (Q : Int -> H -> Prop) : Nat -> Int -> Sl -> Int -> Int -> H -> Prop
  | 0, _, _, _, _, _ => False
  | q1 + 1, x3, x6, x7, x8, h =>
    ((decide (x8 < x7)) = true ->
    idxA x6 x8 1 fun a2 =>
    ldI .i64 h a2 fun y4 =>
    (((y4 != x3)) = true ->
    Q y4 h) ∧
    (((y4 != x3)) = false ->
    (F.xam.l1 Q q1) x3 x6 x7 (IntKind.wrap .i64 (x8 + 1)) h)) ∧
    ((decide (x8 < x7)) = false ->
    Q x3 h)
def F.xam (p0 : Sl) (h : H) (Q : Int -> H -> Prop) : Prop :=
  ∃ m, F.xam.l1 Q m 0 p0 (p0.len : Int) 0 h
theorem F.xam_ok {p0 : Sl} {h : H} {Q : Int -> H -> Prop} (H : F.xam p0 h Q) : Fn PP 47 ([p0.enc] : List Value).toArray h fun r h' => ∃ r0, r = (.int .i64 r0) ∧ Q r0 h' := by
 unfold F.xam at H;refine fn_of Tryz.func47 Tryz.ntmps47 rfl rfl fun w0 => (tr_sub [(0, p0.enc)] ⟨rfl, trivial⟩ (tr_seq (tr_region (tq (y_assign rfl) (tr_nil (tr_thenN (tr_seq (tr_region (tq (y_assign rfl) (tr_nil (tr_thenN (tr_seq (tr_seq ?_)))))))))))));refine tr_region (tq (y_move rfl) (tq (y_len (ts := #[]) Tryz.runUnderlying42 (o := p0.ptr) (n := p0.len) (cap := p0.cap) rfl) (tq (y_move rfl) (tr_nil (tr_thenN (tr_block ?_))))));obtain ⟨m7, H⟩ := H;refine tr_sub [(3, (.int .i64 0)), (6, p0.enc), (7, (.int .i64 (p0.len : Int))), (8, (.int .i64 0))] ⟨rfl, rfl, rfl, rfl, trivial⟩ ?_;refine tr_loop_j (fun m L' h => ∃ (x3 : Int) (x6 : Sl) (x7 : Int) (x8 : Int), L' = [(3, (.int .i64 x3)), (6, x6.enc), (7, (.int .i64 x7)), (8, (.int .i64 x8))] ∧ F.xam.l1 Q m x3 x6 x7 x8 h) ?_ ?_ m7 ⟨_, _, _, _, rfl, H⟩
 ·rintro L' h ⟨_, _, _, _, _, H⟩; exact H
 ·rintro q1 L' h ⟨x3, x6, x7, x8, rfl, H⟩;unfold F.xam.l1 at H;refine tr_seq (tr_region (tq (y_lss rfl rfl) (tr_nil (tr_thenN (tr_seq ?_)))));refine tr_cond rfl (fun g1 => ?_) (fun g1 => ?_)
  ·replace H := H.1 g1;refine tr_skip (tr_thenN (tr_seq (tr_block (tr_seq (tr_region ?_)))));obtain ⟨a2, e3, H⟩ := H;refine tq (f_idx (s := x6) Tryz.runUnderlying42 Tryz.sizeOf3 rfl rfl e3) ?_;obtain ⟨y4, k5, H⟩ := H;refine tr_h (y_ld Tryz.isAgg3 rfl) k5 rfl rfl (tq (y_assign rfl) (tr_nil (tr_thenN (tr_seq (tr_region (tq (y_move rfl) (tq (y_move rfl) (tq (y_neq rfl rfl) (tr_nil (tr_thenN ?_))))))))));refine tr_cond rfl (fun g6 => ?_) (fun g6 => ?_)
   ·replace H := H.1 g6;refine tr_seq (tr_region (tq (y_move rfl) (tq (y_assign rfl) (tr_nil (tr_thenN (tr_ret (tr_blockR (tr_thenR (tr_thenR (tr_blockR (tr_thenR ?_)))))))))));exact tr_ret1 rfl rfl ⟨_, rfl, H⟩
   ·replace H := H.2 g6;refine tr_skip (tr_blockN (tr_thenN (tr_region (tq (y_add rfl rfl) (tq (y_move rfl) (tr_nil (tr_thenN ?_)))))));exact tr_join [(3, (.int .i64 x3)), (6, x6.enc), (7, (.int .i64 x7)), (8, (.int .i64 (IntKind.wrap .i64 (x8 + 1))))] ⟨rfl, rfl, rfl, rfl, trivial⟩ ⟨_, _, _, _, rfl, H⟩
  ·replace H := H.2 g1;refine tr_exit (tr_thenE (tr_thenE (tr_hit (tr_thenN (tr_seq (tr_region (tq (y_move rfl) (tq (y_assign rfl) (tr_nil (tr_thenN (tr_ret ?_)))))))))));exact tr_ret1 rfl rfl ⟨_, rfl, H⟩
def F.xbu (p0 : S_api_Cell) (p1 : S_api_Cell) (h : H) (Q : Int -> H -> Prop) : Prop :=
  new h p0.cells.toArray ty_35 fun a2 h1 =>
  new h1 p1.cells.toArray ty_35 fun a4 h3 =>
  ldI .i64 h3 (a2.add 0) fun y5 =>
  ldI .i64 h3 (a4.add 0) fun y7 =>
  ldS h3 (a2.add 1) fun y9 =>
  ldS h3 (a4.add 1) fun y11 =>
  ldI .i64 h3 (a2.add 2) fun y13 =>
  ldI .i64 h3 (a4.add 2) fun y15 =>
  F.xba y5 y7 h3 fun r18 h17 =>
  cellH h17 (a4.add 2) = some (.int .i64 y15) ∧
  cellH h17 (a2.add 2) = some (.int .i64 y13) ∧
  cellH h17 (a4.add 1) = some (.string y11) ∧
  cellH h17 (a2.add 1) = some (.string y9) ∧
  F.xcw y9 y11 h17 fun r24 h23 =>
  cellH h23 (a4.add 2) = some (.int .i64 y15) ∧
  cellH h23 (a2.add 2) = some (.int .i64 y13) ∧
  F.xcs y13 y15 h23 fun r28 h27 =>
  newL h27 #[(.int .i64 r18), (.int .i64 r24), (.int .i64 r28)] ty_3 3 fun s30 h29 =>
  F.xam s30 h29 fun r32 h31 =>
  Q r32 h31
theorem F.xbu_ok {p0 : S_api_Cell} {p1 : S_api_Cell} {h : H} {Q : Int -> H -> Prop} (H : F.xbu p0 p1 h Q) : Fn PP 17 ([(.agg p0.cells.toArray), (.agg p1.cells.toArray)] : List Value).toArray h fun r h' => ∃ r0, r = (.int .i64 r0) ∧ Q r0 h' := by
 unfold F.xbu at H;refine fn_of Tryz.func17 Tryz.ntmps17 rfl rfl fun w0 => (tr_sub [(0, (.agg p0.cells.toArray)), (1, (.agg p1.cells.toArray))] ⟨rfl, rfl, trivial⟩ (tr_seq (tr_region (tr_e (f_box (cs := p0.cells.toArray) rfl rfl H) rfl rfl ?_))));rintro _ h1 ⟨a2, rfl, H⟩;refine tr_e (f_box (cs := p1.cells.toArray) rfl rfl H) rfl rfl ?_;rintro _ h3 ⟨a4, rfl, H⟩;refine tq (y_assign rfl) (tr_nil (tr_thenN (tr_seq (tr_draw mixed [0, 1, 0, 4, 15, 0, 32, 0, 128, 511, 0, 1024, 0, 4096, 16383, 32767, 65535, 131071] (by kernel_rfl) (g_p 0 1 rfl (by kernel_rfl) (y_fa (off := 0) Tryz.runUnderlying35 fo_35_0 rfl) rfl rfl ?_)))));obtain ⟨y5, k6, H⟩ := H;refine g_h 1 3 rfl (by kernel_rfl) (y_ld Tryz.isAgg3 rfl) k6 rfl rfl (g_p 2 7 rfl (by kernel_rfl) (y_fa (off := 0) Tryz.runUnderlying35 fo_35_0 rfl) rfl rfl ?_);obtain ⟨y7, k8, H⟩ := H;refine g_h 3 15 rfl (by kernel_rfl) (y_ld Tryz.isAgg3 rfl) k8 rfl rfl (g_p 5 47 rfl (by kernel_rfl) (y_fa (off := 1) Tryz.runUnderlying35 fo_35_1 rfl) rfl rfl ?_);obtain ⟨y9, k10, H⟩ := H;refine g_h 6 111 rfl (by kernel_rfl) (y_ld Tryz.isAgg9 rfl) k10 rfl rfl (g_p 7 239 rfl (by kernel_rfl) (y_fa (off := 1) Tryz.runUnderlying35 fo_35_1 rfl) rfl rfl ?_);obtain ⟨y11, k12, H⟩ := H;refine g_h 8 495 rfl (by kernel_rfl) (y_ld Tryz.isAgg9 rfl) k12 rfl rfl (g_p 10 1519 rfl (by kernel_rfl) (y_fa (off := 2) Tryz.runUnderlying35 fo_35_2 rfl) rfl rfl ?_);obtain ⟨y13, k14, H⟩ := H;refine g_h 11 3567 rfl (by kernel_rfl) (y_ld Tryz.isAgg2 rfl) k14 rfl rfl (g_p 12 7663 rfl (by kernel_rfl) (y_fa (off := 2) Tryz.runUnderlying35 fo_35_2 rfl) rfl rfl ?_);obtain ⟨y15, k16, H⟩ := H;refine g_h 13 15855 rfl (by kernel_rfl) (y_ld Tryz.isAgg2 rfl) k16 rfl rfl (g_e 4 15871 [(13, fun h => cellH h (a4.add 2) = some (.int .i64 y15)), (11, fun h => cellH h (a2.add 2) = some (.int .i64 y13)), (8, fun h => cellH h (a4.add 1) = some (.string y11)), (6, fun h => cellH h (a2.add 1) = some (.string y9))] (by kernel_rfl) rfl (by kernel_rfl) (e_call Tryz.call48 rfl (F.xba_ok H)) rfl rfl ?_);rintro _ h17 ⟨r18, rfl, H⟩;obtain ⟨k19, k20, k21, k22, H⟩ := H;refine ⟨And.intro k19 (And.intro k20 (And.intro k21 (And.intro k22 trivial))), ?_⟩;refine g_e 9 16383 [(13, fun h => cellH h (a4.add 2) = some (.int .i64 y15)), (11, fun h => cellH h (a2.add 2) = some (.int .i64 y13))] (by kernel_rfl) rfl (by kernel_rfl) (e_call Tryz.call49 rfl (F.xcw_ok H)) rfl rfl ?_;rintro _ h23 ⟨r24, rfl, H⟩;obtain ⟨k25, k26, H⟩ := H;refine ⟨And.intro k25 (And.intro k26 trivial), ?_⟩;refine g_e 14 32767 [] (by kernel_rfl) rfl (by kernel_rfl) (e_call Tryz.call50 rfl (F.xcs_ok H)) rfl rfl ?_;rintro _ h27 ⟨r28, rfl, H⟩;refine ⟨trivial, ?_⟩;refine g_e 15 65535 [] (by kernel_rfl) rfl (by kernel_rfl) (f_buildL (cs := #[(.int .i64 r18), (.int .i64 r24), (.int .i64 r28)]) rfl rfl (bl_42_3_0_1_2 r18 r24 r28) H) rfl rfl ?_;rintro _ h29 ⟨s30, rfl, H⟩;refine ⟨trivial, ?_⟩;refine g_e 16 131071 [] (by kernel_rfl) rfl (by kernel_rfl) (e_call Tryz.call47 rfl (F.xam_ok H)) rfl rfl ?_;rintro _ h31 ⟨r32, rfl, H⟩;refine ⟨trivial, ?_⟩;refine g_p 17 262143 rfl (by kernel_rfl) (y_assign rfl) rfl rfl (g_d (by kernel_rfl) (tr_thenN (tr_ret ?_)));exact tr_ret1 rfl rfl ⟨_, rfl, H⟩
def F.xcy (p0 : S_api_Cell) (p1 : Addr) (p2 : Addr) (h : H) (Q : Bool -> H -> Prop) : Prop :=
  new h p0.cells.toArray ty_35 fun a2 h1 =>
  ld_S_api_Cell h1 p1 fun y3 =>
  ld_S_api_Cell h1 a2 fun y5 =>
  F.xbu y3 y5 h1 fun r8 h7 =>
  ((decide (r8 <= 0)) = true ->
  ld_S_api_Cell h7 a2 fun y10 =>
  ld_S_api_Cell h7 p2 fun y12 =>
  F.xbu y10 y12 h7 fun r15 h14 =>
  Q (decide (r15 < 0)) h14) ∧
  ((decide (r8 <= 0)) = false ->
  Q false h7)
theorem F.xcy_ok {p0 : S_api_Cell} {p1 : Addr} {p2 : Addr} {h : H} {Q : Bool -> H -> Prop} (H : F.xcy p0 p1 p2 h Q) : Fn PP 72 ([(.agg p0.cells.toArray), (.pointer (some p1)), (.pointer (some p2))] : List Value).toArray h fun r h' => ∃ r0, r = (.bool r0) ∧ Q r0 h' := by
 unfold F.xcy at H;refine fn_of Tryz.func72 Tryz.ntmps72 rfl rfl fun w0 => (tr_sub [(0, (.agg p0.cells.toArray)), (1, (.pointer (some p1))), (2, (.pointer (some p2)))] ⟨rfl, rfl, rfl, trivial⟩ (tr_seq (tr_region (tr_e (f_box (cs := p0.cells.toArray) rfl rfl H) rfl rfl ?_))));rintro _ h1 ⟨a2, rfl, H⟩;refine tq (y_assign rfl) (tr_nil (tr_thenN (tr_seq (tr_region ?_))));obtain ⟨y3, k4, H⟩ := H;refine tr_h (y_ldS Tryz.isAgg35 Tryz.sizeOf35 rfl rfl) k4 rfl rfl ?_;obtain ⟨y5, k6, H⟩ := H;refine tr_h (y_ldS Tryz.isAgg35 Tryz.sizeOf35 rfl rfl) k6 rfl rfl (tr_e (e_call Tryz.call17 rfl (F.xbu_ok H)) rfl rfl ?_);rintro _ h7 ⟨r8, rfl, H⟩;refine tq (y_leq rfl rfl) (tq (y_move rfl) ?_);refine tr_split (t := 9) rfl (fun g9 => ?_) (fun g9 => ?_)
 ·replace H := H.1 g9;obtain ⟨y10, k11, H⟩ := H;refine tr_h (y_ldS Tryz.isAgg35 Tryz.sizeOf35 rfl rfl) k11 rfl rfl ?_;obtain ⟨y12, k13, H⟩ := H;refine tr_h (y_ldS Tryz.isAgg35 Tryz.sizeOf35 rfl rfl) k13 rfl rfl (tr_e (e_call Tryz.call17 rfl (F.xbu_ok H)) rfl rfl ?_);rintro _ h14 ⟨r15, rfl, H⟩;refine tq (y_lss rfl rfl) (tq (y_pick_t rfl rfl) (tq (y_assign rfl) (tr_nil (tr_thenN (tr_ret ?_)))));exact tr_ret1 rfl rfl ⟨_, rfl, H⟩
 ·replace H := H.2 g9;refine ts (ts (ts (ts (tq (y_pick_f rfl rfl) (tq (y_assign rfl) (tr_nil (tr_thenN (tr_ret ?_))))))));exact tr_ret1 rfl rfl ⟨_, rfl, H⟩
def F.xbq.l1 (Q : H -> Prop) : Nat -> Value -> Addr -> H -> Prop
  | 0, _, _, _ => False
  | q1 + 1, x0, x5, h =>
    RunS PP (Instr.next (.pointer (some x5)) false 0) h fun u h5 => ∃ (b6 : Bool) (t7 : Array Value), u = (.tuple (#[.bool b6] ++ t7)) ∧
    (b6 = true ->
    RunS PP (Instr.entry (.pointer (some x5))) h5 fun u h9 => ∃ (r10 : ByteArray) (r11 : Option Addr), u = (.tuple #[(.string r10), (.pointer r11)]) ∧
    CV PP x0 [(.string r10)] h9 fun u h12 => ∃ (r13 : Bool), u = (.bool r13) ∧
    ((!r13) = true ->
    Q h12) ∧
    ((!r13) = false ->
    (F.xbq.l1 Q q1) x0 x5 h12)) ∧
    (b6 = false ->
    Q h5)
def F.xbq (p0 : Value) (p1 : Addr) (h : H) (Q : H -> Prop) : Prop :=
  ldM h p1 fun y1 =>
  RunS PP (Instr.range 153 (.map y1)) h fun u h3 => ∃ a4 : Addr, u = (.pointer (some a4)) ∧
  ∃ m, F.xbq.l1 Q m p0 a4 h3
theorem F.xbq_ok {p0 : Value} {p1 : Addr} {h : H} {Q : H -> Prop} (H : F.xbq p0 p1 h Q) : Fn PP 125 ([p0, (.pointer (some p1))] : List Value).toArray h fun r h' => r = .tuple #[] ∧ Q  h' := by
 unfold F.xbq at H;refine fn_of Tryz.func125 Tryz.ntmps125 rfl rfl fun w0 => (tr_sub [(0, p0), (1, (.pointer (some p1)))] ⟨rfl, rfl, trivial⟩ (tr_seq (tr_region ?_)));obtain ⟨y1, k2, H⟩ := H;refine tr_h (y_ld Tryz.isAgg153 rfl) k2 rfl rfl (tr_e (f_rg rfl H) rfl rfl ?_);rintro _ h3 ⟨a4, rfl, H⟩;refine tr_nil (tr_thenN (tr_block ?_));obtain ⟨m15, H⟩ := H;refine tr_sub [(0, p0), (5, (.pointer (some a4)))] ⟨rfl, rfl, trivial⟩ ?_;refine tr_loop_j (fun m L' h => ∃ (x0 : Value) (x5 : Addr), L' = [(0, x0), (5, (.pointer (some x5)))] ∧ F.xbq.l1 Q m x0 x5 h) ?_ ?_ m15 ⟨_, _, rfl, H⟩
 ·rintro L' h ⟨_, _, _, H⟩; exact H
 ·rintro q1 L' h ⟨x0, x5, rfl, H⟩;unfold F.xbq.l1 at H;refine tr_seq (tr_region (tr_e (f_nx rfl H) rfl rfl ?_));rintro _ h5 ⟨b6, t7, rfl, H⟩;refine tq (y_ext0 (t := t7) rfl) (tr_nil (tr_thenN (tr_seq ?_)));refine tr_cond rfl (fun g8 => ?_) (fun g8 => ?_)
  ·replace H := H.1 g8;refine tr_skip (tr_thenN (tr_block (tr_seq (tr_region (tr_e (f_en rfl H) rfl rfl ?_)))));rintro _ h9 ⟨r10, r11, rfl, H⟩;refine tq (y_ext rfl rfl) (tq (y_assign rfl) (tr_nil (tr_thenN (tr_seq (tr_region (tq (y_move rfl) (tq (y_move rfl) (tr_e (e_callD rfl rfl H) rfl rfl ?_))))))));rintro _ h12 ⟨r13, rfl, H⟩;refine tq (y_not rfl) (tr_nil (tr_thenN ?_));refine tr_cond rfl (fun g14 => ?_) (fun g14 => ?_)
   ·replace H := H.1 g14;refine tr_ret (tr_blockR (tr_thenR (tr_blockR ?_)));exact tr_ret0 rfl ⟨rfl, H⟩
   ·replace H := H.2 g14;refine tr_skip (tr_blockN (tr_thenN ?_));exact tr_join [(0, x0), (5, (.pointer (some x5)))] ⟨rfl, rfl, trivial⟩ ⟨_, _, rfl, H⟩
  ·replace H := H.2 g8;refine tr_exit (tr_thenE (tr_thenE (tr_hit ?_)));exact tr_end0 rfl ⟨rfl, H⟩
def F.xas (p0 : Option Nat) (h : H) (Q : Value -> H -> Prop) : Prop :=
  new h #[(.map p0)] ty_153 fun a2 h1 =>
  Q (.func (.func 125) #[] #[(.pointer (some a2))]) h1
theorem F.xas_ok {p0 : Option Nat} {h : H} {Q : Value -> H -> Prop} (H : F.xas p0 h Q) : Fn PP 98 ([(.map p0)] : List Value).toArray h fun r h' => ∃ r0, r = r0 ∧ Q r0 h' := by
 unfold F.xas at H;refine fn_of Tryz.func98 Tryz.ntmps98 rfl rfl fun w0 => (tr_sub [(0, (.map p0))] ⟨rfl, trivial⟩ (tr_seq (tr_region (tr_e (f_box (cs := #[(.map p0)]) rfl rfl H) rfl rfl ?_))));rintro _ h1 ⟨a2, rfl, H⟩;refine tq (y_assign rfl) (tr_nil (tr_thenN (tr_seq (tr_region (tq (y_fn rfl rfl) (tq (y_assign rfl) (tr_nil (tr_thenN (tr_ret ?_)))))))));exact tr_ret1 rfl rfl ⟨_, rfl, H⟩
def F.xcr (p0 : Sl) (p1 : Value) (h : H) (Q : Sl -> H -> Prop) : Prop :=
  new h #[p0.enc] ty_22 fun a2 h1 =>
  rng PP p1 h1 [] (fun bg1 l1 args h K1 J1 => ∃ (y1_7 : ByteArray), args = [(.string y1_7)] ∧
    bg1 h fun h3 =>
    ldL h3 a2 fun y4 =>
    newL h3 #[(.string y1_7)] ty_9 1 fun s7 h6 =>
    runL PP (Builtin.append_ #[22, 22] 22 #[y4.enc, s7.enc]) h6 fun s9 h8 =>
    stH h8 a2 [s9.enc] fun h10 =>
    K1 h10) (fun h11 =>
    ldL h11 a2 fun y12 =>
    shuts (h1.size :: ([] : List Nat)) h11 fun h14 =>
    Q y12 h14) (fun jj h15 =>
    True)
theorem F.xcr_ok {p0 : Sl} {p1 : Value} {h : H} {Q : Sl -> H -> Prop} (H : F.xcr p0 p1 h Q) : Fn PP 143 ([p0.enc, p1] : List Value).toArray h fun r h' => ∃ r0, r = r0.enc ∧ Q r0 h' := by
 unfold F.xcr at H;refine fn_ofM Tryz.func143 Tryz.ntmps143 rfl rfl fun w0 => (tr_sub [(0, p0.enc), (1, p1)] ⟨rfl, rfl, trivial⟩ (tr_seq (tr_region (tr_e (f_box (cs := #[p0.enc]) rfl rfl H) rfl rfl ?_))));rintro _ h1 ⟨a2, rfl, H⟩;refine tq (y_assign rfl) (tr_nil (tr_thenN (tr_seq (tr_seq (tr_region (tq (y_move rfl) (tr_nil (tr_thenN (tr_block ?_)))))))));refine tr_range rfl (by kernel_rfl) H ?_ ?_ ?_
 ·intro bg1 l1 args h K1 J1 w1 hbg1 H;obtain ⟨y1_7, rfl, H⟩ := H;refine ⟨rfl, ?_⟩;refine tr_sub [(0, p0.enc), (1, p1), (2, (.pointer (some a2))), (4, (⟨none, 0, 0⟩ : Sl).enc), (6, p1), (7, (.string y1_7))] ⟨rfl, rfl, rfl, rfl, rfl, rfl, trivial⟩ (tr_region (tq (y_assign rfl) (tr_nil (tr_thenN (tr_bgn hbg1 H fun h3 H => (tr_block (tr_region ?_)))))));obtain ⟨y4, k5, H⟩ := H;refine tr_h (y_ld Tryz.isAgg22 rfl) k5 rfl rfl (tq (y_move rfl) (tr_e (f_buildL (cs := #[(.string y1_7)]) rfl rfl (bl_22_1_0 y1_7) H) rfl rfl ?_));rintro _ h6 ⟨s7, rfl, H⟩;refine tr_e (f_app rfl H) rfl rfl ?_;rintro _ h8 ⟨s9, rfl, H⟩;refine tr_e (f_store (vs := [s9.enc]) Tryz.sizeOf22 rfl rfl rfl rfl (one1 rfl) H) rfl rfl ?_;rintro _ h10 ⟨rfl, H⟩;refine tr_nil (tr_blockN ?_);exact tr_rN H
 ·intro h11 H;refine tr_blockN (tr_thenN (tr_seq (tr_region ?_)));obtain ⟨y12, k13, H⟩ := H;refine tr_h (y_ld Tryz.isAgg22 rfl) k13 rfl rfl (tq (y_assign rfl) (tr_nil (tr_thenN (tr_ret (tr_shut (h1.size :: ([] : List Nat)) rfl H fun h14 H => ?_)))));exact tr_ret1 rfl rfl ⟨_, rfl, H⟩
 ·intro jj c h15 hjc H;simp at hjc
def F.xcx (p0 : Value) (h : H) (Q : Sl -> H -> Prop) : Prop :=
  F.xcr (⟨none, 0, 0⟩ : Sl) p0 h fun r2 h1 =>
  Q r2 h1
theorem F.xcx_ok {p0 : Value} {h : H} {Q : Sl -> H -> Prop} (H : F.xcx p0 h Q) : Fn PP 123 ([p0] : List Value).toArray h fun r h' => ∃ r0, r = r0.enc ∧ Q r0 h' := by
 unfold F.xcx at H;refine fn_of Tryz.func123 Tryz.ntmps123 rfl rfl fun w0 => (tr_sub [(0, p0)] ⟨rfl, trivial⟩ (tr_seq (tr_region (tq (y_assign rfl) (tr_nil (tr_thenN (tr_seq (tr_region (tq (y_move rfl) (tr_e (e_call Tryz.call143 rfl (F.xcr_ok H)) rfl rfl ?_))))))))));rintro _ h1 ⟨r2, rfl, H⟩;refine tq (y_assign rfl) (tr_nil (tr_thenN (tr_ret ?_)));exact tr_ret1 rfl rfl ⟨_, rfl, H⟩
def F.xch (p0 : Value) (h : H) (Q : Sl -> H -> Prop) : Prop :=
  F.xcx p0 h fun r2 h1 =>
  Fn PP 124 [r2.enc].toArray h1 fun u h3 => u = (.tuple #[]) ∧
  Q r2 h3
theorem F.xch_ok {p0 : Value} {h : H} {Q : Sl -> H -> Prop} (H : F.xch p0 h Q) : Fn PP 97 ([p0] : List Value).toArray h fun r h' => ∃ r0, r = r0.enc ∧ Q r0 h' := by
 unfold F.xch at H;refine fn_of Tryz.func97 Tryz.ntmps97 rfl rfl fun w0 => (tr_sub [(0, p0)] ⟨rfl, trivial⟩ (tr_seq (tr_region (tq (y_assign rfl) (tr_nil (tr_thenN (tr_seq (tr_region (tq (y_move rfl) (tr_e (e_call Tryz.call123 rfl (F.xcx_ok H)) rfl rfl ?_))))))))));rintro _ h1 ⟨r2, rfl, H⟩;refine tq (y_assign rfl) (tr_nil (tr_thenN (tr_seq (tr_region (tq (y_move rfl) (tr_e (e_call Tryz.call124 rfl H) rfl rfl ?_))))));rintro _ h3 ⟨rfl, H⟩;refine tr_nil (tr_thenN (tr_seq (tr_region (tq (y_move rfl) (tq (y_assign rfl) (tr_nil (tr_thenN (tr_ret ?_))))))));exact tr_ret1 rfl rfl ⟨_, rfl, H⟩
def F.xbo.l1 (Q : H -> Prop) : Nat -> Value -> Addr -> Sl -> Int -> Int -> H -> Prop
  | 0, _, _, _, _, _, _ => False
  | q1 + 1, x0, x2, x6, x7, x8, h =>
    ((decide (x8 < x7)) = true ->
    idxA x6 x8 1 fun a4 =>
    ldS h a4 fun y6 =>
    ldM h x2 fun y8 =>
    RunS PP (Instr.lookup 153 (.map y8) (.string y6) false) h fun u h10 => ∃ r11 : Option Addr, u = (.pointer r11) ∧
    CV PP x0 [(.string y6), (.pointer r11)] h10 fun u h12 => ∃ (r13 : Bool), u = (.bool r13) ∧
    ((!r13) = true ->
    Q h12) ∧
    ((!r13) = false ->
    (F.xbo.l1 Q q1) x0 x2 x6 x7 (IntKind.wrap .i64 (x8 + 1)) h12)) ∧
    ((decide (x8 < x7)) = false ->
    Q h)
def F.xbo (p0 : Value) (p1 : Addr) (p2 : Addr) (h : H) (Q : H -> Prop) : Prop :=
  ldL h p1 fun y1 =>
  ∃ m, F.xbo.l1 Q m p0 p2 y1 (y1.len : Int) 0 h
theorem F.xbo_ok {p0 : Value} {p1 : Addr} {p2 : Addr} {h : H} {Q : H -> Prop} (H : F.xbo p0 p1 p2 h Q) : Fn PP 99 ([p0, (.pointer (some p1)), (.pointer (some p2))] : List Value).toArray h fun r h' => r = .tuple #[] ∧ Q  h' := by
 unfold F.xbo at H;refine fn_of Tryz.func99 Tryz.ntmps99 rfl rfl fun w0 => (tr_sub [(0, p0), (1, (.pointer (some p1))), (2, (.pointer (some p2)))] ⟨rfl, rfl, rfl, trivial⟩ (tr_seq (tr_region ?_)));obtain ⟨y1, k2, H⟩ := H;refine tr_h (y_ld Tryz.isAgg22 rfl) k2 rfl rfl (tq (y_len (ts := #[]) Tryz.runUnderlying22 (o := y1.ptr) (n := y1.len) (cap := y1.cap) rfl) (tq (y_move rfl) (tr_nil (tr_thenN (tr_block ?_)))));obtain ⟨m15, H⟩ := H;refine tr_sub [(0, p0), (2, (.pointer (some p2))), (6, y1.enc), (7, (.int .i64 (y1.len : Int))), (8, (.int .i64 0))] ⟨rfl, rfl, rfl, rfl, rfl, trivial⟩ ?_;refine tr_loop_j (fun m L' h => ∃ (x0 : Value) (x2 : Addr) (x6 : Sl) (x7 : Int) (x8 : Int), L' = [(0, x0), (2, (.pointer (some x2))), (6, x6.enc), (7, (.int .i64 x7)), (8, (.int .i64 x8))] ∧ F.xbo.l1 Q m x0 x2 x6 x7 x8 h) ?_ ?_ m15 ⟨_, _, _, _, _, rfl, H⟩
 ·rintro L' h ⟨_, _, _, _, _, _, H⟩; exact H
 ·rintro q1 L' h ⟨x0, x2, x6, x7, x8, rfl, H⟩;unfold F.xbo.l1 at H;refine tr_seq (tr_region (tq (y_lss rfl rfl) (tr_nil (tr_thenN (tr_seq ?_)))));refine tr_cond rfl (fun g3 => ?_) (fun g3 => ?_)
  ·replace H := H.1 g3;refine tr_skip (tr_thenN (tr_seq (tr_block (tr_seq (tr_region ?_)))));obtain ⟨a4, e5, H⟩ := H;refine tq (f_idx (s := x6) Tryz.runUnderlying22 Tryz.sizeOf9 rfl rfl e5) ?_;obtain ⟨y6, k7, H⟩ := H;refine tr_h (y_ld Tryz.isAgg9 rfl) k7 rfl rfl (tq (y_assign rfl) (tr_nil (tr_thenN (tr_seq (tr_region (tq (y_move rfl) (tq (y_move rfl) ?_)))))));obtain ⟨y8, k9, H⟩ := H;refine tr_h (y_ld Tryz.isAgg153 rfl) k9 rfl rfl (tq (y_move rfl) (tr_e (f_lk rfl rfl H) rfl rfl ?_));rintro _ h10 ⟨r11, rfl, H⟩;refine tr_e (e_callD rfl rfl H) rfl rfl ?_;rintro _ h12 ⟨r13, rfl, H⟩;refine tq (y_not rfl) (tr_nil (tr_thenN ?_));refine tr_cond rfl (fun g14 => ?_) (fun g14 => ?_)
   ·replace H := H.1 g14;refine tr_ret (tr_blockR (tr_thenR (tr_thenR (tr_blockR ?_))));exact tr_ret0 rfl ⟨rfl, H⟩
   ·replace H := H.2 g14;refine tr_skip (tr_blockN (tr_thenN (tr_region (tq (y_add rfl rfl) (tq (y_move rfl) (tr_nil (tr_thenN ?_)))))));exact tr_join [(0, x0), (2, (.pointer (some x2))), (6, x6.enc), (7, (.int .i64 x7)), (8, (.int .i64 (IntKind.wrap .i64 (x8 + 1))))] ⟨rfl, rfl, rfl, rfl, rfl, trivial⟩ ⟨_, _, _, _, _, rfl, H⟩
  ·replace H := H.2 g3;refine tr_exit (tr_thenE (tr_thenE (tr_hit ?_)));exact tr_end0 rfl ⟨rfl, H⟩
def F.xad.l2 (Q : Value -> H -> Prop) (C1 : Addr -> Sl -> Int -> Int -> H -> Prop) : Nat -> Addr -> Sl -> Int -> Int -> Sl -> Int -> Int -> H -> Prop
  | 0, _, _, _, _, _, _, _, _ => False
  | q2 + 1, x3, x22, x23, x24, x28, x29, x30, h =>
    ((decide (x30 < x29)) = true ->
    idxA x28 x30 3 fun a26 =>
    ld_S_table_place_chain_Chain_api_Agg h a26 fun y28 =>
    new h (((⟨0, (⟨#[]⟩ : ByteArray), none⟩ : S_table_place_chain_Chain_api_Agg) : S_table_place_chain_Chain_api_Agg).cells.toArray) ty_156 fun a31 h30 =>
    stH h30 a31 y28.cells fun h32 =>
    ldI .u8 h32 (a31.add 0) fun y33 =>
    (((y33 == 1)) = true ->
    ldM h32 x3 fun y36 =>
    ldS h32 (a31.add 1) fun y38 =>
    ldP h32 (a31.add 2) fun y40 =>
    RunS PP (Instr.mapUpdate 153 (.map y36) (.string y38) (.pointer y40)) h32 fun _ h42 =>
    (F.xad.l2 Q C1 q2) x3 x22 x23 x24 x28 x29 (IntKind.wrap .i64 (x30 + 1)) h42) ∧
    (((y33 == 1)) = false ->
    (F.xad.l2 Q C1 q2) x3 x22 x23 x24 x28 x29 (IntKind.wrap .i64 (x30 + 1)) h32)) ∧
    ((decide (x30 < x29)) = false ->
    C1 x3 x22 x23 (IntKind.wrap .i64 (x24 + 1)) h)
def F.xad.l1 (Q : Value -> H -> Prop) : Nat -> Addr -> Sl -> Int -> Int -> H -> Prop
  | 0, _, _, _, _, _ => False
  | q1 + 1, x3, x22, x23, x24, h =>
    ((decide (x24 < x23)) = true ->
    idxA x22 x24 1 fun a21 =>
    ldL h a21 fun y23 =>
    ∃ m, F.xad.l2 Q (F.xad.l1 Q q1) m x3 x22 x23 x24 y23 (y23.len : Int) 0 h) ∧
    ((decide (x24 < x23)) = false ->
    ldM h x3 fun y44 =>
    F.xas y44 h fun r47 h46 =>
    F.xch r47 h46 fun r49 h48 =>
    new h48 #[(⟨none, 0, 0⟩ : Sl).enc] ty_22 fun a51 h50 =>
    stH h50 a51 [r49.enc] fun h52 =>
    Q (.func (.func 99) #[] #[(.pointer (some a51)), (.pointer (some x3))]) h52)
def F.xad (p0 : Option Addr) (h : H) (Q : Value -> H -> Prop) : Prop :=
  nn p0 fun a1 =>
  ldI .i64 h (a1.add 3) fun y3 =>
  RunS PP (Instr.makeMap 153 (some (.int .i64 y3))) h fun u h5 => ∃ m6 : Option Nat, u = (.map m6) ∧
  new h5 #[(.map none)] ty_153 fun a8 h7 =>
  stH h7 a8 [(.map m6)] fun h9 =>
  nn p0 fun a10 =>
  ldL h9 (a10.add 0) fun y12 =>
  nn p0 fun a14 =>
  ldL h9 (a14.add 1) fun y16 =>
  newL h9 #[y12.enc, y16.enc] ty_146 2 fun s19 h18 =>
  ∃ m, F.xad.l1 Q m a8 s19 (s19.len : Int) 0 h18
theorem F.xad_ok {p0 : Option Addr} {h : H} {Q : Value -> H -> Prop} (H : F.xad p0 h Q) : Fn PP 59 ([(.pointer p0)] : List Value).toArray h fun r h' => ∃ r0, r = r0 ∧ Q r0 h' := by
 unfold F.xad at H;refine fn_of Tryz.func59 Tryz.ntmps59 rfl rfl fun w0 => (tr_sub [(0, (.pointer p0))] ⟨rfl, trivial⟩ (tr_seq (tr_region (tq (y_assign rfl) (tr_nil (tr_thenN (tr_seq (tr_region (tq (y_move rfl) ?_)))))))));obtain ⟨a1, e2, H⟩ := H;refine tq (f_nn rfl e2) (tq (y_fa (off := 3) Tryz.runUnderlying148 fo_148_3 rfl) ?_);obtain ⟨y3, k4, H⟩ := H;refine tr_h (y_ld Tryz.isAgg3 rfl) k4 rfl rfl (tr_e (f_mkS rfl H) rfl rfl ?_);rintro _ h5 ⟨m6, rfl, H⟩;refine tr_e (f_alloc (cs := #[(.map none)]) Tryz.zeroValue153 rfl H) rfl rfl ?_;rintro _ h7 ⟨a8, rfl, H⟩;refine tr_e (f_store (vs := [(.map m6)]) Tryz.sizeOf153 rfl rfl rfl rfl (one1 rfl) H) rfl rfl ?_;rintro _ h9 ⟨rfl, H⟩;refine tr_nil (tr_thenN (tr_seq (tr_seq (tr_draw mixed [0, 1, 3, 7, 0, 16, 48, 112, 255, 511, 0] (by kernel_rfl) (g_p 0 1 rfl (by kernel_rfl) (y_move rfl) rfl rfl ?_)))));obtain ⟨a10, e11, H⟩ := H;refine g_p 1 3 rfl (by kernel_rfl) (f_nn rfl e11) rfl rfl (g_p 2 7 rfl (by kernel_rfl) (y_fa (off := 0) Tryz.runUnderlying148 fo_148_0 rfl) rfl rfl ?_);obtain ⟨y12, k13, H⟩ := H;refine g_h 3 15 rfl (by kernel_rfl) (y_ld Tryz.isAgg146 rfl) k13 rfl rfl (g_p 4 31 rfl (by kernel_rfl) (y_move rfl) rfl rfl ?_);obtain ⟨a14, e15, H⟩ := H;refine g_p 5 63 rfl (by kernel_rfl) (f_nn rfl e15) rfl rfl (g_p 6 127 rfl (by kernel_rfl) (y_fa (off := 1) Tryz.runUnderlying148 fo_148_1 rfl) rfl rfl ?_);obtain ⟨y16, k17, H⟩ := H;refine g_h 7 255 rfl (by kernel_rfl) (y_ld Tryz.isAgg146 rfl) k17 rfl rfl (g_p 10 1279 rfl (by kernel_rfl) (y_move rfl) rfl rfl (g_e 8 1535 [] (by kernel_rfl) rfl (by kernel_rfl) (f_buildL (cs := #[y12.enc, y16.enc]) rfl rfl (bl_154_2_0_1 y12 y16) H) rfl rfl ?_));rintro _ h18 ⟨s19, rfl, H⟩;refine ⟨trivial, ?_⟩;refine g_p 9 2047 rfl (by kernel_rfl) (y_len (ts := #[]) Tryz.runUnderlying154 (o := s19.ptr) (n := s19.len) (cap := s19.cap) rfl) rfl rfl (g_d (by kernel_rfl) (tr_thenN (tr_block ?_)));obtain ⟨m53, H⟩ := H;refine tr_sub [(3, (.pointer (some a8))), (22, s19.enc), (23, (.int .i64 (s19.len : Int))), (24, (.int .i64 0))] ⟨rfl, rfl, rfl, rfl, trivial⟩ ?_;refine tr_loop_j (fun m L' h => ∃ (x3 : Addr) (x22 : Sl) (x23 : Int) (x24 : Int), L' = [(3, (.pointer (some x3))), (22, x22.enc), (23, (.int .i64 x23)), (24, (.int .i64 x24))] ∧ F.xad.l1 Q m x3 x22 x23 x24 h) ?_ ?_ m53 ⟨_, _, _, _, rfl, H⟩
 ·rintro L' h ⟨_, _, _, _, _, H⟩; exact H
 ·rintro q1 L' h ⟨x3, x22, x23, x24, rfl, H⟩;unfold F.xad.l1 at H;refine tr_seq (tr_region (tq (y_lss rfl rfl) (tr_nil (tr_thenN (tr_seq ?_)))));refine tr_cond rfl (fun g20 => ?_) (fun g20 => ?_)
  ·replace H := H.1 g20;refine tr_skip (tr_thenN (tr_seq (tr_block (tr_seq (tr_region ?_)))));obtain ⟨a21, e22, H⟩ := H;refine tq (f_idx (s := x22) Tryz.runUnderlying154 Tryz.sizeOf146 rfl rfl e22) ?_;obtain ⟨y23, k24, H⟩ := H;refine tr_h (y_ld Tryz.isAgg146 rfl) k24 rfl rfl (tq (y_assign rfl) (tr_nil (tr_thenN (tr_seq (tr_region (tq (y_move rfl) (tq (y_len (ts := #[]) Tryz.runUnderlying146 (o := y23.ptr) (n := y23.len) (cap := y23.cap) rfl) (tq (y_move rfl) (tr_nil (tr_thenN (tr_block ?_)))))))))));obtain ⟨m43, H⟩ := H;refine tr_sub [(3, (.pointer (some x3))), (22, x22.enc), (23, (.int .i64 x23)), (24, (.int .i64 x24)), (28, y23.enc), (29, (.int .i64 (y23.len : Int))), (30, (.int .i64 0))] ⟨rfl, rfl, rfl, rfl, rfl, rfl, rfl, trivial⟩ ?_;refine tr_loop_j (fun m L' h => ∃ (x3 : Addr) (x22 : Sl) (x23 : Int) (x24 : Int) (x28 : Sl) (x29 : Int) (x30 : Int), L' = [(3, (.pointer (some x3))), (22, x22.enc), (23, (.int .i64 x23)), (24, (.int .i64 x24)), (28, x28.enc), (29, (.int .i64 x29)), (30, (.int .i64 x30))] ∧ F.xad.l2 Q (F.xad.l1 Q q1) m x3 x22 x23 x24 x28 x29 x30 h) ?_ ?_ m43 ⟨_, _, _, _, _, _, _, rfl, H⟩
   ·rintro L' h ⟨_, _, _, _, _, _, _, _, H⟩; exact H
   ·rintro q2 L' h ⟨x3, x22, x23, x24, x28, x29, x30, rfl, H⟩;unfold F.xad.l2 at H;refine tr_seq (tr_region (tq (y_lss rfl rfl) (tr_nil (tr_thenN (tr_seq ?_)))));refine tr_cond rfl (fun g25 => ?_) (fun g25 => ?_)
    ·replace H := H.1 g25;refine tr_skip (tr_thenN (tr_seq (tr_block (tr_seq (tr_region ?_)))));obtain ⟨a26, e27, H⟩ := H;refine tq (f_idx (s := x28) Tryz.runUnderlying146 Tryz.sizeOf156 rfl rfl e27) ?_;obtain ⟨y28, k29, H⟩ := H;refine tr_h (y_ldS Tryz.isAgg156 Tryz.sizeOf156 rfl rfl) k29 rfl rfl (tr_e (f_alloc (cs := ((⟨0, (⟨#[]⟩ : ByteArray), none⟩ : S_table_place_chain_Chain_api_Agg) : S_table_place_chain_Chain_api_Agg).cells.toArray) Tryz.zeroValue156 rfl H) rfl rfl ?_);rintro _ h30 ⟨a31, rfl, H⟩;refine tr_e (f_store (vs := y28.cells) Tryz.sizeOf156 rfl rfl cellsOfStruct rfl (by intro v hv; exact ones_S_table_place_chain_Chain_api_Agg _ v hv) H) rfl rfl ?_;rintro _ h32 ⟨rfl, H⟩;refine tr_nil (tr_thenN (tr_seq (tr_region (tq (y_fa (off := 0) Tryz.runUnderlying156 fo_156_0 rfl) ?_))));obtain ⟨y33, k34, H⟩ := H;refine tr_h (y_ld Tryz.isAgg5 rfl) k34 rfl rfl (tq (y_eql rfl rfl) (tr_nil (tr_thenN ?_)));refine tr_cond rfl (fun g35 => ?_) (fun g35 => ?_)
     ·replace H := H.1 g35;refine tr_region ?_;obtain ⟨y36, k37, H⟩ := H;refine tr_h (y_ld Tryz.isAgg153 rfl) k37 rfl rfl (tq (y_fa (off := 1) Tryz.runUnderlying156 fo_156_1 rfl) ?_);obtain ⟨y38, k39, H⟩ := H;refine tr_h (y_ld Tryz.isAgg9 rfl) k39 rfl rfl (tq (y_fa (off := 2) Tryz.runUnderlying156 fo_156_2 rfl) ?_);obtain ⟨y40, k41, H⟩ := H;refine tr_h (y_ld Tryz.isAgg107 rfl) k41 rfl rfl (tr_e (f_mu rfl rfl rfl H) rfl rfl ?_);rintro _ h42 ⟨rfl, H⟩;refine tr_nil (tr_blockN (tr_thenN (tr_region (tq (y_add rfl rfl) (tq (y_move rfl) (tr_nil (tr_thenN ?_)))))));exact tr_join [(3, (.pointer (some x3))), (22, x22.enc), (23, (.int .i64 x23)), (24, (.int .i64 x24)), (28, x28.enc), (29, (.int .i64 x29)), (30, (.int .i64 (IntKind.wrap .i64 (x30 + 1))))] ⟨rfl, rfl, rfl, rfl, rfl, rfl, rfl, trivial⟩ ⟨_, _, _, _, _, _, _, rfl, H⟩
     ·replace H := H.2 g35;refine tr_skip (tr_blockN (tr_thenN (tr_region (tq (y_add rfl rfl) (tq (y_move rfl) (tr_nil (tr_thenN ?_)))))));exact tr_join [(3, (.pointer (some x3))), (22, x22.enc), (23, (.int .i64 x23)), (24, (.int .i64 x24)), (28, x28.enc), (29, (.int .i64 x29)), (30, (.int .i64 (IntKind.wrap .i64 (x30 + 1))))] ⟨rfl, rfl, rfl, rfl, rfl, rfl, rfl, trivial⟩ ⟨_, _, _, _, _, _, _, rfl, H⟩
    ·replace H := H.2 g25;refine tr_exit (tr_thenE (tr_thenE (tr_hit (tr_blockN (tr_thenN (tr_region (tq (y_add rfl rfl) (tq (y_move rfl) (tr_nil (tr_thenN ?_))))))))));exact tr_join [(3, (.pointer (some x3))), (22, x22.enc), (23, (.int .i64 x23)), (24, (.int .i64 (IntKind.wrap .i64 (x24 + 1))))] ⟨rfl, rfl, rfl, rfl, trivial⟩ ⟨_, _, _, _, rfl, H⟩
  ·replace H := H.2 g20;refine tr_exit (tr_thenE (tr_thenE (tr_hit (tr_thenN (tr_seq (tr_region ?_))))));obtain ⟨y44, k45, H⟩ := H;refine tr_h (y_ld Tryz.isAgg153 rfl) k45 rfl rfl (tr_e (e_call Tryz.call98 rfl (F.xas_ok H)) rfl rfl ?_);rintro r47 h46 ⟨_, rfl, H⟩;refine tr_e (e_call Tryz.call97 rfl (F.xch_ok H)) rfl rfl ?_;rintro _ h48 ⟨r49, rfl, H⟩;refine tr_e (f_alloc (cs := #[(⟨none, 0, 0⟩ : Sl).enc]) Tryz.zeroValue22 rfl H) rfl rfl ?_;rintro _ h50 ⟨a51, rfl, H⟩;refine tr_e (f_store (vs := [r49.enc]) Tryz.sizeOf22 rfl rfl rfl rfl (one1 rfl) H) rfl rfl ?_;rintro _ h52 ⟨rfl, H⟩;refine tr_nil (tr_thenN (tr_seq (tr_region (tq (y_fn rfl rfl) (tq (y_assign rfl) (tr_nil (tr_thenN (tr_ret ?_))))))));exact tr_ret1 rfl rfl ⟨_, rfl, H⟩
def F.xan.l2 (Q : S_api_Cell -> Int -> H -> Prop) : Nat -> ByteArray -> Addr -> Addr -> Int -> Sl -> Int -> H -> Prop
  | 0, _, _, _, _, _, _, _ => False
  | q2 + 1, x0, x2, x4, x5, x6, x8, h =>
    ((decide (x5 < (x0.size : Int))) = true ->
    0 <= (8 : Int) ∧
    idxS x0 x5 fun b42 =>
    (F.xan.l2 Q q2) x0 x2 x4 (IntKind.wrap .i64 (x5 + 1)) x6 (bitsOf .or .u64 (IntKind.wrap .u64 (x8 * (2 ^ (min (8 : Int).toNat (IntKind.bits .u64)) : Int))) (IntKind.wrap .u64 b42)) h) ∧
    ((decide (x5 < (x0.size : Int))) = false ->
    runT PP (convert 93 9 x6.enc) h fun s45 h44 =>
    stH h44 (x4.add 1) [(.string s45)] fun h46 =>
    stH h46 (x4.add 2) [(.int .i64 (IntKind.wrap .i64 (IntKind.wrap .u64 (x8 - 9223372036854775808))))] fun h47 =>
    ld_S_api_Cell h47 x4 fun y48 =>
    F.xap y48 h47 fun r51 h50 =>
    (((r51 != 0)) = true ->
    stH h50 x2 ((⟨0, (⟨#[]⟩ : ByteArray), 0⟩ : S_api_Cell).cells) fun h53 =>
    ld_S_api_Cell h53 x2 fun y54 =>
    Q y54 r51 h53) ∧
    (((r51 != 0)) = false ->
    ld_S_api_Cell h50 x4 fun y56 =>
    stH h50 x2 y56.cells fun h58 =>
    ld_S_api_Cell h58 x2 fun y59 =>
    Q y59 0 h58))
def F.xan.l1 (Q : S_api_Cell -> Int -> H -> Prop) : Nat -> ByteArray -> Addr -> Addr -> Int -> Sl -> H -> Prop
  | 0, _, _, _, _, _, _ => False
  | q1 + 1, x0, x2, x4, x5, x6, h =>
    (((x5 == (x0.size : Int))) = true ->
    stH h x2 ((⟨0, (⟨#[]⟩ : ByteArray), 0⟩ : S_api_Cell).cells) fun h13 =>
    ld_S_api_Cell h13 x2 fun y14 =>
    Q y14 11 h13) ∧
    (((x5 == (x0.size : Int))) = false ->
    idxS x0 x5 fun b16 =>
    (((b16 != 0)) = true ->
    idxS x0 x5 fun b19 =>
    newL h #[(.int .u8 b19)] ty_5 1 fun s22 h21 =>
    runL PP (Builtin.append_ #[93, 93] 93 #[x6.enc, s22.enc]) h21 fun s24 h23 =>
    (F.xan.l1 Q q1) x0 x2 x4 (IntKind.wrap .i64 (x5 + 1)) s24 h23) ∧
    (((b16 != 0)) = false ->
    ((((IntKind.wrap .i64 (x5 + 1)) == (x0.size : Int))) = true ->
    stH h x2 ((⟨0, (⟨#[]⟩ : ByteArray), 0⟩ : S_api_Cell).cells) fun h26 =>
    ld_S_api_Cell h26 x2 fun y27 =>
    Q y27 11 h26) ∧
    ((((IntKind.wrap .i64 (x5 + 1)) == (x0.size : Int))) = false ->
    idxS x0 (IntKind.wrap .i64 ((IntKind.wrap .i64 (x5 + 2)) - 1)) fun b29 =>
    (((b29 == 1)) = true ->
    ((decide ((IntKind.wrap .i64 ((x0.size : Int) - (IntKind.wrap .i64 (x5 + 2)))) < 8)) = true ->
    stH h x2 ((⟨0, (⟨#[]⟩ : ByteArray), 0⟩ : S_api_Cell).cells) fun h33 =>
    ld_S_api_Cell h33 x2 fun y34 =>
    Q y34 11 h33) ∧
    ((decide ((IntKind.wrap .i64 ((x0.size : Int) - (IntKind.wrap .i64 (x5 + 2)))) < 8)) = false ->
    ((decide ((IntKind.wrap .i64 ((x0.size : Int) - (IntKind.wrap .i64 (x5 + 2)))) > 8)) = true ->
    stH h x2 ((⟨0, (⟨#[]⟩ : ByteArray), 0⟩ : S_api_Cell).cells) fun h37 =>
    ld_S_api_Cell h37 x2 fun y38 =>
    Q y38 13 h37) ∧
    ((decide ((IntKind.wrap .i64 ((x0.size : Int) - (IntKind.wrap .i64 (x5 + 2)))) > 8)) = false ->
    ∃ m, F.xan.l2 Q m x0 x2 x4 (IntKind.wrap .i64 (x5 + 2)) x6 0 h))) ∧
    (((b29 == 1)) = false ->
    idxS x0 (IntKind.wrap .i64 ((IntKind.wrap .i64 (x5 + 2)) - 1)) fun b62 =>
    (((b62 != 255)) = true ->
    stH h x2 ((⟨0, (⟨#[]⟩ : ByteArray), 0⟩ : S_api_Cell).cells) fun h65 =>
    ld_S_api_Cell h65 x2 fun y66 =>
    Q y66 12 h65) ∧
    (((b62 != 255)) = false ->
    newL h #[(.int .u8 0)] ty_5 1 fun s69 h68 =>
    runL PP (Builtin.append_ #[93, 93] 93 #[x6.enc, s69.enc]) h68 fun s71 h70 =>
    (F.xan.l1 Q q1) x0 x2 x4 (IntKind.wrap .i64 (x5 + 2)) s71 h70)))))
def F.xan (p0 : ByteArray) (h : H) (Q : S_api_Cell -> Int -> H -> Prop) : Prop :=
  new h (((⟨0, (⟨#[]⟩ : ByteArray), 0⟩ : S_api_Cell) : S_api_Cell).cells.toArray) ty_35 fun a2 h1 =>
  ((p0.toList == (⟨#[]⟩ : ByteArray).toList) = true ->
  stH h1 a2 ((⟨0, (⟨#[]⟩ : ByteArray), 0⟩ : S_api_Cell).cells) fun h4 =>
  ld_S_api_Cell h4 a2 fun y5 =>
  Q y5 11 h4) ∧
  ((p0.toList == (⟨#[]⟩ : ByteArray).toList) = false ->
  idxS p0 0 fun b7 =>
  new h1 (((⟨0, (⟨#[]⟩ : ByteArray), 0⟩ : S_api_Cell) : S_api_Cell).cells.toArray) ty_35 fun a10 h9 =>
  stH h9 a10 ((⟨(IntKind.wrap .i64 b7), (⟨#[]⟩ : ByteArray), 0⟩ : S_api_Cell).cells) fun h11 =>
  ∃ m, F.xan.l1 Q m p0 a2 a10 1 (⟨none, 0, 0⟩ : Sl) h11)
theorem F.xan_ok {p0 : ByteArray} {h : H} {Q : S_api_Cell -> Int -> H -> Prop} (H : F.xan p0 h Q) : Fn PP 73 ([(.string p0)] : List Value).toArray h fun r h' => ∃ r0 r1, r = .tuple #[(.agg r0.cells.toArray), (.int .i64 r1)] ∧ Q r0 r1 h' := by
 unfold F.xan at H;refine fn_of Tryz.func73 Tryz.ntmps73 rfl rfl fun w0 => (tr_sub [(0, (.string p0))] ⟨rfl, trivial⟩ (tr_seq (tr_region (tr_e (f_alloc (cs := ((⟨0, (⟨#[]⟩ : ByteArray), 0⟩ : S_api_Cell) : S_api_Cell).cells.toArray) Tryz.zeroValue35 rfl H) rfl rfl ?_))));rintro _ h1 ⟨a2, rfl, H⟩;refine tq (y_assign rfl) (tr_nil (tr_thenN (tr_seq (tr_seq (tr_region (tq (y_move rfl) (tq (y_seql rfl rfl) (tr_nil (tr_thenN ?_)))))))));refine tr_cond rfl (fun g3 => ?_) (fun g3 => ?_)
 ·replace H := H.1 g3;refine tr_seq (tr_region (tq (f_build rfl (bd_35_ )) (tr_e (f_store (vs := (⟨0, (⟨#[]⟩ : ByteArray), 0⟩ : S_api_Cell).cells) Tryz.sizeOf35 rfl rfl cellsOfStruct rfl (by intro v hv; exact ones_S_api_Cell _ v hv) H) rfl rfl ?_)));rintro _ h4 ⟨rfl, H⟩;refine tq (y_assign rfl) (tr_nil (tr_thenN (tr_ret (tr_thenR ?_))));obtain ⟨y5, k6, H⟩ := H;exact tr_rv2 rfl (rv_cellS Tryz.isAgg35 Tryz.sizeOf35 rfl rfl k6) (rv_tmp rfl) ⟨_, _, rfl, H⟩
 ·replace H := H.2 g3;refine tr_skip (tr_thenN (tr_seq (tr_region (tq (y_move rfl) ?_))));obtain ⟨b7, e8, H⟩ := H;refine tq (f_idxS Tryz.runUnderlying9 rfl rfl e8) (tq (y_cvt Tryz.runUnderlying5 Tryz.runUnderlying3 rfl) (tq (f_build rfl (bd_35_0 (IntKind.wrap .i64 b7))) (tr_e (f_alloc (cs := ((⟨0, (⟨#[]⟩ : ByteArray), 0⟩ : S_api_Cell) : S_api_Cell).cells.toArray) Tryz.zeroValue35 rfl H) rfl rfl ?_)));rintro _ h9 ⟨a10, rfl, H⟩;refine tr_e (f_store (vs := (⟨(IntKind.wrap .i64 b7), (⟨#[]⟩ : ByteArray), 0⟩ : S_api_Cell).cells) Tryz.sizeOf35 rfl rfl cellsOfStruct rfl (by intro v hv; exact ones_S_api_Cell _ v hv) H) rfl rfl ?_;rintro _ h11 ⟨rfl, H⟩;refine tr_nil (tr_thenN (tr_seq (tr_region (tq (y_assign rfl) (tr_nil (tr_thenN (tr_seq (tr_region (tq (y_assign rfl) (tr_nil (tr_thenN (tr_seq (tr_block ?_)))))))))))));obtain ⟨m72, H⟩ := H;refine tr_sub [(0, (.string p0)), (2, (.pointer (some a2))), (4, (.pointer (some a10))), (5, (.int .i64 1)), (6, (⟨none, 0, 0⟩ : Sl).enc)] ⟨rfl, rfl, rfl, rfl, rfl, trivial⟩ ?_;refine tr_loop_j (fun m L' h => ∃ (x0 : ByteArray) (x2 : Addr) (x4 : Addr) (x5 : Int) (x6 : Sl), L' = [(0, (.string x0)), (2, (.pointer (some x2))), (4, (.pointer (some x4))), (5, (.int .i64 x5)), (6, x6.enc)] ∧ F.xan.l1 Q m x0 x2 x4 x5 x6 h) ?_ ?_ m72 ⟨_, _, _, _, _, rfl, H⟩
  ·rintro L' h ⟨_, _, _, _, _, _, H⟩; exact H
  ·rintro q1 L' h ⟨x0, x2, x4, x5, x6, rfl, H⟩;unfold F.xan.l1 at H;refine tr_block (tr_seq (tr_seq (tr_region (tq (y_move rfl) (tq (y_move rfl) (tq (y_lenS Tryz.runUnderlying9 rfl) (tq (y_eql rfl rfl) (tr_nil (tr_thenN ?_)))))))));refine tr_cond rfl (fun g12 => ?_) (fun g12 => ?_)
   ·replace H := H.1 g12;refine tr_seq (tr_region (tq (f_build rfl (bd_35_ )) (tr_e (f_store (vs := (⟨0, (⟨#[]⟩ : ByteArray), 0⟩ : S_api_Cell).cells) Tryz.sizeOf35 rfl rfl cellsOfStruct rfl (by intro v hv; exact ones_S_api_Cell _ v hv) H) rfl rfl ?_)));rintro _ h13 ⟨rfl, H⟩;refine tq (y_assign rfl) (tr_nil (tr_thenN (tr_ret (tr_thenR (tr_blockR (tr_thenR (tr_blockR (tr_thenR ?_))))))));obtain ⟨y14, k15, H⟩ := H;exact tr_rv2 rfl (rv_cellS Tryz.isAgg35 Tryz.sizeOf35 rfl rfl k15) (rv_tmp rfl) ⟨_, _, rfl, H⟩
   ·replace H := H.2 g12;refine tr_skip (tr_thenN (tr_seq (tr_seq (tr_region (tq (y_move rfl) (tq (y_move rfl) ?_))))));obtain ⟨b16, e17, H⟩ := H;refine tq (f_idxS Tryz.runUnderlying9 rfl rfl e17) (tq (y_neq rfl rfl) (tr_nil (tr_thenN ?_)));refine tr_cond rfl (fun g18 => ?_) (fun g18 => ?_)
    ·replace H := H.1 g18;refine tr_seq (tr_region (tq (y_move rfl) (tq (y_move rfl) (tq (y_move rfl) ?_))));obtain ⟨b19, e20, H⟩ := H;refine tq (f_idxS Tryz.runUnderlying9 rfl rfl e20) (tr_e (f_buildL (cs := #[(.int .u8 b19)]) rfl rfl (bl_93_1_0 b19) H) rfl rfl ?_);rintro _ h21 ⟨s22, rfl, H⟩;refine tr_e (f_app rfl H) rfl rfl ?_;rintro _ h23 ⟨s24, rfl, H⟩;refine tq (y_assign rfl) (tr_nil (tr_thenN (tr_seq (tr_region (tq (y_move rfl) (tq (y_add rfl rfl) (tq (y_assign rfl) (tr_nil (tr_thenN (tr_exit (tr_thenE (tr_hit (tr_thenN ?_)))))))))))));exact tr_join [(0, (.string x0)), (2, (.pointer (some x2))), (4, (.pointer (some x4))), (5, (.int .i64 (IntKind.wrap .i64 (x5 + 1)))), (6, s24.enc)] ⟨rfl, rfl, rfl, rfl, rfl, trivial⟩ ⟨_, _, _, _, _, rfl, H⟩
    ·replace H := H.2 g18;refine tr_skip (tr_thenN (tr_seq (tr_seq (tr_region (tq (y_move rfl) (tq (y_add rfl rfl) (tq (y_move rfl) (tq (y_lenS Tryz.runUnderlying9 rfl) (tq (y_eql rfl rfl) (tr_nil (tr_thenN ?_)))))))))));refine tr_cond rfl (fun g25 => ?_) (fun g25 => ?_)
     ·replace H := H.1 g25;refine tr_seq (tr_region (tq (f_build rfl (bd_35_ )) (tr_e (f_store (vs := (⟨0, (⟨#[]⟩ : ByteArray), 0⟩ : S_api_Cell).cells) Tryz.sizeOf35 rfl rfl cellsOfStruct rfl (by intro v hv; exact ones_S_api_Cell _ v hv) H) rfl rfl ?_)));rintro _ h26 ⟨rfl, H⟩;refine tq (y_assign rfl) (tr_nil (tr_thenN (tr_ret (tr_thenR (tr_blockR (tr_thenR (tr_blockR (tr_thenR ?_))))))));obtain ⟨y27, k28, H⟩ := H;exact tr_rv2 rfl (rv_cellS Tryz.isAgg35 Tryz.sizeOf35 rfl rfl k28) (rv_tmp rfl) ⟨_, _, rfl, H⟩
     ·replace H := H.2 g25;refine tr_skip (tr_thenN (tr_seq (tr_region (tq (y_move rfl) (tq (y_add rfl rfl) (tq (y_assign rfl) (tr_nil (tr_thenN (tr_seq (tr_seq (tr_region (tq (y_move rfl) (tq (y_move rfl) ?_)))))))))))));refine tq (y_sub rfl rfl) ?_;obtain ⟨b29, e30, H⟩ := H;refine tq (f_idxS Tryz.runUnderlying9 rfl rfl e30) (tq (y_eql rfl rfl) (tr_nil (tr_thenN ?_)));refine tr_cond rfl (fun g31 => ?_) (fun g31 => ?_)
      ·replace H := H.1 g31;refine tr_exit (tr_thenE (tr_miss rfl (tr_thenE (tr_hit (tr_thenN (tr_seq (tr_seq (tr_region (tq (y_move rfl) (tq (y_lenS Tryz.runUnderlying9 rfl) (tq (y_move rfl) (tq (y_sub rfl rfl) (tq (y_assign rfl) ?_)))))))))))));refine tr_nil (tr_thenN (tr_block (tr_seq (tr_region (tq (y_move rfl) (tq (y_lss rfl rfl) (tq (y_assign rfl) (tr_nil (tr_thenN ?_)))))))));refine tr_cond rfl (fun g32 => ?_) (fun g32 => ?_)
       ·replace H := H.1 g32;refine tr_seq (tr_region (tq (f_build rfl (bd_35_ )) (tr_e (f_store (vs := (⟨0, (⟨#[]⟩ : ByteArray), 0⟩ : S_api_Cell).cells) Tryz.sizeOf35 rfl rfl cellsOfStruct rfl (by intro v hv; exact ones_S_api_Cell _ v hv) H) rfl rfl ?_)));rintro _ h33 ⟨rfl, H⟩;refine tq (y_assign rfl) (tr_nil (tr_thenN (tr_ret (tr_blockR (tr_thenR ?_)))));obtain ⟨y34, k35, H⟩ := H;exact tr_rv2 rfl (rv_cellS Tryz.isAgg35 Tryz.sizeOf35 rfl rfl k35) (rv_tmp rfl) ⟨_, _, rfl, H⟩
       ·replace H := H.2 g32;refine tr_seq (tr_region (tq (y_move rfl) (tq (y_gtr rfl rfl) (tq (y_assign rfl) (tr_nil (tr_thenN ?_))))));refine tr_cond rfl (fun g36 => ?_) (fun g36 => ?_)
        ·replace H := H.1 g36;refine tr_seq (tr_region (tq (f_build rfl (bd_35_ )) (tr_e (f_store (vs := (⟨0, (⟨#[]⟩ : ByteArray), 0⟩ : S_api_Cell).cells) Tryz.sizeOf35 rfl rfl cellsOfStruct rfl (by intro v hv; exact ones_S_api_Cell _ v hv) H) rfl rfl ?_)));rintro _ h37 ⟨rfl, H⟩;refine tq (y_assign rfl) (tr_nil (tr_thenN (tr_ret (tr_blockR (tr_thenR ?_)))));obtain ⟨y38, k39, H⟩ := H;exact tr_rv2 rfl (rv_cellS Tryz.isAgg35 Tryz.sizeOf35 rfl rfl k39) (rv_tmp rfl) ⟨_, _, rfl, H⟩
        ·replace H := H.2 g36;refine tr_skip (tr_blockN (tr_thenN (tr_seq (tr_region (tq (y_assign rfl) (tr_nil (tr_thenN (tr_seq (tr_block ?_)))))))));obtain ⟨m61, H⟩ := H;refine tr_sub [(0, (.string x0)), (2, (.pointer (some x2))), (4, (.pointer (some x4))), (5, (.int .i64 (IntKind.wrap .i64 (x5 + 2)))), (6, x6.enc), (8, (.int .u64 0))] ⟨rfl, rfl, rfl, rfl, rfl, rfl, trivial⟩ ?_;refine tr_loop_j (fun m L' h => ∃ (x0 : ByteArray) (x2 : Addr) (x4 : Addr) (x5 : Int) (x6 : Sl) (x8 : Int), L' = [(0, (.string x0)), (2, (.pointer (some x2))), (4, (.pointer (some x4))), (5, (.int .i64 x5)), (6, x6.enc), (8, (.int .u64 x8))] ∧ F.xan.l2 Q m x0 x2 x4 x5 x6 x8 h) ?_ ?_ m61 ⟨_, _, _, _, _, _, rfl, H⟩
         ·rintro L' h ⟨_, _, _, _, _, _, _, H⟩; exact H
         ·rintro q2 L' h ⟨x0, x2, x4, x5, x6, x8, rfl, H⟩;unfold F.xan.l2 at H;refine tr_seq (tr_seq (tr_region (tq (y_move rfl) (tq (y_move rfl) (tq (y_lenS Tryz.runUnderlying9 rfl) (tq (y_lss rfl rfl) (tr_nil (tr_thenN ?_))))))));refine tr_cond rfl (fun g40 => ?_) (fun g40 => ?_)
          ·replace H := H.1 g40;refine tr_skip (tr_thenN (tr_seq (tr_block (tr_region (tq (y_move rfl) ?_)))));obtain ⟨e41, H⟩ := H;refine tq (y_shl rfl rfl e41) (tq (y_move rfl) (tq (y_move rfl) ?_));obtain ⟨b42, e43, H⟩ := H;refine tq (f_idxS Tryz.runUnderlying9 rfl rfl e43) (tq (y_cvt Tryz.runUnderlying5 Tryz.runUnderlying90 rfl) (tq (y_or rfl rfl) (tq (y_assign rfl) (tr_nil (tr_blockN (tr_thenN (tr_region (tq (y_move rfl) (tq (y_add rfl rfl) (tq (y_assign rfl) (tr_nil (tr_thenN ?_))))))))))));exact tr_join [(0, (.string x0)), (2, (.pointer (some x2))), (4, (.pointer (some x4))), (5, (.int .i64 (IntKind.wrap .i64 (x5 + 1)))), (6, x6.enc), (8, (.int .u64 (bitsOf .or .u64 (IntKind.wrap .u64 (x8 * (2 ^ (min (8 : Int).toNat (IntKind.bits .u64)) : Int))) (IntKind.wrap .u64 b42))))] ⟨rfl, rfl, rfl, rfl, rfl, rfl, trivial⟩ ⟨_, _, _, _, _, _, rfl, H⟩
          ·replace H := H.2 g40;refine tr_exit (tr_thenE (tr_thenE (tr_hit (tr_thenN (tr_seq (tr_region (tq (y_move rfl) (tr_e (f_cvtT rfl H) rfl rfl ?_))))))));rintro _ h44 ⟨s45, rfl, H⟩;refine tq (y_move rfl) (tq (y_sub rfl rfl) (tq (y_cvt Tryz.runUnderlying90 Tryz.runUnderlying2 rfl) (tq (y_fa (off := 1) Tryz.runUnderlying35 fo_35_1 rfl) (tr_e (f_store (vs := [(.string s45)]) Tryz.sizeOf9 rfl rfl rfl rfl (one1 rfl) H) rfl rfl ?_))));rintro _ h46 ⟨rfl, H⟩;refine tq (y_fa (off := 2) Tryz.runUnderlying35 fo_35_2 rfl) (tr_e (f_store (vs := [(.int .i64 (IntKind.wrap .i64 (IntKind.wrap .u64 (x8 - 9223372036854775808))))]) Tryz.sizeOf2 rfl rfl rfl rfl (one1 rfl) H) rfl rfl ?_);rintro _ h47 ⟨rfl, H⟩;refine tr_nil (tr_thenN (tr_seq (tr_seq (tr_region ?_))));obtain ⟨y48, k49, H⟩ := H;refine tr_h (y_ldS Tryz.isAgg35 Tryz.sizeOf35 rfl rfl) k49 rfl rfl (tr_e (e_call Tryz.call109 rfl (F.xap_ok H)) rfl rfl ?_);rintro _ h50 ⟨r51, rfl, H⟩;refine tq (y_assign rfl) (tr_nil (tr_thenN (tr_seq (tr_region (tq (y_move rfl) (tq (y_neq rfl rfl) (tr_nil (tr_thenN ?_))))))));refine tr_cond rfl (fun g52 => ?_) (fun g52 => ?_)
           ·replace H := H.1 g52;refine tr_seq (tr_region (tq (f_build rfl (bd_35_ )) (tq (y_move rfl) (tr_e (f_store (vs := (⟨0, (⟨#[]⟩ : ByteArray), 0⟩ : S_api_Cell).cells) Tryz.sizeOf35 rfl rfl cellsOfStruct rfl (by intro v hv; exact ones_S_api_Cell _ v hv) H) rfl rfl ?_))));rintro _ h53 ⟨rfl, H⟩;refine tq (y_assign rfl) (tr_nil (tr_thenN (tr_ret (tr_thenR ?_))));obtain ⟨y54, k55, H⟩ := H;exact tr_rv2 rfl (rv_cellS Tryz.isAgg35 Tryz.sizeOf35 rfl rfl k55) (rv_tmp rfl) ⟨_, _, rfl, H⟩
           ·replace H := H.2 g52;refine tr_skip (tr_thenN (tr_seq (tr_region ?_)));obtain ⟨y56, k57, H⟩ := H;refine tr_h (y_ldS Tryz.isAgg35 Tryz.sizeOf35 rfl rfl) k57 rfl rfl (tr_e (f_store (vs := y56.cells) Tryz.sizeOf35 rfl rfl cellsOfStruct rfl (by intro v hv; exact ones_S_api_Cell _ v hv) H) rfl rfl ?_);rintro _ h58 ⟨rfl, H⟩;refine tq (y_assign rfl) (tr_nil (tr_thenN (tr_ret ?_)));obtain ⟨y59, k60, H⟩ := H;exact tr_rv2 rfl (rv_cellS Tryz.isAgg35 Tryz.sizeOf35 rfl rfl k60) (rv_tmp rfl) ⟨_, _, rfl, H⟩
      ·replace H := H.2 g31;refine tr_skip (tr_thenN (tr_seq (tr_seq (tr_region (tq (y_move rfl) (tq (y_move rfl) (tq (y_sub rfl rfl) ?_)))))));obtain ⟨b62, e63, H⟩ := H;refine tq (f_idxS Tryz.runUnderlying9 rfl rfl e63) (tq (y_neq rfl rfl) (tr_nil (tr_thenN ?_)));refine tr_cond rfl (fun g64 => ?_) (fun g64 => ?_)
       ·replace H := H.1 g64;refine tr_seq (tr_region (tq (f_build rfl (bd_35_ )) (tr_e (f_store (vs := (⟨0, (⟨#[]⟩ : ByteArray), 0⟩ : S_api_Cell).cells) Tryz.sizeOf35 rfl rfl cellsOfStruct rfl (by intro v hv; exact ones_S_api_Cell _ v hv) H) rfl rfl ?_)));rintro _ h65 ⟨rfl, H⟩;refine tq (y_assign rfl) (tr_nil (tr_thenN (tr_ret (tr_thenR (tr_blockR (tr_thenR (tr_blockR (tr_thenR ?_))))))));obtain ⟨y66, k67, H⟩ := H;exact tr_rv2 rfl (rv_cellS Tryz.isAgg35 Tryz.sizeOf35 rfl rfl k67) (rv_tmp rfl) ⟨_, _, rfl, H⟩
       ·replace H := H.2 g64;refine tr_skip (tr_thenN (tr_region (tq (y_move rfl) (tr_e (f_buildL (cs := #[(.int .u8 0)]) rfl rfl (bl_93_1_0 0) H) rfl rfl ?_))));rintro _ h68 ⟨s69, rfl, H⟩;refine tr_e (f_app rfl H) rfl rfl ?_;rintro _ h70 ⟨s71, rfl, H⟩;refine tq (y_assign rfl) (tr_nil (tr_blockN (tr_thenN ?_)));exact tr_join [(0, (.string x0)), (2, (.pointer (some x2))), (4, (.pointer (some x4))), (5, (.int .i64 (IntKind.wrap .i64 (x5 + 2)))), (6, s71.enc)] ⟨rfl, rfl, rfl, rfl, rfl, trivial⟩ ⟨_, _, _, _, _, rfl, H⟩
def F.xbi.l1 (Q : Int -> Bool -> H -> Prop) : Nat -> Sl -> Int -> Value -> Int -> Int -> Int -> H -> Prop
  | 0, _, _, _, _, _, _, _ => False
  | q1 + 1, x0, x1, x2, x8, x9, x10, h =>
    ((decide (x9 < x10)) = true ->
    0 <= (1 : Int) ∧
    idxA x0 (IntKind.wrap .i64 (Int.fdiv (IntKind.wrap .u64 (IntKind.wrap .i64 (x9 + x10))) (2 ^ (min (1 : Int).toNat (IntKind.bits .u64)) : Int))) 6 fun a3 =>
    ld_S_chain_version_api_Agg h a3 fun y5 =>
    CV PP x2 [(.agg y5.cells.toArray), (.int .i64 x1)] h fun u h7 => ∃ (r8 : Int), u = (.int .i64 r8) ∧
    ((decide (r8 < 0)) = true ->
    (F.xbi.l1 Q q1) x0 x1 x2 x8 (IntKind.wrap .i64 ((IntKind.wrap .i64 (Int.fdiv (IntKind.wrap .u64 (IntKind.wrap .i64 (x9 + x10))) (2 ^ (min (1 : Int).toNat (IntKind.bits .u64)) : Int))) + 1)) x10 h7) ∧
    ((decide (r8 < 0)) = false ->
    (F.xbi.l1 Q q1) x0 x1 x2 x8 x9 (IntKind.wrap .i64 (Int.fdiv (IntKind.wrap .u64 (IntKind.wrap .i64 (x9 + x10))) (2 ^ (min (1 : Int).toNat (IntKind.bits .u64)) : Int))) h7)) ∧
    ((decide (x9 < x10)) = false ->
    ((decide (x9 < x8)) = true ->
    idxA x0 x9 6 fun a11 =>
    ld_S_chain_version_api_Agg h a11 fun y13 =>
    CV PP x2 [(.agg y13.cells.toArray), (.int .i64 x1)] h fun u h15 => ∃ (r16 : Int), u = (.int .i64 r16) ∧
    Q x9 ((r16 == 0)) h15) ∧
    ((decide (x9 < x8)) = false ->
    Q x9 false h))
def F.xbi (p0 : Sl) (p1 : Int) (p2 : Value) (h : H) (Q : Int -> Bool -> H -> Prop) : Prop :=
  ∃ m, F.xbi.l1 Q m p0 p1 p2 (p0.len : Int) 0 (p0.len : Int) h
theorem F.xbi_ok {p0 : Sl} {p1 : Int} {p2 : Value} {h : H} {Q : Int -> Bool -> H -> Prop} (H : F.xbi p0 p1 p2 h Q) : Fn PP 126 ([p0.enc, (.int .i64 p1), p2] : List Value).toArray h fun r h' => ∃ r0 r1, r = .tuple #[(.int .i64 r0), (.bool r1)] ∧ Q r0 r1 h' := by
 unfold F.xbi at H;refine fn_of Tryz.func126 Tryz.ntmps126 rfl rfl fun w0 => (tr_sub [(0, p0.enc), (1, (.int .i64 p1)), (2, p2)] ⟨rfl, rfl, rfl, trivial⟩ (tr_seq (tr_region (tq (y_assign rfl) (tq (y_assign rfl) (tr_nil (tr_thenN (tr_seq (tr_region (tq (y_move rfl) (tq (y_len (ts := #[]) Tryz.runUnderlying162 (o := p0.ptr) (n := p0.len) (cap := p0.cap) rfl) (tq (y_assign rfl) (tr_nil ?_)))))))))))));refine tr_thenN (tr_seq (tr_region (tq (y_move rfl) (tq (y_assign rfl) (tq (y_assign rfl) (tr_nil (tr_thenN (tr_seq (tr_block ?_)))))))));obtain ⟨m17, H⟩ := H;refine tr_sub [(0, p0.enc), (1, (.int .i64 p1)), (2, p2), (8, (.int .i64 (p0.len : Int))), (9, (.int .i64 0)), (10, (.int .i64 (p0.len : Int)))] ⟨rfl, rfl, rfl, rfl, rfl, rfl, trivial⟩ ?_;refine tr_loop_j (fun m L' h => ∃ (x0 : Sl) (x1 : Int) (x2 : Value) (x8 : Int) (x9 : Int) (x10 : Int), L' = [(0, x0.enc), (1, (.int .i64 x1)), (2, x2), (8, (.int .i64 x8)), (9, (.int .i64 x9)), (10, (.int .i64 x10))] ∧ F.xbi.l1 Q m x0 x1 x2 x8 x9 x10 h) ?_ ?_ m17 ⟨_, _, _, _, _, _, rfl, H⟩
 ·rintro L' h ⟨_, _, _, _, _, _, _, H⟩; exact H
 ·rintro q1 L' h ⟨x0, x1, x2, x8, x9, x10, rfl, H⟩;unfold F.xbi.l1 at H;refine tr_seq (tr_seq (tr_region (tq (y_move rfl) (tq (y_move rfl) (tq (y_lss rfl rfl) (tr_nil (tr_thenN ?_)))))));refine tr_cond rfl (fun g1 => ?_) (fun g1 => ?_)
  ·replace H := H.1 g1;refine tr_skip (tr_thenN (tr_block (tr_seq (tr_region (tq (y_move rfl) (tq (y_move rfl) (tq (y_add rfl rfl) (tq (y_cvt Tryz.runUnderlying3 Tryz.runUnderlying177 rfl) ?_))))))));obtain ⟨e2, H⟩ := H;refine tq (y_shr rfl rfl e2) (tq (y_cvt Tryz.runUnderlying177 Tryz.runUnderlying3 rfl) (tq (y_assign rfl) (tr_nil (tr_thenN (tr_seq (tr_region (tq (y_move rfl) (tq (y_move rfl) (tq (y_move rfl) ?_)))))))));obtain ⟨a3, e4, H⟩ := H;refine tq (f_idx (s := x0) Tryz.runUnderlying162 Tryz.sizeOf152 rfl rfl e4) ?_;obtain ⟨y5, k6, H⟩ := H;refine tr_h (y_ldS Tryz.isAgg152 Tryz.sizeOf152 rfl rfl) k6 rfl rfl (tq (y_move rfl) (tr_e (e_callD rfl rfl H) rfl rfl ?_));rintro _ h7 ⟨r8, rfl, H⟩;refine tq (y_lss rfl rfl) (tr_nil (tr_thenN ?_));refine tr_cond rfl (fun g9 => ?_) (fun g9 => ?_)
   ·replace H := H.1 g9;refine tr_region (tq (y_move rfl) (tq (y_add rfl rfl) (tq (y_assign rfl) (tr_nil (tr_blockN (tr_thenN ?_))))));exact tr_join [(0, x0.enc), (1, (.int .i64 x1)), (2, x2), (8, (.int .i64 x8)), (9, (.int .i64 (IntKind.wrap .i64 ((IntKind.wrap .i64 (Int.fdiv (IntKind.wrap .u64 (IntKind.wrap .i64 (x9 + x10))) (2 ^ (min (1 : Int).toNat (IntKind.bits .u64)) : Int))) + 1)))), (10, (.int .i64 x10))] ⟨rfl, rfl, rfl, rfl, rfl, rfl, trivial⟩ ⟨_, _, _, _, _, _, rfl, H⟩
   ·replace H := H.2 g9;refine tr_region (tq (y_move rfl) (tq (y_assign rfl) (tr_nil (tr_blockN (tr_thenN ?_)))));exact tr_join [(0, x0.enc), (1, (.int .i64 x1)), (2, x2), (8, (.int .i64 x8)), (9, (.int .i64 x9)), (10, (.int .i64 (IntKind.wrap .i64 (Int.fdiv (IntKind.wrap .u64 (IntKind.wrap .i64 (x9 + x10))) (2 ^ (min (1 : Int).toNat (IntKind.bits .u64)) : Int)))))] ⟨rfl, rfl, rfl, rfl, rfl, rfl, trivial⟩ ⟨_, _, _, _, _, _, rfl, H⟩
  ·replace H := H.2 g1;refine tr_exit (tr_thenE (tr_thenE (tr_hit (tr_thenN (tr_seq (tr_region (tq (y_move rfl) (tq (y_move rfl) (tq (y_move rfl) (tq (y_lss rfl rfl) (tq (y_move rfl) ?_)))))))))));refine tr_split (t := 39) rfl (fun g10 => ?_) (fun g10 => ?_)
   ·replace H := H.1 g10;refine tq (y_move rfl) (tq (y_move rfl) (tq (y_move rfl) ?_));obtain ⟨a11, e12, H⟩ := H;refine tq (f_idx (s := x0) Tryz.runUnderlying162 Tryz.sizeOf152 rfl rfl e12) ?_;obtain ⟨y13, k14, H⟩ := H;refine tr_h (y_ldS Tryz.isAgg152 Tryz.sizeOf152 rfl rfl) k14 rfl rfl (tq (y_move rfl) (tr_e (e_callD rfl rfl H) rfl rfl ?_));rintro _ h15 ⟨r16, rfl, H⟩;refine tq (y_eql rfl rfl) (tq (y_pick_t rfl rfl) (tq (y_assign rfl) (tq (y_assign rfl) (tr_nil (tr_thenN (tr_ret ?_))))));exact tr_ret2 rfl rfl rfl ⟨_, _, rfl, H⟩
   ·replace H := H.2 g10;refine ts (ts (ts (ts (ts (ts (ts (ts (tq (y_pick_f rfl rfl) (tq (y_assign rfl) (tq (y_assign rfl) (tr_nil (tr_thenN (tr_ret ?_)))))))))))));exact tr_ret2 rfl rfl rfl ⟨_, _, rfl, H⟩
def F.xcu (p0 : S_chain_version_api_Agg) (p1 : Int) (h : H) (Q : Int -> H -> Prop) : Prop :=
  new h p0.cells.toArray ty_152 fun a2 h1 =>
  ldI .i64 h1 (a2.add 0) fun y3 =>
  ((decide (y3 <= p1)) = true ->
  Q (-1) h1) ∧
  ((decide (y3 <= p1)) = false ->
  Q 1 h1)
theorem F.xcu_ok {p0 : S_chain_version_api_Agg} {p1 : Int} {h : H} {Q : Int -> H -> Prop} (H : F.xcu p0 p1 h Q) : Fn PP 127 ([(.agg p0.cells.toArray), (.int .i64 p1)] : List Value).toArray h fun r h' => ∃ r0, r = (.int .i64 r0) ∧ Q r0 h' := by
 unfold F.xcu at H;refine fn_of Tryz.func127 Tryz.ntmps127 rfl rfl fun w0 => (tr_sub [(0, (.agg p0.cells.toArray)), (1, (.int .i64 p1))] ⟨rfl, rfl, trivial⟩ (tr_seq (tr_region (tr_e (f_box (cs := p0.cells.toArray) rfl rfl H) rfl rfl ?_))));rintro _ h1 ⟨a2, rfl, H⟩;refine tq (y_assign rfl) (tr_nil (tr_thenN (tr_seq (tr_seq (tr_region (tq (y_fa (off := 0) Tryz.runUnderlying152 fo_152_0 rfl) ?_))))));obtain ⟨y3, k4, H⟩ := H;refine tr_h (y_ld Tryz.isAgg3 rfl) k4 rfl rfl (tq (y_move rfl) (tq (y_leq rfl rfl) (tr_nil (tr_thenN ?_))));refine tr_cond rfl (fun g5 => ?_) (fun g5 => ?_)
 ·replace H := H.1 g5;refine tr_seq (tr_region (tq (y_assign rfl) (tr_nil (tr_thenN (tr_ret (tr_thenR ?_))))));exact tr_ret1 rfl rfl ⟨_, rfl, H⟩
 ·replace H := H.2 g5;refine tr_skip (tr_thenN (tr_seq (tr_region (tq (y_assign rfl) (tr_nil (tr_thenN (tr_ret ?_)))))));exact tr_ret1 rfl rfl ⟨_, rfl, H⟩
def F.xbj (p0 : Option Addr) (p1 : Int) (h : H) (Q : Int -> H -> Prop) : Prop :=
  nn p0 fun a1 =>
  ldL h (a1.add 0) fun y3 =>
  F.xbi y3 p1 (.func (.func 127) #[] #[]) h fun r6 r7 h5 =>
  Q (IntKind.wrap .i64 (r6 - 1)) h5
theorem F.xbj_ok {p0 : Option Addr} {p1 : Int} {h : H} {Q : Int -> H -> Prop} (H : F.xbj p0 p1 h Q) : Fn PP 100 ([(.pointer p0), (.int .i64 p1)] : List Value).toArray h fun r h' => ∃ r0, r = (.int .i64 r0) ∧ Q r0 h' := by
 unfold F.xbj at H;refine fn_of Tryz.func100 Tryz.ntmps100 rfl rfl fun w0 => (tr_sub [(0, (.pointer p0)), (1, (.int .i64 p1))] ⟨rfl, rfl, trivial⟩ (tr_seq (tr_region (tq (y_assign rfl) (tr_nil (tr_thenN (tr_seq (tr_region (tq (y_move rfl) ?_)))))))));obtain ⟨a1, e2, H⟩ := H;refine tq (f_nn rfl e2) (tq (y_fa (off := 0) Tryz.runUnderlying164 fo_164_0 rfl) ?_);obtain ⟨y3, k4, H⟩ := H;refine tr_h (y_ld Tryz.isAgg162 rfl) k4 rfl rfl (tq (y_move rfl) (tr_e (e_call Tryz.call126 rfl (F.xbi_ok H)) rfl rfl ?_));rintro _ h5 ⟨r6, r7, rfl, H⟩;refine tq (y_move rfl) (tq (y_ext rfl rfl) (tq (y_ext rfl rfl) (tq (y_assign rfl) (tq (y_assign rfl) (tr_nil (tr_thenN (tr_seq (tr_region (tq (y_move rfl) (tq (y_sub rfl rfl) (tq (y_assign rfl) (tr_nil (tr_thenN ?_)))))))))))));refine tr_ret ?_;exact tr_ret1 rfl rfl ⟨_, rfl, H⟩
def F.xau.j1 (Q : S_api_Agg -> Bool -> H -> Prop) (x4 : Addr) (h : H) : Prop :=
  ld_S_api_Agg h x4 fun y3 =>
  stH h x4 y3.cells fun h5 =>
  ld_S_api_Agg h5 x4 fun y6 =>
  Q y6 false h5
def F.xau.j2 (Q : S_api_Agg -> Bool -> H -> Prop) (x0 : Option Addr) (x4 : Addr) (x6 : Int) (x22 : Bool) (h : H) : Prop :=
  (x22 = true ->
  nn x0 fun a11 =>
  ldL h (a11.add 0) fun y13 =>
  idxA y13 x6 6 fun a15 =>
  ld_S_api_Agg h (a15.add 1) fun y17 =>
  stH h x4 y17.cells fun h19 =>
  ld_S_api_Agg h19 x4 fun y20 =>
  Q y20 true h19) ∧
  (x22 = false ->
  F.xau.j1 Q x4 h)
def F.xau (p0 : Option Addr) (p1 : Int) (h : H) (Q : S_api_Agg -> Bool -> H -> Prop) : Prop :=
  new h (((⟨0, 0, 0, 0⟩ : S_api_Agg) : S_api_Agg).cells.toArray) ty_40 fun a2 h1 =>
  F.xbj p0 p1 h1 fun r9 h8 =>
  ((decide (r9 >= 0)) = true ->
  nn p0 fun a23 =>
  ldL h8 (a23.add 0) fun y25 =>
  idxA y25 r9 6 fun a27 =>
  ldB h8 (a27.add 5) fun y29 =>
  F.xau.j2 Q p0 a2 r9 (!y29) h8) ∧
  ((decide (r9 >= 0)) = false ->
  F.xau.j2 Q p0 a2 r9 false h8)
theorem F.xau_ok {p0 : Option Addr} {p1 : Int} {h : H} {Q : S_api_Agg -> Bool -> H -> Prop} (H : F.xau p0 p1 h Q) : Fn PP 108 ([(.pointer p0), (.int .i64 p1)] : List Value).toArray h fun r h' => ∃ r0 r1, r = .tuple #[(.agg r0.cells.toArray), (.bool r1)] ∧ Q r0 r1 h' := by
 unfold F.xau at H;refine fn_of Tryz.func108 Tryz.ntmps108 rfl rfl fun w0 => (tr_sub [(0, (.pointer p0)), (1, (.int .i64 p1))] ⟨rfl, rfl, trivial⟩ (tr_seq (tr_region (tr_e (f_alloc (cs := ((⟨0, 0, 0, 0⟩ : S_api_Agg) : S_api_Agg).cells.toArray) Tryz.zeroValue40 rfl H) rfl rfl ?_))));rintro _ h1 ⟨a2, rfl, H⟩;refine tq (y_assign rfl) (tr_nil (tr_thenN ?_));refine tr_seq_j (fun L' h => ∃ (x4 : Addr), L' = [(4, (.pointer (some x4)))] ∧ F.xau.j1 Q x4 h) ?_ ?_
 ·rintro L' h ⟨x4, rfl, H⟩;unfold F.xau.j1 at H;refine tr_seq (tr_region ?_);obtain ⟨y3, k4, H⟩ := H;refine tr_h (y_ldS Tryz.isAgg40 Tryz.sizeOf40 rfl rfl) k4 rfl rfl (tr_e (f_store (vs := y3.cells) Tryz.sizeOf40 rfl rfl cellsOfStruct rfl (by intro v hv; exact ones_S_api_Agg _ v hv) H) rfl rfl ?_);rintro _ h5 ⟨rfl, H⟩;refine tq (y_assign rfl) (tr_nil (tr_thenN (tr_ret ?_)));obtain ⟨y6, k7, H⟩ := H;exact tr_rv2 rfl (rv_cellS Tryz.isAgg40 Tryz.sizeOf40 rfl rfl k7) (rv_tmp rfl) ⟨_, _, rfl, H⟩
 ·refine tr_seq (tr_region (tq (y_move rfl) (tq (y_move rfl) (tr_e (e_call Tryz.call100 rfl (F.xbj_ok H)) rfl rfl ?_))));rintro _ h8 ⟨r9, rfl, H⟩;refine tq (y_assign rfl) (tr_nil (tr_thenN ?_));refine tr_seq_j (fun L' h => ∃ (x0 : Option Addr) (x4 : Addr) (x6 : Int) (x22 : Bool), L' = [(0, (.pointer x0)), (4, (.pointer (some x4))), (6, (.int .i64 x6)), (22, (.bool x22))] ∧ F.xau.j2 Q x0 x4 x6 x22 h) ?_ ?_
  ·rintro L' h ⟨x0, x4, x6, x22, rfl, H⟩;unfold F.xau.j2 at H;refine tr_cond rfl (fun g10 => ?_) (fun g10 => ?_)
   ·replace H := H.1 g10;refine tr_seq (tr_region (tq (y_move rfl) ?_));obtain ⟨a11, e12, H⟩ := H;refine tq (f_nn rfl e12) (tq (y_fa (off := 0) Tryz.runUnderlying164 fo_164_0 rfl) ?_);obtain ⟨y13, k14, H⟩ := H;refine tr_h (y_ld Tryz.isAgg162 rfl) k14 rfl rfl (tq (y_move rfl) ?_);obtain ⟨a15, e16, H⟩ := H;refine tq (f_idx (s := y13) Tryz.runUnderlying162 Tryz.sizeOf152 rfl rfl e16) (tq (y_fa (off := 1) Tryz.runUnderlying152 fo_152_1 rfl) ?_);obtain ⟨y17, k18, H⟩ := H;refine tr_h (y_ldS Tryz.isAgg40 Tryz.sizeOf40 rfl rfl) k18 rfl rfl (tr_e (f_store (vs := y17.cells) Tryz.sizeOf40 rfl rfl cellsOfStruct rfl (by intro v hv; exact ones_S_api_Agg _ v hv) H) rfl rfl ?_);rintro _ h19 ⟨rfl, H⟩;refine tq (y_assign rfl) (tr_nil (tr_thenN (tr_ret (tr_thenR ?_))));obtain ⟨y20, k21, H⟩ := H;exact tr_rv2 rfl (rv_cellS Tryz.isAgg40 Tryz.sizeOf40 rfl rfl k21) (rv_tmp rfl) ⟨_, _, rfl, H⟩
   ·replace H := H.2 g10;refine tr_skip (tr_thenN ?_);exact tr_join [(4, (.pointer (some x4)))] ⟨rfl, trivial⟩ ⟨_, rfl, H⟩
  ·refine tr_region (tq (y_move rfl) (tq (y_geq rfl rfl) (tq (y_move rfl) ?_)));refine tr_split (t := 12) rfl (fun g22 => ?_) (fun g22 => ?_)
   ·replace H := H.1 g22;refine tq (y_move rfl) ?_;obtain ⟨a23, e24, H⟩ := H;refine tq (f_nn rfl e24) (tq (y_fa (off := 0) Tryz.runUnderlying164 fo_164_0 rfl) ?_);obtain ⟨y25, k26, H⟩ := H;refine tr_h (y_ld Tryz.isAgg162 rfl) k26 rfl rfl (tq (y_move rfl) ?_);obtain ⟨a27, e28, H⟩ := H;refine tq (f_idx (s := y25) Tryz.runUnderlying162 Tryz.sizeOf152 rfl rfl e28) (tq (y_fa (off := 5) Tryz.runUnderlying152 fo_152_2 rfl) ?_);obtain ⟨y29, k30, H⟩ := H;refine tr_h (y_ld Tryz.isAgg4 rfl) k30 rfl rfl (tq (y_not rfl) (tq (y_pick_t rfl rfl) (tr_nil (tr_thenN ?_))));exact tr_join [(0, (.pointer p0)), (4, (.pointer (some a2))), (6, (.int .i64 r9)), (22, (.bool (!y29)))] ⟨rfl, rfl, rfl, rfl, trivial⟩ ⟨_, _, _, _, rfl, H⟩
   ·replace H := H.2 g22;refine ts (ts (ts (ts (ts (ts (ts (ts (ts (tq (y_pick_f rfl rfl) (tr_nil (tr_thenN ?_)))))))))));exact tr_join [(0, (.pointer p0)), (4, (.pointer (some a2))), (6, (.int .i64 r9)), (22, (.bool false))] ⟨rfl, rfl, rfl, rfl, trivial⟩ ⟨_, _, _, _, rfl, H⟩
def F.xbw (p0 : Option Addr) (p1 : Int) (h : H) (Q : S_api_Agg -> Bool -> H -> Prop) : Prop :=
  new h (((⟨0, 0, 0, 0⟩ : S_api_Agg) : S_api_Agg).cells.toArray) ty_40 fun a2 h1 =>
  (p0.isNone = true ->
  stH h1 a2 ((⟨0, 0, 0, 0⟩ : S_api_Agg).cells) fun h4 =>
  ld_S_api_Agg h4 a2 fun y5 =>
  Q y5 false h4) ∧
  (p0.isNone = false ->
  (((p1 == 0)) = true ->
  F.xbp p0 h1 fun r9 r10 r11 h8 =>
  new h8 (((⟨0, 0, 0, 0⟩ : S_api_Agg) : S_api_Agg).cells.toArray) ty_40 fun a13 h12 =>
  stH h12 a13 r9.cells fun h14 =>
  ld_S_api_Agg h14 a13 fun y15 =>
  stH h14 a2 y15.cells fun h17 =>
  ld_S_api_Agg h17 a2 fun y18 =>
  Q y18 r11 h17) ∧
  (((p1 == 0)) = false ->
  F.xau p0 p1 h1 fun r21 r22 h20 =>
  stH h20 a2 r21.cells fun h23 =>
  ld_S_api_Agg h23 a2 fun y24 =>
  Q y24 r22 h23))
theorem F.xbw_ok {p0 : Option Addr} {p1 : Int} {h : H} {Q : S_api_Agg -> Bool -> H -> Prop} (H : F.xbw p0 p1 h Q) : Fn PP 71 ([(.pointer p0), (.int .i64 p1)] : List Value).toArray h fun r h' => ∃ r0 r1, r = .tuple #[(.agg r0.cells.toArray), (.bool r1)] ∧ Q r0 r1 h' := by
 unfold F.xbw at H;refine fn_of Tryz.func71 Tryz.ntmps71 rfl rfl fun w0 => (tr_sub [(0, (.pointer p0)), (1, (.int .i64 p1))] ⟨rfl, rfl, trivial⟩ (tr_seq (tr_region (tr_e (f_alloc (cs := ((⟨0, 0, 0, 0⟩ : S_api_Agg) : S_api_Agg).cells.toArray) Tryz.zeroValue40 rfl H) rfl rfl ?_))));rintro _ h1 ⟨a2, rfl, H⟩;refine tq (y_assign rfl) (tr_nil (tr_thenN (tr_seq (tr_seq (tr_region (tq (y_move rfl) (tq (y_pnil_eql Tryz.runUnderlying107 rfl rfl) (tr_nil (tr_thenN ?_)))))))));refine tr_cond rfl (fun g3 => ?_) (fun g3 => ?_)
 ·replace H := H.1 g3;refine tr_seq (tr_region (tq (f_build rfl (bd_40_ )) (tr_e (f_store (vs := (⟨0, 0, 0, 0⟩ : S_api_Agg).cells) Tryz.sizeOf40 rfl rfl cellsOfStruct rfl (by intro v hv; exact ones_S_api_Agg _ v hv) H) rfl rfl ?_)));rintro _ h4 ⟨rfl, H⟩;refine tq (y_assign rfl) (tr_nil (tr_thenN (tr_ret (tr_thenR ?_))));obtain ⟨y5, k6, H⟩ := H;exact tr_rv2 rfl (rv_cellS Tryz.isAgg40 Tryz.sizeOf40 rfl rfl k6) (rv_tmp rfl) ⟨_, _, rfl, H⟩
 ·replace H := H.2 g3;refine tr_skip (tr_thenN (tr_seq (tr_seq (tr_region (tq (y_move rfl) (tq (y_eql rfl rfl) (tr_nil (tr_thenN ?_))))))));refine tr_cond rfl (fun g7 => ?_) (fun g7 => ?_)
  ·replace H := H.1 g7;refine tr_seq (tr_region (tq (y_move rfl) (tr_e (e_call Tryz.call65 rfl (F.xbp_ok H)) rfl rfl ?_)));rintro _ h8 ⟨r9, r10, r11, rfl, H⟩;refine tq (y_move rfl) (tq (y_ext rfl rfl) (tq (y_ext rfl rfl) (tq (y_ext rfl rfl) (tr_e (f_alloc (cs := ((⟨0, 0, 0, 0⟩ : S_api_Agg) : S_api_Agg).cells.toArray) Tryz.zeroValue40 rfl H) rfl rfl ?_))));rintro _ h12 ⟨a13, rfl, H⟩;refine tr_e (f_store (vs := r9.cells) Tryz.sizeOf40 rfl rfl cellsOfStruct rfl (by intro v hv; exact ones_S_api_Agg _ v hv) H) rfl rfl ?_;rintro _ h14 ⟨rfl, H⟩;refine tq (y_assign rfl) (tq (y_assign rfl) (tr_nil (tr_thenN (tr_seq (tr_region ?_)))));obtain ⟨y15, k16, H⟩ := H;refine tr_h (y_ldS Tryz.isAgg40 Tryz.sizeOf40 rfl rfl) k16 rfl rfl (tq (y_move rfl) (tr_e (f_store (vs := y15.cells) Tryz.sizeOf40 rfl rfl cellsOfStruct rfl (by intro v hv; exact ones_S_api_Agg _ v hv) H) rfl rfl ?_));rintro _ h17 ⟨rfl, H⟩;refine tq (y_assign rfl) (tr_nil (tr_thenN (tr_ret (tr_thenR ?_))));obtain ⟨y18, k19, H⟩ := H;exact tr_rv2 rfl (rv_cellS Tryz.isAgg40 Tryz.sizeOf40 rfl rfl k19) (rv_tmp rfl) ⟨_, _, rfl, H⟩
  ·replace H := H.2 g7;refine tr_skip (tr_thenN (tr_seq (tr_region (tq (y_move rfl) (tq (y_move rfl) (tr_e (e_call Tryz.call108 rfl (F.xau_ok H)) rfl rfl ?_))))));rintro _ h20 ⟨r21, r22, rfl, H⟩;refine tq (y_ext rfl rfl) (tq (y_ext rfl rfl) (tr_e (f_store (vs := r21.cells) Tryz.sizeOf40 rfl rfl cellsOfStruct rfl (by intro v hv; exact ones_S_api_Agg _ v hv) H) rfl rfl ?_));rintro _ h23 ⟨rfl, H⟩;refine tq (y_assign rfl) (tr_nil (tr_thenN (tr_ret ?_)));obtain ⟨y24, k25, H⟩ := H;exact tr_rv2 rfl (rv_cellS Tryz.isAgg40 Tryz.sizeOf40 rfl rfl k25) (rv_tmp rfl) ⟨_, _, rfl, H⟩
def F.xai.j1 (Q : Sl -> H -> Prop) (ds : List Nat) (x11 : Addr) (h : H) : Prop :=
  ldL h x11 fun y14 =>
  shuts ds h fun h16 =>
  Q y14 h16
def F.xai.j2 (Q : Sl -> H -> Prop) (K1 : H -> Prop) (J1 : Nat -> H -> Prop) (l1 : Nat) (x11 : Addr) (x15 : Addr) (x17 : Addr) (x47 : Bool) (h : H) : Prop :=
  (x47 = true ->
  ldL h x11 fun y44 =>
  ld_S_api_Cell h x15 fun y46 =>
  ld_S_api_Agg h x17 fun y48 =>
  newL h (((⟨y46, y48⟩ : S_api_Row).cells).toArray) ty_49 1 fun s51 h50 =>
  runL PP (Builtin.append_ #[51, 51] 51 #[y44.enc, s51.enc]) h50 fun s53 h52 =>
  stH h52 x11 [s53.enc] fun h54 =>
  K1 h54) ∧
  (x47 = false ->
  K1 h)
def F.xai (p0 : Option Addr) (p1 : Int) (p2 : S_api_Cell) (p3 : S_api_Cell) (p4 : Int) (h : H) (Q : Sl -> H -> Prop) : Prop :=
  new h #[(.int .i64 p1)] ty_3 fun a2 h1 =>
  new h1 p2.cells.toArray ty_35 fun a4 h3 =>
  new h3 p3.cells.toArray ty_35 fun a6 h5 =>
  new h5 #[(.int .i64 p4)] ty_3 fun a8 h7 =>
  new h7 #[(⟨none, 0, 0⟩ : Sl).enc] ty_51 fun a10 h9 =>
  new h9 #[.nilFunc] ty_128 fun a12 h11 =>
  stH h11 a12 [(.func (.func 72) #[] #[(.pointer (some a4)), (.pointer (some a6))])] fun h13 =>
  nn p0 fun a17 =>
  ldP h13 (a17.add 3) fun y19 =>
  F.xad y19 h13 fun r22 h21 =>
  rng PP r22 h21 [Code.exit 0] (fun bg1 l1 args h K1 J1 => ∃ (y1_25 : ByteArray), ∃ (y1_26 : Option Addr), args = [(.string y1_25), (.pointer y1_26)] ∧
    bg1 h fun h23 =>
    ldL h23 a10 fun y24 =>
    ldI .i64 h23 a8 fun y26 =>
    ((decide ((y24.len : Int) >= y26)) = true ->
    J1 0 h23) ∧
    ((decide ((y24.len : Int) >= y26)) = false ->
    F.xan y1_25 h23 fun r30 r31 h29 =>
    new h29 (((⟨0, (⟨#[]⟩ : ByteArray), 0⟩ : S_api_Cell) : S_api_Cell).cells.toArray) ty_35 fun a33 h32 =>
    stH h32 a33 r30.cells fun h34 =>
    ldI .i64 h34 a2 fun y35 =>
    F.xbw y1_26 y35 h34 fun r38 r39 h37 =>
    new h37 (((⟨0, 0, 0, 0⟩ : S_api_Agg) : S_api_Agg).cells.toArray) ty_40 fun a41 h40 =>
    stH h40 a41 r38.cells fun h42 =>
    (r39 = true ->
    ldV h42 a12 fun y56 =>
    ld_S_api_Cell h42 a33 fun y58 =>
    CV PP y56 [(.agg y58.cells.toArray)] h42 fun u h60 => ∃ (r61 : Bool), u = (.bool r61) ∧
    F.xai.j2 Q K1 J1 l1 a10 a33 a41 r61 h60) ∧
    (r39 = false ->
    F.xai.j2 Q K1 J1 l1 a10 a33 a41 false h42))) (fun h62 =>
    F.xai.j1 Q (h21.size :: ([] : List Nat)) a10 h62) (fun jj h63 =>
    (jj = 0 ->
      F.xai.j1 Q (h21.size :: ([] : List Nat)) a10 h63))
theorem F.xai_ok {p0 : Option Addr} {p1 : Int} {p2 : S_api_Cell} {p3 : S_api_Cell} {p4 : Int} {h : H} {Q : Sl -> H -> Prop} (H : F.xai p0 p1 p2 p3 p4 h Q) : Fn PP 39 ([(.pointer p0), (.int .i64 p1), (.agg p2.cells.toArray), (.agg p3.cells.toArray), (.int .i64 p4)] : List Value).toArray h fun r h' => ∃ r0, r = r0.enc ∧ Q r0 h' := by
  unfold F.xai at H
  refine fn_ofM Tryz.func39 Tryz.ntmps39 rfl rfl fun w0 => ?_
  refine tr_sub [(0, (.pointer p0)), (1, (.int .i64 p1)), (2, (.agg p2.cells.toArray)), (3, (.agg p3.cells.toArray)), (4, (.int .i64 p4))] ⟨rfl, rfl, rfl, rfl, rfl, trivial⟩ ?_
  refine tr_seq ?_
  refine tr_region ?_
  refine tr_e (f_box (cs := #[(.int .i64 p1)]) rfl rfl H) rfl rfl ?_
  rintro _ h1 ⟨a2, rfl, H⟩
  refine tr_e (f_box (cs := p2.cells.toArray) rfl rfl H) rfl rfl ?_
  rintro _ h3 ⟨a4, rfl, H⟩
  refine tr_e (f_box (cs := p3.cells.toArray) rfl rfl H) rfl rfl ?_
  rintro _ h5 ⟨a6, rfl, H⟩
  refine tr_e (f_box (cs := #[(.int .i64 p4)]) rfl rfl H) rfl rfl ?_
  rintro _ h7 ⟨a8, rfl, H⟩
  refine tr_p (y_assign rfl) rfl rfl ?_
  refine tr_nil ?_
  refine tr_thenN ?_
  refine tr_seq ?_
  refine tr_region ?_
  refine tr_e (f_alloc (cs := #[(⟨none, 0, 0⟩ : Sl).enc]) Tryz.zeroValue51 rfl H) rfl rfl ?_
  rintro _ h9 ⟨a10, rfl, H⟩
  refine tr_nil ?_
  refine tr_thenN ?_
  refine tr_seq ?_
  refine tr_region ?_
  refine tr_p (y_fn rfl rfl) rfl rfl ?_
  refine tr_e (f_alloc (cs := #[.nilFunc]) Tryz.zeroValue128 rfl H) rfl rfl ?_
  rintro _ h11 ⟨a12, rfl, H⟩
  refine tr_e (f_store (vs := [(.func (.func 72) #[] #[(.pointer (some a4)), (.pointer (some a6))])]) Tryz.sizeOf128 rfl rfl rfl rfl (one1 (by rfl)) H) rfl rfl ?_
  rintro _ h13 ⟨rfl, H⟩
  refine tr_nil ?_
  refine tr_thenN ?_
  refine tr_seq_jD (fun ds L' h => ∃ (x11 : Addr), L' = [(11, (.pointer (some x11)))] ∧ F.xai.j1 Q ds x11 h) ?_ ?_
  · rintro ds L' h ⟨x11, rfl, H⟩
    unfold F.xai.j1 at H
    refine tr_seq ?_
    refine tr_region ?_
    obtain ⟨y14, k15, H⟩ := H
    refine tr_h (y_ld Tryz.isAgg51 rfl) k15 rfl rfl ?_
    refine tr_p (y_assign rfl) rfl rfl ?_
    refine tr_nil ?_
    refine tr_thenN ?_
    refine tr_ret ?_
    refine tr_shut ds rfl H fun h16 H => ?_
    exact tr_ret1 rfl rfl ⟨_, rfl, H⟩
  · refine tr_seq ?_
    refine tr_region ?_
    refine tr_p (y_move rfl) rfl rfl ?_
    obtain ⟨a17, e18, H⟩ := H
    refine tr_p (f_nn rfl e18) rfl rfl ?_
    refine tr_p (y_fa (off := 3) Tryz.runUnderlying74 fo_74_1 rfl) rfl rfl ?_
    obtain ⟨y19, k20, H⟩ := H
    refine tr_h (y_ld Tryz.isAgg72 rfl) k20 rfl rfl ?_
    refine tr_e (e_call Tryz.call59 rfl (F.xad_ok H)) rfl rfl ?_
    rintro r22 h21 ⟨_, rfl, H⟩
    refine tr_nil ?_
    refine tr_thenN ?_
    refine tr_block ?_
    refine tr_range rfl (by kernel_rfl) H ?_ ?_ ?_
    · intro bg1 l1 args h K1 J1 w1 hbg1 H
      obtain ⟨y1_25, y1_26, rfl, H⟩ := H
      refine ⟨rfl, ?_⟩
      refine tr_sub [(0, (.pointer p0)), (1, (.int .i64 p1)), (2, (.agg p2.cells.toArray)), (3, (.agg p3.cells.toArray)), (4, (.int .i64 p4)), (6, (.pointer (some a2))), (7, (.pointer (some a4))), (8, (.pointer (some a6))), (9, (.pointer (some a8))), (10, (⟨none, 0, 0⟩ : Sl).enc), (11, (.pointer (some a10))), (19, (.func (.func 72) #[] #[(.pointer (some a4)), (.pointer (some a6))])), (12, (.pointer (some a12))), (20, (.pointer p0)), (21, (.pointer (some a17))), (22, (.pointer (some (a17.add 3)))), (23, (.pointer y19)), (24, r22), (25, (.string y1_25)), (26, (.pointer y1_26))] ⟨rfl, rfl, rfl, rfl, rfl, rfl, rfl, rfl, rfl, rfl, rfl, rfl, rfl, rfl, rfl, rfl, rfl, rfl, rfl, rfl, trivial⟩ ?_
      refine tr_seq ?_
      refine tr_region ?_
      refine tr_p (y_assign rfl) rfl rfl ?_
      refine tr_nil ?_
      refine tr_thenN ?_
      refine tr_region ?_
      refine tr_p (y_assign rfl) rfl rfl ?_
      refine tr_nil ?_
      refine tr_thenN ?_
      refine tr_bgn hbg1 H fun h23 H => ?_
      refine tr_block ?_
      refine tr_seq ?_
      refine tr_seq ?_
      refine tr_region ?_
      obtain ⟨y24, k25, H⟩ := H
      refine tr_h (y_ld Tryz.isAgg51 rfl) k25 rfl rfl ?_
      refine tr_p (y_len (ts := #[]) Tryz.runUnderlying51 (o := y24.ptr) (n := y24.len) (cap := y24.cap) rfl) rfl rfl ?_
      obtain ⟨y26, k27, H⟩ := H
      refine tr_h (y_ld Tryz.isAgg3 rfl) k27 rfl rfl ?_
      refine tr_p (y_geq rfl rfl) rfl rfl ?_
      refine tr_nil ?_
      refine tr_thenN ?_
      refine tr_cond rfl (fun g28 => ?_) (fun g28 => ?_)
      · replace H := H.1 g28
        refine tr_exit ?_
        refine tr_thenE ?_
        refine tr_miss rfl ?_
        exact tr_rE 0 rfl H
      · replace H := H.2 g28
        refine tr_skip ?_
        refine tr_thenN ?_
        refine tr_seq ?_
        refine tr_region ?_
        refine tr_p (y_move rfl) rfl rfl ?_
        refine tr_e (e_call Tryz.call73 rfl (F.xan_ok H)) rfl rfl ?_
        rintro _ h29 ⟨r30, r31, rfl, H⟩
        refine tr_p (y_move rfl) rfl rfl ?_
        refine tr_p (y_ext rfl rfl) rfl rfl ?_
        refine tr_p (y_ext rfl rfl) rfl rfl ?_
        refine tr_e (f_alloc (cs := ((⟨0, (⟨#[]⟩ : ByteArray), 0⟩ : S_api_Cell) : S_api_Cell).cells.toArray) Tryz.zeroValue35 rfl H) rfl rfl ?_
        rintro _ h32 ⟨a33, rfl, H⟩
        refine tr_e (f_store (vs := r30.cells) Tryz.sizeOf35 rfl rfl cellsOfStruct rfl (by intro v hv; exact ones_S_api_Cell _ v hv) H) rfl rfl ?_
        rintro _ h34 ⟨rfl, H⟩
        refine tr_p (y_assign rfl) rfl rfl ?_
        refine tr_nil ?_
        refine tr_thenN ?_
        refine tr_seq ?_
        refine tr_region ?_
        refine tr_p (y_move rfl) rfl rfl ?_
        obtain ⟨y35, k36, H⟩ := H
        refine tr_h (y_ld Tryz.isAgg3 rfl) k36 rfl rfl ?_
        refine tr_e (e_call Tryz.call71 rfl (F.xbw_ok H)) rfl rfl ?_
        rintro _ h37 ⟨r38, r39, rfl, H⟩
        refine tr_p (y_move rfl) rfl rfl ?_
        refine tr_p (y_ext rfl rfl) rfl rfl ?_
        refine tr_p (y_ext rfl rfl) rfl rfl ?_
        refine tr_e (f_alloc (cs := ((⟨0, 0, 0, 0⟩ : S_api_Agg) : S_api_Agg).cells.toArray) Tryz.zeroValue40 rfl H) rfl rfl ?_
        rintro _ h40 ⟨a41, rfl, H⟩
        refine tr_e (f_store (vs := r38.cells) Tryz.sizeOf40 rfl rfl cellsOfStruct rfl (by intro v hv; exact ones_S_api_Agg _ v hv) H) rfl rfl ?_
        rintro _ h42 ⟨rfl, H⟩
        refine tr_p (y_assign rfl) rfl rfl ?_
        refine tr_nil ?_
        refine tr_thenN ?_
        refine tr_seq_j (fun L' h => ∃ (x11 : Addr) (x15 : Addr) (x17 : Addr) (x47 : Bool), L' = [(11, (.pointer (some x11))), (15, (.pointer (some x15))), (17, (.pointer (some x17))), (47, (.bool x47))] ∧ F.xai.j2 Q K1 J1 l1 x11 x15 x17 x47 h) ?_ ?_
        · rintro L' h ⟨x11, x15, x17, x47, rfl, H⟩
          unfold F.xai.j2 at H
          refine tr_cond rfl (fun g43 => ?_) (fun g43 => ?_)
          · replace H := H.1 g43
            refine tr_region ?_
            obtain ⟨y44, k45, H⟩ := H
            refine tr_h (y_ld Tryz.isAgg51 rfl) k45 rfl rfl ?_
            obtain ⟨y46, k47, H⟩ := H
            refine tr_h (y_ldS Tryz.isAgg35 Tryz.sizeOf35 rfl rfl) k47 rfl rfl ?_
            obtain ⟨y48, k49, H⟩ := H
            refine tr_h (y_ldS Tryz.isAgg40 Tryz.sizeOf40 rfl rfl) k49 rfl rfl ?_
            refine tr_p (f_build rfl (bd_49_0_1 y46 y48)) rfl rfl ?_
            refine tr_e (f_buildL (cs := ((⟨y46, y48⟩ : S_api_Row).cells).toArray) rfl rfl (bl_51_1_0 (⟨y46, y48⟩ : S_api_Row)) H) rfl rfl ?_
            rintro _ h50 ⟨s51, rfl, H⟩
            refine tr_e (f_app rfl H) rfl rfl ?_
            rintro _ h52 ⟨s53, rfl, H⟩
            refine tr_e (f_store (vs := [s53.enc]) Tryz.sizeOf51 rfl rfl rfl rfl (one1 rfl) H) rfl rfl ?_
            rintro _ h54 ⟨rfl, H⟩
            refine tr_nil ?_
            refine tr_blockN ?_
            exact tr_rN H
          · replace H := H.2 g43
            refine tr_skip ?_
            refine tr_blockN ?_
            exact tr_rN H
        · refine tr_region ?_
          refine tr_p (y_move rfl) rfl rfl ?_
          refine tr_p (y_move rfl) rfl rfl ?_
          refine tr_split (t := 43) rfl (fun g55 => ?_) (fun g55 => ?_)
          · replace H := H.1 g55
            obtain ⟨y56, k57, H⟩ := H
            refine tr_h (y_ld Tryz.isAgg128 rfl) k57 rfl rfl ?_
            obtain ⟨y58, k59, H⟩ := H
            refine tr_h (y_ldS Tryz.isAgg35 Tryz.sizeOf35 rfl rfl) k59 rfl rfl ?_
            refine tr_e (e_callD rfl rfl H) rfl rfl ?_
            rintro _ h60 ⟨r61, rfl, H⟩
            refine tr_p (y_pick_t rfl rfl) rfl rfl ?_
            refine tr_nil ?_
            refine tr_thenN ?_
            exact tr_join [(11, (.pointer (some a10))), (15, (.pointer (some a33))), (17, (.pointer (some a41))), (47, (.bool r61))] ⟨rfl, rfl, rfl, rfl, trivial⟩ ⟨_, _, _, _, rfl, H⟩
          · replace H := H.2 g55
            refine tr_s rfl rfl ?_
            refine tr_s rfl rfl ?_
            refine tr_s rfl rfl ?_
            refine tr_p (y_pick_f rfl rfl) rfl rfl ?_
            refine tr_nil ?_
            refine tr_thenN ?_
            exact tr_join [(11, (.pointer (some a10))), (15, (.pointer (some a33))), (17, (.pointer (some a41))), (47, (.bool false))] ⟨rfl, rfl, rfl, rfl, trivial⟩ ⟨_, _, _, _, rfl, H⟩
    · intro h62 H
      refine tr_blockN ?_
      refine tr_thenN ?_
      exact tr_joinD (h21.size :: ([] : List Nat)) [(11, (.pointer (some a10)))] rfl ⟨rfl, trivial⟩ ⟨_, rfl, H⟩
    · intro jj c h63 hjc H
      rcases jj with _ | jj
      · obtain rfl : Code.exit 0 = c := by simpa using hjc
        replace H := H rfl
        refine tr_exit ?_
        refine tr_hit ?_
        refine tr_thenN ?_
        exact tr_joinD (h21.size :: ([] : List Nat)) [(11, (.pointer (some a10)))] rfl ⟨rfl, trivial⟩ ⟨_, rfl, H⟩
      · simp at hjc
def F.xbr (p0 : Sl) (h : H) (Q : Int -> H -> Prop) : Prop :=
  Q (p0.len : Int) h
theorem F.xbr_ok {p0 : Sl} {h : H} {Q : Int -> H -> Prop} (H : F.xbr p0 h Q) : Fn PP 204 ([p0.enc] : List Value).toArray h fun r h' => ∃ r0, r = (.int .i64 r0) ∧ Q r0 h' := by
 unfold F.xbr at H;refine fn_of Tryz.func204 Tryz.ntmps204 rfl rfl fun w0 => (tr_sub [(0, p0.enc)] ⟨rfl, trivial⟩ (tr_seq (tr_region (tq (y_assign rfl) (tr_nil (tr_thenN (tr_seq (tr_region (tq (y_move rfl) (tq (y_len (ts := #[]) Tryz.runUnderlying99 (o := p0.ptr) (n := p0.len) (cap := p0.cap) rfl) (tq (y_assign rfl) (tr_nil (tr_thenN ?_)))))))))))));refine tr_ret ?_;exact tr_ret1 rfl rfl ⟨_, rfl, H⟩
def F.xbt (p0 : Sl) (p1 : Int) (p2 : Int) (h : H) (Q : Bool -> H -> Prop) : Prop :=
  idxA p0 p1 2 fun a1 =>
  ldL h (a1.add 0) fun y3 =>
  idxA y3 0 7 fun a5 =>
  ld_S_api_Cell h (a5.add 0) fun y7 =>
  idxA p0 p2 2 fun a9 =>
  ldL h (a9.add 0) fun y11 =>
  idxA y11 0 7 fun a13 =>
  ld_S_api_Cell h (a13.add 0) fun y15 =>
  idxA p0 p1 2 fun a17 =>
  ldI .i64 h (a17.add 1) fun y19 =>
  idxA p0 p2 2 fun a21 =>
  ldI .i64 h (a21.add 1) fun y23 =>
  F.xbu y7 y15 h fun r26 h25 =>
  cellH h25 (a21.add 1) = some (.int .i64 y23) ∧
  cellH h25 (a17.add 1) = some (.int .i64 y19) ∧
  F.xba y19 y23 h25 fun r30 h29 =>
  newL h29 #[(.int .i64 r26), (.int .i64 r30)] ty_3 2 fun s32 h31 =>
  F.xam s32 h31 fun r34 h33 =>
  Q (decide (r34 < 0)) h33
theorem F.xbt_ok {p0 : Sl} {p1 : Int} {p2 : Int} {h : H} {Q : Bool -> H -> Prop} (H : F.xbt p0 p1 p2 h Q) : Fn PP 205 ([p0.enc, (.int .i64 p1), (.int .i64 p2)] : List Value).toArray h fun r h' => ∃ r0, r = (.bool r0) ∧ Q r0 h' := by
 unfold F.xbt at H;refine fn_of Tryz.func205 Tryz.ntmps205 rfl rfl fun w0 => (tr_sub [(0, p0.enc), (1, (.int .i64 p1)), (2, (.int .i64 p2))] ⟨rfl, rfl, rfl, trivial⟩ (tr_seq (tr_region (tq (y_assign rfl) (tr_nil (tr_thenN (tr_seq (tr_draw mixed [0, 0, 3, 7, 15, 31, 63, 127, 0, 0, 768, 1792, 3840, 7936, 16128, 32512, 65535, 0, 0, 393216, 917504, 1966080, 0, 0, 12582912, 29360128, 62914560, 134217727, 268435455, 536870911, 1073741823, 2147483647] (by kernel_rfl) (g_p 0 1 rfl (by kernel_rfl) (y_move rfl) rfl rfl (g_p 1 3 rfl (by kernel_rfl) (y_move rfl) rfl rfl ?_))))))))));obtain ⟨a1, e2, H⟩ := H;refine g_p 2 7 rfl (by kernel_rfl) (f_idx (s := p0) Tryz.runUnderlying99 Tryz.sizeOf101 rfl rfl e2) rfl rfl (g_p 3 15 rfl (by kernel_rfl) (y_fa (off := 0) Tryz.runUnderlying101 fo_101_0 rfl) rfl rfl ?_);obtain ⟨y3, k4, H⟩ := H;refine g_h 4 31 rfl (by kernel_rfl) (y_ld Tryz.isAgg51 rfl) k4 rfl rfl ?_;obtain ⟨a5, e6, H⟩ := H;refine g_p 5 63 rfl (by kernel_rfl) (f_idx (s := y3) Tryz.runUnderlying51 Tryz.sizeOf49 rfl rfl e6) rfl rfl (g_p 6 127 rfl (by kernel_rfl) (y_fa (off := 0) Tryz.runUnderlying49 fo_49_0 rfl) rfl rfl ?_);obtain ⟨y7, k8, H⟩ := H;refine g_h 7 255 rfl (by kernel_rfl) (y_ldS Tryz.isAgg35 Tryz.sizeOf35 rfl rfl) k8 rfl rfl (g_p 8 511 rfl (by kernel_rfl) (y_move rfl) rfl rfl (g_p 9 1023 rfl (by kernel_rfl) (y_move rfl) rfl rfl ?_));obtain ⟨a9, e10, H⟩ := H;refine g_p 10 2047 rfl (by kernel_rfl) (f_idx (s := p0) Tryz.runUnderlying99 Tryz.sizeOf101 rfl rfl e10) rfl rfl (g_p 11 4095 rfl (by kernel_rfl) (y_fa (off := 0) Tryz.runUnderlying101 fo_101_0 rfl) rfl rfl ?_);obtain ⟨y11, k12, H⟩ := H;refine g_h 12 8191 rfl (by kernel_rfl) (y_ld Tryz.isAgg51 rfl) k12 rfl rfl ?_;obtain ⟨a13, e14, H⟩ := H;refine g_p 13 16383 rfl (by kernel_rfl) (f_idx (s := y11) Tryz.runUnderlying51 Tryz.sizeOf49 rfl rfl e14) rfl rfl (g_p 14 32767 rfl (by kernel_rfl) (y_fa (off := 0) Tryz.runUnderlying49 fo_49_0 rfl) rfl rfl ?_);obtain ⟨y15, k16, H⟩ := H;refine g_h 15 65535 rfl (by kernel_rfl) (y_ldS Tryz.isAgg35 Tryz.sizeOf35 rfl rfl) k16 rfl rfl (g_p 17 196607 rfl (by kernel_rfl) (y_move rfl) rfl rfl (g_p 18 458751 rfl (by kernel_rfl) (y_move rfl) rfl rfl ?_));obtain ⟨a17, e18, H⟩ := H;refine g_p 19 983039 rfl (by kernel_rfl) (f_idx (s := p0) Tryz.runUnderlying99 Tryz.sizeOf101 rfl rfl e18) rfl rfl (g_p 20 2031615 rfl (by kernel_rfl) (y_fa (off := 1) Tryz.runUnderlying101 fo_101_1 rfl) rfl rfl ?_);obtain ⟨y19, k20, H⟩ := H;refine g_h 21 4128767 rfl (by kernel_rfl) (y_ld Tryz.isAgg3 rfl) k20 rfl rfl (g_p 22 8323071 rfl (by kernel_rfl) (y_move rfl) rfl rfl (g_p 23 16711679 rfl (by kernel_rfl) (y_move rfl) rfl rfl ?_));obtain ⟨a21, e22, H⟩ := H;refine g_p 24 33488895 rfl (by kernel_rfl) (f_idx (s := p0) Tryz.runUnderlying99 Tryz.sizeOf101 rfl rfl e22) rfl rfl (g_p 25 67043327 rfl (by kernel_rfl) (y_fa (off := 1) Tryz.runUnderlying101 fo_101_1 rfl) rfl rfl ?_);obtain ⟨y23, k24, H⟩ := H;refine g_h 26 134152191 rfl (by kernel_rfl) (y_ld Tryz.isAgg3 rfl) k24 rfl rfl (g_e 16 134217727 [(26, fun h => cellH h (a21.add 1) = some (.int .i64 y23)), (21, fun h => cellH h (a17.add 1) = some (.int .i64 y19))] (by kernel_rfl) rfl (by kernel_rfl) (e_call Tryz.call17 rfl (F.xbu_ok H)) rfl rfl ?_);rintro _ h25 ⟨r26, rfl, H⟩;obtain ⟨k27, k28, H⟩ := H;refine ⟨And.intro k27 (And.intro k28 trivial), ?_⟩;refine g_e 27 268435455 [] (by kernel_rfl) rfl (by kernel_rfl) (e_call Tryz.call48 rfl (F.xba_ok H)) rfl rfl ?_;rintro _ h29 ⟨r30, rfl, H⟩;refine ⟨trivial, ?_⟩;refine g_e 28 536870911 [] (by kernel_rfl) rfl (by kernel_rfl) (f_buildL (cs := #[(.int .i64 r26), (.int .i64 r30)]) rfl rfl (bl_42_2_0_1 r26 r30) H) rfl rfl ?_;rintro _ h31 ⟨s32, rfl, H⟩;refine ⟨trivial, ?_⟩;refine g_e 29 1073741823 [] (by kernel_rfl) rfl (by kernel_rfl) (e_call Tryz.call47 rfl (F.xam_ok H)) rfl rfl ?_;rintro _ h33 ⟨r34, rfl, H⟩;refine ⟨trivial, ?_⟩;refine g_p 30 2147483647 rfl (by kernel_rfl) (y_lss rfl rfl) rfl rfl (g_p 31 4294967295 rfl (by kernel_rfl) (y_assign rfl) rfl rfl (g_d (by kernel_rfl) (tr_thenN (tr_ret ?_))));exact tr_ret1 rfl rfl ⟨_, rfl, H⟩
def F.xbv (p0 : Sl) (p1 : Int) (p2 : Int) (h : H) (Q : H -> Prop) : Prop :=
  idxA p0 p2 2 fun a1 =>
  ld_S_merge_front h a1 fun y3 =>
  idxA p0 p1 2 fun a5 =>
  ld_S_merge_front h a5 fun y7 =>
  idxA p0 p1 2 fun a9 =>
  stH h a9 y3.cells fun h11 =>
  idxA p0 p2 2 fun a12 =>
  stH h11 a12 y7.cells fun h14 =>
  Q h14
theorem F.xbv_ok {p0 : Sl} {p1 : Int} {p2 : Int} {h : H} {Q : H -> Prop} (H : F.xbv p0 p1 p2 h Q) : Fn PP 206 ([p0.enc, (.int .i64 p1), (.int .i64 p2)] : List Value).toArray h fun r h' => r = .tuple #[] ∧ Q  h' := by
 unfold F.xbv at H;refine fn_of Tryz.func206 Tryz.ntmps206 rfl rfl fun w0 => (tr_sub [(0, p0.enc), (1, (.int .i64 p1)), (2, (.int .i64 p2))] ⟨rfl, rfl, rfl, trivial⟩ (tr_draw mixed [0, 0, 0, 0, 0, 0, 48, 112, 0, 0, 768, 1792, 4083, 8179, 16383, 32767] (by kernel_rfl) (g_p 0 1 rfl (by kernel_rfl) (y_move rfl) rfl rfl (g_p 1 3 rfl (by kernel_rfl) (y_move rfl) rfl rfl (g_p 2 7 rfl (by kernel_rfl) (y_move rfl) rfl rfl (g_p 3 15 rfl (by kernel_rfl) (y_move rfl) rfl rfl (g_p 4 31 rfl (by kernel_rfl) (y_move rfl) rfl rfl (g_p 5 63 rfl (by kernel_rfl) (y_move rfl) rfl rfl ?_))))))));obtain ⟨a1, e2, H⟩ := H;refine g_p 6 127 rfl (by kernel_rfl) (f_idx (s := p0) Tryz.runUnderlying99 Tryz.sizeOf101 rfl rfl e2) rfl rfl ?_;obtain ⟨y3, k4, H⟩ := H;refine g_h 7 255 rfl (by kernel_rfl) (y_ldS Tryz.isAgg101 Tryz.sizeOf101 rfl rfl) k4 rfl rfl (g_p 8 511 rfl (by kernel_rfl) (y_move rfl) rfl rfl (g_p 9 1023 rfl (by kernel_rfl) (y_move rfl) rfl rfl ?_));obtain ⟨a5, e6, H⟩ := H;refine g_p 10 2047 rfl (by kernel_rfl) (f_idx (s := p0) Tryz.runUnderlying99 Tryz.sizeOf101 rfl rfl e6) rfl rfl ?_;obtain ⟨y7, k8, H⟩ := H;refine g_h 11 4095 rfl (by kernel_rfl) (y_ldS Tryz.isAgg101 Tryz.sizeOf101 rfl rfl) k8 rfl rfl ?_;obtain ⟨a9, e10, H⟩ := H;refine g_p 12 8191 rfl (by kernel_rfl) (f_idx (s := p0) Tryz.runUnderlying99 Tryz.sizeOf101 rfl rfl e10) rfl rfl (g_e 13 16383 [] (by kernel_rfl) rfl (by kernel_rfl) (f_store (vs := y3.cells) Tryz.sizeOf101 rfl rfl cellsOfStruct rfl (by intro v hv; exact ones_S_merge_front _ v hv) H) rfl rfl ?_);rintro _ h11 ⟨rfl, H⟩;refine ⟨trivial, ?_⟩;obtain ⟨a12, e13, H⟩ := H;refine g_p 14 32767 rfl (by kernel_rfl) (f_idx (s := p0) Tryz.runUnderlying99 Tryz.sizeOf101 rfl rfl e13) rfl rfl (g_e 15 65535 [] (by kernel_rfl) rfl (by kernel_rfl) (f_store (vs := y7.cells) Tryz.sizeOf101 rfl rfl cellsOfStruct rfl (by intro v hv; exact ones_S_merge_front _ v hv) H) rfl rfl ?_);rintro _ h14 ⟨rfl, H⟩;refine ⟨trivial, ?_⟩;refine g_d (by kernel_rfl) ?_;exact tr_end0 rfl ⟨rfl, H⟩
def F.xab.j1 (Q : Bool -> H -> Prop) (x1 : Int) (x7 : Int) (h : H) : Prop :=
  Q (decide (x7 > x1)) h
def F.xab.j4 (Q : Bool -> H -> Prop) (C1 : (Option Addr) -> Int -> Int -> Int -> H -> Prop) (x0 : Option Addr) (x1 : Int) (x2 : Int) (x7 : Int) (x9 : Int) (h : H) : Prop :=
  nn x0 fun a2 =>
  ldL h a2 fun y3 =>
  F.xbt y3 x9 x7 h fun r4 h1 =>
  ((!r4) = true ->
  F.xab.j1 Q x1 x7 h1) ∧
  ((!r4) = false ->
  nn x0 fun a7 =>
  ldL h1 a7 fun y8 =>
  F.xbv y8 x7 x9 h1 fun h6 =>
  C1 x0 x1 x2 x9 h6)
def F.xab.j5 (Q : Bool -> H -> Prop) (C1 : (Option Addr) -> Int -> Int -> Int -> H -> Prop) (x0 : Option Addr) (x1 : Int) (x2 : Int) (x7 : Int) (x9 : Int) (x10 : Int) (x33 : Bool) (h : H) : Prop :=
  (x33 = true ->
  F.xab.j4 Q C1 x0 x1 x2 x7 x10 h) ∧
  (x33 = false ->
  F.xab.j4 Q C1 x0 x1 x2 x7 x9 h)
def F.xab.j3 (Q : Bool -> H -> Prop) (C1 : (Option Addr) -> Int -> Int -> Int -> H -> Prop) (x0 : Option Addr) (x1 : Int) (x2 : Int) (x7 : Int) (x8 : Int) (h : H) : Prop :=
  ((decide ((IntKind.wrap .i64 (x8 + 1)) < x2)) = true ->
  nn x0 fun a12 =>
  ldL h a12 fun y13 =>
  F.xbt y13 (IntKind.wrap .i64 (x8 + 1)) x8 h fun r14 h11 =>
  F.xab.j5 Q C1 x0 x1 x2 x7 x8 (IntKind.wrap .i64 (x8 + 1)) r14 h11) ∧
  ((decide ((IntKind.wrap .i64 (x8 + 1)) < x2)) = false ->
  F.xab.j5 Q C1 x0 x1 x2 x7 x8 (IntKind.wrap .i64 (x8 + 1)) false h)
def F.xab.j6 (Q : Bool -> H -> Prop) (C1 : (Option Addr) -> Int -> Int -> Int -> H -> Prop) (x0 : Option Addr) (x1 : Int) (x2 : Int) (x7 : Int) (x8 : Int) (x21 : Bool) (h : H) : Prop :=
  (x21 = true ->
  F.xab.j1 Q x1 x7 h) ∧
  (x21 = false ->
  F.xab.j3 Q C1 x0 x1 x2 x7 x8 h)
def F.xab.l2 (Q : Bool -> H -> Prop) : Nat -> (Option Addr) -> Int -> Int -> Int -> H -> Prop
  | 0, _, _, _, _, _ => False
  | q2 + 1, x0, x1, x2, x7, h =>
    ((decide ((IntKind.wrap .i64 ((IntKind.wrap .i64 (2 * x7)) + 1)) >= x2)) = true ->
    F.xab.j6 Q (F.xab.l2 Q q2) x0 x1 x2 x7 (IntKind.wrap .i64 ((IntKind.wrap .i64 (2 * x7)) + 1)) true h) ∧
    ((decide ((IntKind.wrap .i64 ((IntKind.wrap .i64 (2 * x7)) + 1)) >= x2)) = false ->
    F.xab.j6 Q (F.xab.l2 Q q2) x0 x1 x2 x7 (IntKind.wrap .i64 ((IntKind.wrap .i64 (2 * x7)) + 1)) (decide ((IntKind.wrap .i64 ((IntKind.wrap .i64 (2 * x7)) + 1)) < 0)) h)
def F.xab (p0 : Option Addr) (p1 : Int) (p2 : Int) (h : H) (Q : Bool -> H -> Prop) : Prop :=
  ∃ m, F.xab.l2 Q m p0 p1 p2 p1 h
theorem F.xab_ok {p0 : Option Addr} {p1 : Int} {p2 : Int} {h : H} {Q : Bool -> H -> Prop} (H : F.xab p0 p1 p2 h Q) : Fn PP 92 ([(.iface 103 (.pointer p0)), (.int .i64 p1), (.int .i64 p2)] : List Value).toArray h fun r h' => ∃ r0, r = (.bool r0) ∧ Q r0 h' := by
 unfold F.xab at H;refine fn_of Tryz.func92 Tryz.ntmps92 rfl rfl fun w0 => (tr_sub [(0, (.iface 103 (.pointer p0))), (1, (.int .i64 p1)), (2, (.int .i64 p2))] ⟨rfl, rfl, rfl, trivial⟩ (tr_seq (tr_region (tq (y_assign rfl) (tr_nil (tr_thenN (tr_seq (tr_region (tq (y_move rfl) (tq (y_assign rfl) (tr_nil (tr_thenN ?_))))))))))));refine tr_seq_j (fun L' h => ∃ (x1 : Int) (x7 : Int), L' = [(1, (.int .i64 x1)), (7, (.int .i64 x7))] ∧ F.xab.j1 Q x1 x7 h) ?_ ?_
 ·rintro L' h ⟨x1, x7, rfl, H⟩;unfold F.xab.j1 at H;refine tr_seq (tr_region (tq (y_move rfl) (tq (y_move rfl) (tq (y_gtr rfl rfl) (tq (y_assign rfl) (tr_nil (tr_thenN (tr_ret ?_))))))));exact tr_ret1 rfl rfl ⟨_, rfl, H⟩
 ·refine tr_block ?_;obtain ⟨m17, H⟩ := H;refine tr_sub [(0, (.iface 103 (.pointer p0))), (1, (.int .i64 p1)), (2, (.int .i64 p2)), (7, (.int .i64 p1))] ⟨rfl, rfl, rfl, rfl, trivial⟩ ?_;refine tr_loop_j (fun m L' h => ∃ (x0 : Option Addr) (x1 : Int) (x2 : Int) (x7 : Int), L' = [(0, (.iface 103 (.pointer x0))), (1, (.int .i64 x1)), (2, (.int .i64 x2)), (7, (.int .i64 x7))] ∧ F.xab.l2 Q m x0 x1 x2 x7 h) ?_ ?_ m17 ⟨_, _, _, _, rfl, H⟩
  ·rintro L' h ⟨_, _, _, _, _, H⟩; exact H
  ·rintro q2 L' h ⟨x0, x1, x2, x7, rfl, H⟩;unfold F.xab.l2 at H;refine tr_block (tr_seq (tr_region (tq (y_move rfl) (tq (y_mul rfl rfl) (tq (y_add rfl rfl) (tq (y_assign rfl) (tr_nil (tr_thenN ?_))))))));refine tr_seq_j (fun L' h => ∃ (x0 : Option Addr) (x1 : Int) (x2 : Int) (x7 : Int) (x8 : Int), L' = [(0, (.iface 103 (.pointer x0))), (1, (.int .i64 x1)), (2, (.int .i64 x2)), (7, (.int .i64 x7)), (8, (.int .i64 x8))] ∧ F.xab.j3 Q (F.xab.l2 Q q2) x0 x1 x2 x7 x8 h) ?_ ?_
   ·rintro L' h ⟨x0, x1, x2, x7, x8, rfl, H⟩;unfold F.xab.j3 at H;refine tr_seq (tr_region (tq (y_move rfl) (tq (y_assign rfl) (tr_nil (tr_thenN ?_)))));refine tr_seq_j (fun L' h => ∃ (x0 : Option Addr) (x1 : Int) (x2 : Int) (x7 : Int) (x9 : Int), L' = [(0, (.iface 103 (.pointer x0))), (1, (.int .i64 x1)), (2, (.int .i64 x2)), (7, (.int .i64 x7)), (9, (.int .i64 x9))] ∧ F.xab.j4 Q (F.xab.l2 Q q2) x0 x1 x2 x7 x9 h) ?_ ?_
    ·rintro L' h ⟨x0, x1, x2, x7, x9, rfl, H⟩;unfold F.xab.j4 at H;refine tr_seq (tr_seq (tr_region (tq (y_move rfl) (tq (y_move rfl) (tq (y_move rfl) (tr_e (e_invL mt_103_Less Tryz.isAgg99 Tryz.call205 rfl rfl (inv_map (fun y3 H => (F.xbt_ok H)) H)) rfl rfl ?_))))));rintro _ h1 ⟨r4, rfl, H⟩;refine tq (y_not rfl) (tr_nil (tr_thenN ?_));refine tr_cond rfl (fun g5 => ?_) (fun g5 => ?_)
     ·replace H := H.1 g5;refine tr_exit (tr_thenE (tr_miss rfl (tr_thenE (tr_hit (tr_thenN ?_)))));exact tr_join [(1, (.int .i64 x1)), (7, (.int .i64 x7))] ⟨rfl, rfl, trivial⟩ ⟨_, _, rfl, H⟩
     ·replace H := H.2 g5;refine tr_skip (tr_thenN (tr_seq (tr_region (tq (y_move rfl) (tq (y_move rfl) (tq (y_move rfl) (tr_e (e_invL mt_103_Swap Tryz.isAgg99 Tryz.call206 rfl rfl (inv_map (fun y8 H => (F.xbv_ok H)) H)) rfl rfl ?_)))))));rintro _ h6 ⟨rfl, H⟩;refine tr_nil (tr_thenN (tr_region (tq (y_move rfl) (tq (y_assign rfl) (tr_nil (tr_blockN (tr_thenN ?_)))))));exact tr_join [(0, (.iface 103 (.pointer x0))), (1, (.int .i64 x1)), (2, (.int .i64 x2)), (7, (.int .i64 x9))] ⟨rfl, rfl, rfl, rfl, trivial⟩ ⟨_, _, _, _, rfl, H⟩
    ·refine tr_seq (tr_region (tq (y_move rfl) (tq (y_add rfl rfl) (tq (y_assign rfl) (tr_nil (tr_thenN ?_))))));refine tr_seq_j (fun L' h => ∃ (x0 : Option Addr) (x1 : Int) (x2 : Int) (x7 : Int) (x9 : Int) (x10 : Int) (x33 : Bool), L' = [(0, (.iface 103 (.pointer x0))), (1, (.int .i64 x1)), (2, (.int .i64 x2)), (7, (.int .i64 x7)), (9, (.int .i64 x9)), (10, (.int .i64 x10)), (33, (.bool x33))] ∧ F.xab.j5 Q (F.xab.l2 Q q2) x0 x1 x2 x7 x9 x10 x33 h) ?_ ?_
     ·rintro L' h ⟨x0, x1, x2, x7, x9, x10, x33, rfl, H⟩;unfold F.xab.j5 at H;refine tr_cond rfl (fun g9 => ?_) (fun g9 => ?_)
      ·replace H := H.1 g9;refine tr_region (tq (y_move rfl) (tq (y_assign rfl) (tr_nil (tr_thenN ?_))));exact tr_join [(0, (.iface 103 (.pointer x0))), (1, (.int .i64 x1)), (2, (.int .i64 x2)), (7, (.int .i64 x7)), (9, (.int .i64 x10))] ⟨rfl, rfl, rfl, rfl, rfl, trivial⟩ ⟨_, _, _, _, _, rfl, H⟩
      ·replace H := H.2 g9;refine tr_skip (tr_thenN ?_);exact tr_join [(0, (.iface 103 (.pointer x0))), (1, (.int .i64 x1)), (2, (.int .i64 x2)), (7, (.int .i64 x7)), (9, (.int .i64 x9))] ⟨rfl, rfl, rfl, rfl, rfl, trivial⟩ ⟨_, _, _, _, _, rfl, H⟩
     ·refine tr_region (tq (y_move rfl) (tq (y_move rfl) (tq (y_lss rfl rfl) (tq (y_move rfl) ?_))));refine tr_split (t := 28) rfl (fun g10 => ?_) (fun g10 => ?_)
      ·replace H := H.1 g10;refine tq (y_move rfl) (tq (y_move rfl) (tq (y_move rfl) (tr_e (e_invL mt_103_Less Tryz.isAgg99 Tryz.call205 rfl rfl (inv_map (fun y13 H => (F.xbt_ok H)) H)) rfl rfl ?_)));rintro _ h11 ⟨r14, rfl, H⟩;refine tq (y_pick_t rfl rfl) (tr_nil (tr_thenN ?_));exact tr_join [(0, (.iface 103 (.pointer x0))), (1, (.int .i64 x1)), (2, (.int .i64 x2)), (7, (.int .i64 x7)), (9, (.int .i64 x8)), (10, (.int .i64 (IntKind.wrap .i64 (x8 + 1)))), (33, (.bool r14))] ⟨rfl, rfl, rfl, rfl, rfl, rfl, rfl, trivial⟩ ⟨_, _, _, _, _, _, _, rfl, H⟩
      ·replace H := H.2 g10;refine ts (ts (ts (ts (tq (y_pick_f rfl rfl) (tr_nil (tr_thenN ?_))))));exact tr_join [(0, (.iface 103 (.pointer x0))), (1, (.int .i64 x1)), (2, (.int .i64 x2)), (7, (.int .i64 x7)), (9, (.int .i64 x8)), (10, (.int .i64 (IntKind.wrap .i64 (x8 + 1)))), (33, (.bool false))] ⟨rfl, rfl, rfl, rfl, rfl, rfl, rfl, trivial⟩ ⟨_, _, _, _, _, _, _, rfl, H⟩
   ·refine tr_seq_j (fun L' h => ∃ (x0 : Option Addr) (x1 : Int) (x2 : Int) (x7 : Int) (x8 : Int) (x21 : Bool), L' = [(0, (.iface 103 (.pointer x0))), (1, (.int .i64 x1)), (2, (.int .i64 x2)), (7, (.int .i64 x7)), (8, (.int .i64 x8)), (21, (.bool x21))] ∧ F.xab.j6 Q (F.xab.l2 Q q2) x0 x1 x2 x7 x8 x21 h) ?_ ?_
    ·rintro L' h ⟨x0, x1, x2, x7, x8, x21, rfl, H⟩;unfold F.xab.j6 at H;refine tr_cond rfl (fun g15 => ?_) (fun g15 => ?_)
     ·replace H := H.1 g15;refine tr_exit (tr_thenE (tr_miss rfl (tr_thenE (tr_hit (tr_thenN ?_)))));exact tr_join [(1, (.int .i64 x1)), (7, (.int .i64 x7))] ⟨rfl, rfl, trivial⟩ ⟨_, _, rfl, H⟩
     ·replace H := H.2 g15;refine tr_skip (tr_thenN ?_);exact tr_join [(0, (.iface 103 (.pointer x0))), (1, (.int .i64 x1)), (2, (.int .i64 x2)), (7, (.int .i64 x7)), (8, (.int .i64 x8))] ⟨rfl, rfl, rfl, rfl, rfl, trivial⟩ ⟨_, _, _, _, _, rfl, H⟩
    ·refine tr_region (tq (y_move rfl) (tq (y_move rfl) (tq (y_geq rfl rfl) (tq (y_move rfl) ?_))));refine tr_split (t := 18) rfl (fun g16 => ?_) (fun g16 => ?_)
     ·replace H := H.1 g16;refine ts (ts (tq (y_pick_t rfl rfl) (tr_nil (tr_thenN ?_))));exact tr_join [(0, (.iface 103 (.pointer x0))), (1, (.int .i64 x1)), (2, (.int .i64 x2)), (7, (.int .i64 x7)), (8, (.int .i64 (IntKind.wrap .i64 ((IntKind.wrap .i64 (2 * x7)) + 1)))), (21, (.bool true))] ⟨rfl, rfl, rfl, rfl, rfl, rfl, trivial⟩ ⟨_, _, _, _, _, _, rfl, H⟩
     ·replace H := H.2 g16;refine tq (y_move rfl) (tq (y_lss rfl rfl) (tq (y_pick_f rfl rfl) (tr_nil (tr_thenN ?_))));exact tr_join [(0, (.iface 103 (.pointer x0))), (1, (.int .i64 x1)), (2, (.int .i64 x2)), (7, (.int .i64 x7)), (8, (.int .i64 (IntKind.wrap .i64 ((IntKind.wrap .i64 (2 * x7)) + 1)))), (21, (.bool (decide ((IntKind.wrap .i64 ((IntKind.wrap .i64 (2 * x7)) + 1)) < 0))))] ⟨rfl, rfl, rfl, rfl, rfl, rfl, trivial⟩ ⟨_, _, _, _, _, _, rfl, H⟩
def F.xbl.l1 (Q : H -> Prop) : Nat -> (Option Addr) -> Int -> Int -> H -> Prop
  | 0, _, _, _, _ => False
  | q1 + 1, x0, x2, x3, h =>
    ((decide (x3 >= 0)) = true ->
    F.xab x0 x3 x2 h fun r8 h7 =>
    (F.xbl.l1 Q q1) x0 x2 (IntKind.wrap .i64 (x3 - 1)) h7) ∧
    ((decide (x3 >= 0)) = false ->
    Q h)
def F.xbl (p0 : Option Addr) (h : H) (Q : H -> Prop) : Prop :=
  nn p0 fun a2 =>
  ldL h a2 fun y3 =>
  F.xbr y3 h fun r4 h1 =>
  (2 : Int) ≠ 0 ∧
  ∃ m, F.xbl.l1 Q m p0 r4 (IntKind.wrap .i64 ((IntKind.wrap .i64 (Int.tdiv r4 2)) - 1)) h1
theorem F.xbl_ok {p0 : Option Addr} {h : H} {Q : H -> Prop} (H : F.xbl p0 h Q) : Fn PP 52 ([(.iface 103 (.pointer p0))] : List Value).toArray h fun r h' => r = .tuple #[] ∧ Q  h' := by
 unfold F.xbl at H;refine fn_of Tryz.func52 Tryz.ntmps52 rfl rfl fun w0 => (tr_sub [(0, (.iface 103 (.pointer p0)))] ⟨rfl, trivial⟩ (tr_seq (tr_region (tq (y_move rfl) (tr_e (e_invL mt_103_Len Tryz.isAgg99 Tryz.call204 rfl rfl (inv_map (fun y3 H => (F.xbr_ok H)) H)) rfl rfl ?_)))));rintro _ h1 ⟨r4, rfl, H⟩;refine tq (y_assign rfl) (tr_nil (tr_thenN (tr_seq (tr_region (tq (y_move rfl) ?_)))));obtain ⟨e5, H⟩ := H;refine tq (y_quo rfl rfl e5) (tq (y_sub rfl rfl) (tq (y_assign rfl) (tr_nil (tr_thenN (tr_block ?_)))));obtain ⟨m9, H⟩ := H;refine tr_sub [(0, (.iface 103 (.pointer p0))), (2, (.int .i64 r4)), (3, (.int .i64 (IntKind.wrap .i64 ((IntKind.wrap .i64 (Int.tdiv r4 2)) - 1))))] ⟨rfl, rfl, rfl, trivial⟩ ?_;refine tr_loop_j (fun m L' h => ∃ (x0 : Option Addr) (x2 : Int) (x3 : Int), L' = [(0, (.iface 103 (.pointer x0))), (2, (.int .i64 x2)), (3, (.int .i64 x3))] ∧ F.xbl.l1 Q m x0 x2 x3 h) ?_ ?_ m9 ⟨_, _, _, rfl, H⟩
 ·rintro L' h ⟨_, _, _, _, H⟩; exact H
 ·rintro q1 L' h ⟨x0, x2, x3, rfl, H⟩;unfold F.xbl.l1 at H;refine tr_seq (tr_seq (tr_region (tq (y_move rfl) (tq (y_geq rfl rfl) (tr_nil (tr_thenN ?_))))));refine tr_cond rfl (fun g6 => ?_) (fun g6 => ?_)
  ·replace H := H.1 g6;refine tr_skip (tr_thenN (tr_seq (tr_block (tr_region (tq (y_move rfl) (tq (y_move rfl) (tq (y_move rfl) (tr_e (e_call Tryz.call92 rfl (F.xab_ok H)) rfl rfl ?_))))))));rintro _ h7 ⟨r8, rfl, H⟩;refine tr_nil (tr_blockN (tr_thenN (tr_region (tq (y_move rfl) (tq (y_sub rfl rfl) (tq (y_assign rfl) (tr_nil (tr_thenN ?_))))))));exact tr_join [(0, (.iface 103 (.pointer x0))), (2, (.int .i64 x2)), (3, (.int .i64 (IntKind.wrap .i64 (x3 - 1))))] ⟨rfl, rfl, rfl, trivial⟩ ⟨_, _, _, rfl, H⟩
  ·replace H := H.2 g6;refine tr_exit (tr_thenE (tr_thenE (tr_hit ?_)));exact tr_end0 rfl ⟨rfl, H⟩
def F.xcl (p0 : Option Addr) (h : H) (Q : Value -> H -> Prop) : Prop :=
  nn p0 fun a1 =>
  ldL h a1 fun y3 =>
  idxA y3 (IntKind.wrap .i64 ((y3.len : Int) - 1)) 2 fun a5 =>
  ld_S_merge_front h a5 fun y7 =>
  new h (((⟨(⟨none, 0, 0⟩ : Sl), 0⟩ : S_merge_front) : S_merge_front).cells.toArray) ty_101 fun a10 h9 =>
  stH h9 a10 y7.cells fun h11 =>
  cutL y3 0 (IntKind.wrap .i64 ((y3.len : Int) - 1)) 2 fun s13 =>
  nn p0 fun a14 =>
  stH h11 a14 [s13.enc] fun h16 =>
  ld_S_merge_front h16 a10 fun y17 =>
  Q (.iface 101 (.agg y17.cells.toArray)) h16
theorem F.xcl_ok {p0 : Option Addr} {h : H} {Q : Value -> H -> Prop} (H : F.xcl p0 h Q) : Fn PP 207 ([(.pointer p0)] : List Value).toArray h fun r h' => ∃ r0, r = r0 ∧ Q r0 h' := by
 unfold F.xcl at H;refine fn_of Tryz.func207 Tryz.ntmps207 rfl rfl fun w0 => (tr_sub [(0, (.pointer p0))] ⟨rfl, trivial⟩ (tr_seq (tr_region (tq (y_assign rfl) (tr_nil (tr_thenN (tr_seq (tr_region (tq (y_move rfl) ?_)))))))));obtain ⟨a1, e2, H⟩ := H;refine tq (f_nn rfl e2) ?_;obtain ⟨y3, k4, H⟩ := H;refine tr_h (y_ld Tryz.isAgg99 rfl) k4 rfl rfl (tq (y_assign rfl) (tr_nil (tr_thenN (tr_seq (tr_region (tq (y_move rfl) (tq (y_move rfl) (tq (y_len (ts := #[]) Tryz.runUnderlying99 (o := y3.ptr) (n := y3.len) (cap := y3.cap) rfl) (tq (y_sub rfl rfl) ?_)))))))));obtain ⟨a5, e6, H⟩ := H;refine tq (f_idx (s := y3) Tryz.runUnderlying99 Tryz.sizeOf101 rfl rfl e6) ?_;obtain ⟨y7, k8, H⟩ := H;refine tr_h (y_ldS Tryz.isAgg101 Tryz.sizeOf101 rfl rfl) k8 rfl rfl (tr_e (f_alloc (cs := ((⟨(⟨none, 0, 0⟩ : Sl), 0⟩ : S_merge_front) : S_merge_front).cells.toArray) Tryz.zeroValue101 rfl H) rfl rfl ?_);rintro _ h9 ⟨a10, rfl, H⟩;refine tr_e (f_store (vs := y7.cells) Tryz.sizeOf101 rfl rfl cellsOfStruct rfl (by intro v hv; exact ones_S_merge_front _ v hv) H) rfl rfl ?_;rintro _ h11 ⟨rfl, H⟩;refine tr_nil (tr_thenN (tr_seq (tr_region (tq (y_move rfl) (tq (y_move rfl) (tq (y_move rfl) (tq (y_len (ts := #[]) Tryz.runUnderlying99 (o := y3.ptr) (n := y3.len) (cap := y3.cap) rfl) (tq (y_sub rfl rfl) ?_))))))));obtain ⟨s13, e12, H⟩ := H;refine tq (f_cutL (s := y3) none (some (.i64, (IntKind.wrap .i64 ((y3.len : Int) - 1)))) Tryz.runUnderlying99 Tryz.sizeOf101 rfl rfl rfl e12) ?_;obtain ⟨a14, e15, H⟩ := H;refine tq (f_nn rfl e15) (tr_e (f_store (vs := [s13.enc]) Tryz.sizeOf99 rfl rfl rfl rfl (one1 rfl) H) rfl rfl ?_);rintro _ h16 ⟨rfl, H⟩;refine tr_nil (tr_thenN (tr_seq (tr_region ?_)));obtain ⟨y17, k18, H⟩ := H;refine tr_h (y_ldS Tryz.isAgg101 Tryz.sizeOf101 rfl rfl) k18 rfl rfl (tq (y_mkif Tryz.runUnderlying101 rfl rfl) (tq (y_assign rfl) (tr_nil (tr_thenN (tr_ret ?_)))));exact tr_ret1 rfl rfl ⟨_, rfl, H⟩
def F.xci (p0 : Option Addr) (h : H) (Q : Value -> H -> Prop) : Prop :=
  nn p0 fun a2 =>
  ldL h a2 fun y3 =>
  F.xbr y3 h fun r4 h1 =>
  nn p0 fun a6 =>
  ldL h1 a6 fun y7 =>
  F.xbv y7 0 (IntKind.wrap .i64 (r4 - 1)) h1 fun h5 =>
  F.xab p0 0 (IntKind.wrap .i64 (r4 - 1)) h5 fun r9 h8 =>
  F.xcl p0 h8 fun r11 h10 =>
  Q r11 h10
theorem F.xci_ok {p0 : Option Addr} {h : H} {Q : Value -> H -> Prop} (H : F.xci p0 h Q) : Fn PP 53 ([(.iface 103 (.pointer p0))] : List Value).toArray h fun r h' => ∃ r0, r = r0 ∧ Q r0 h' := by
 unfold F.xci at H;refine fn_of Tryz.func53 Tryz.ntmps53 rfl rfl fun w0 => (tr_sub [(0, (.iface 103 (.pointer p0)))] ⟨rfl, trivial⟩ (tr_seq (tr_region (tq (y_assign rfl) (tr_nil (tr_thenN (tr_seq (tr_region (tq (y_move rfl) (tr_e (e_invL mt_103_Len Tryz.isAgg99 Tryz.call204 rfl rfl (inv_map (fun y3 H => (F.xbr_ok H)) H)) rfl rfl ?_))))))))));rintro _ h1 ⟨r4, rfl, H⟩;refine tq (y_sub rfl rfl) (tq (y_assign rfl) (tr_nil (tr_thenN (tr_seq (tr_region (tq (y_move rfl) (tq (y_move rfl) (tr_e (e_invL mt_103_Swap Tryz.isAgg99 Tryz.call206 rfl rfl (inv_map (fun y7 H => (F.xbv_ok H)) H)) rfl rfl ?_))))))));rintro _ h5 ⟨rfl, H⟩;refine tr_nil (tr_thenN (tr_seq (tr_region (tq (y_move rfl) (tq (y_move rfl) (tr_e (e_call Tryz.call92 rfl (F.xab_ok H)) rfl rfl ?_))))));rintro _ h8 ⟨r9, rfl, H⟩;refine tr_nil (tr_thenN (tr_seq (tr_region (tq (y_move rfl) (tr_e (e_invP mt_103_Pop Tryz.call207 rfl rfl (F.xcl_ok H)) rfl rfl ?_)))));rintro r11 h10 ⟨_, rfl, H⟩;refine tq (y_assign rfl) (tr_nil (tr_thenN (tr_ret ?_)));exact tr_ret1 rfl rfl ⟨_, rfl, H⟩
def F.xak.j2 (Q : H -> Prop) (C1 : (Option Addr) -> Int -> H -> Prop) (x0 : Option Addr) (x1 : Int) (x4 : Int) (h : H) : Prop :=
  nn x0 fun a3 =>
  ldL h a3 fun y4 =>
  F.xbv y4 x4 x1 h fun h2 =>
  C1 x0 x4 h2
def F.xak.j3 (Q : H -> Prop) (C1 : (Option Addr) -> Int -> H -> Prop) (x0 : Option Addr) (x1 : Int) (x4 : Int) (x17 : Bool) (h : H) : Prop :=
  (x17 = true ->
  Q h) ∧
  (x17 = false ->
  F.xak.j2 Q C1 x0 x1 x4 h)
def F.xak.l1 (Q : H -> Prop) : Nat -> (Option Addr) -> Int -> H -> Prop
  | 0, _, _, _ => False
  | q1 + 1, x0, x1, h =>
    (2 : Int) ≠ 0 ∧
    ((((IntKind.wrap .i64 (Int.tdiv (IntKind.wrap .i64 (x1 - 1)) 2)) == x1)) = true ->
    F.xak.j3 Q (F.xak.l1 Q q1) x0 x1 (IntKind.wrap .i64 (Int.tdiv (IntKind.wrap .i64 (x1 - 1)) 2)) true h) ∧
    ((((IntKind.wrap .i64 (Int.tdiv (IntKind.wrap .i64 (x1 - 1)) 2)) == x1)) = false ->
    nn x0 fun a8 =>
    ldL h a8 fun y9 =>
    F.xbt y9 x1 (IntKind.wrap .i64 (Int.tdiv (IntKind.wrap .i64 (x1 - 1)) 2)) h fun r10 h7 =>
    F.xak.j3 Q (F.xak.l1 Q q1) x0 x1 (IntKind.wrap .i64 (Int.tdiv (IntKind.wrap .i64 (x1 - 1)) 2)) (!r10) h7)
def F.xak (p0 : Option Addr) (p1 : Int) (h : H) (Q : H -> Prop) : Prop :=
  ∃ m, F.xak.l1 Q m p0 p1 h
theorem F.xak_ok {p0 : Option Addr} {p1 : Int} {h : H} {Q : H -> Prop} (H : F.xak p0 p1 h Q) : Fn PP 93 ([(.iface 103 (.pointer p0)), (.int .i64 p1)] : List Value).toArray h fun r h' => r = .tuple #[] ∧ Q  h' := by
 unfold F.xak at H;refine fn_of Tryz.func93 Tryz.ntmps93 rfl rfl fun w0 => (tr_sub [(0, (.iface 103 (.pointer p0))), (1, (.int .i64 p1))] ⟨rfl, rfl, trivial⟩ (tr_block ?_));obtain ⟨m11, H⟩ := H;refine tr_sub [(0, (.iface 103 (.pointer p0))), (1, (.int .i64 p1))] ⟨rfl, rfl, trivial⟩ ?_;refine tr_loop_j (fun m L' h => ∃ (x0 : Option Addr) (x1 : Int), L' = [(0, (.iface 103 (.pointer x0))), (1, (.int .i64 x1))] ∧ F.xak.l1 Q m x0 x1 h) ?_ ?_ m11 ⟨_, _, rfl, H⟩
 ·rintro L' h ⟨_, _, _, H⟩; exact H
 ·rintro q1 L' h ⟨x0, x1, rfl, H⟩;unfold F.xak.l1 at H;refine tr_block (tr_seq (tr_region (tq (y_move rfl) (tq (y_sub rfl rfl) ?_))));obtain ⟨e1, H⟩ := H;refine tq (y_quo rfl rfl e1) (tq (y_assign rfl) (tr_nil (tr_thenN ?_)));refine tr_seq_j (fun L' h => ∃ (x0 : Option Addr) (x1 : Int) (x4 : Int), L' = [(0, (.iface 103 (.pointer x0))), (1, (.int .i64 x1)), (4, (.int .i64 x4))] ∧ F.xak.j2 Q (F.xak.l1 Q q1) x0 x1 x4 h) ?_ ?_
  ·rintro L' h ⟨x0, x1, x4, rfl, H⟩;unfold F.xak.j2 at H;refine tr_seq (tr_region (tq (y_move rfl) (tq (y_move rfl) (tq (y_move rfl) (tr_e (e_invL mt_103_Swap Tryz.isAgg99 Tryz.call206 rfl rfl (inv_map (fun y4 H => (F.xbv_ok H)) H)) rfl rfl ?_)))));rintro _ h2 ⟨rfl, H⟩;refine tr_nil (tr_thenN (tr_region (tq (y_move rfl) (tq (y_assign rfl) (tr_nil (tr_blockN (tr_thenN ?_)))))));exact tr_join [(0, (.iface 103 (.pointer x0))), (1, (.int .i64 x4))] ⟨rfl, rfl, trivial⟩ ⟨_, _, rfl, H⟩
  ·refine tr_seq_j (fun L' h => ∃ (x0 : Option Addr) (x1 : Int) (x4 : Int) (x17 : Bool), L' = [(0, (.iface 103 (.pointer x0))), (1, (.int .i64 x1)), (4, (.int .i64 x4)), (17, (.bool x17))] ∧ F.xak.j3 Q (F.xak.l1 Q q1) x0 x1 x4 x17 h) ?_ ?_
   ·rintro L' h ⟨x0, x1, x4, x17, rfl, H⟩;unfold F.xak.j3 at H;refine tr_cond rfl (fun g5 => ?_) (fun g5 => ?_)
    ·replace H := H.1 g5;refine tr_exit (tr_thenE (tr_miss rfl (tr_thenE (tr_hit ?_))));exact tr_end0 rfl ⟨rfl, H⟩
    ·replace H := H.2 g5;refine tr_skip (tr_thenN ?_);exact tr_join [(0, (.iface 103 (.pointer x0))), (1, (.int .i64 x1)), (4, (.int .i64 x4))] ⟨rfl, rfl, rfl, trivial⟩ ⟨_, _, _, rfl, H⟩
   ·refine tr_region (tq (y_move rfl) (tq (y_move rfl) (tq (y_eql rfl rfl) (tq (y_move rfl) ?_))));refine tr_split (t := 11) rfl (fun g6 => ?_) (fun g6 => ?_)
    ·replace H := H.1 g6;refine ts (ts (ts (ts (ts (tq (y_pick_t rfl rfl) (tr_nil (tr_thenN ?_)))))));exact tr_join [(0, (.iface 103 (.pointer x0))), (1, (.int .i64 x1)), (4, (.int .i64 (IntKind.wrap .i64 (Int.tdiv (IntKind.wrap .i64 (x1 - 1)) 2)))), (17, (.bool true))] ⟨rfl, rfl, rfl, rfl, trivial⟩ ⟨_, _, _, _, rfl, H⟩
    ·replace H := H.2 g6;refine tq (y_move rfl) (tq (y_move rfl) (tq (y_move rfl) (tr_e (e_invL mt_103_Less Tryz.isAgg99 Tryz.call205 rfl rfl (inv_map (fun y9 H => (F.xbt_ok H)) H)) rfl rfl ?_)));rintro _ h7 ⟨r10, rfl, H⟩;refine tq (y_not rfl) (tq (y_pick_f rfl rfl) (tr_nil (tr_thenN ?_)));exact tr_join [(0, (.iface 103 (.pointer x0))), (1, (.int .i64 x1)), (4, (.int .i64 (IntKind.wrap .i64 (Int.tdiv (IntKind.wrap .i64 (x1 - 1)) 2)))), (17, (.bool (!r10)))] ⟨rfl, rfl, rfl, rfl, trivial⟩ ⟨_, _, _, _, rfl, H⟩
def F.xco (p0 : Option Addr) (p1 : Int) (h : H) (Q : H -> Prop) : Prop :=
  nn p0 fun a2 =>
  ldL h a2 fun y3 =>
  F.xbr y3 h fun r4 h1 =>
  F.xab p0 p1 r4 h1 fun r6 h5 =>
  ((!r6) = true ->
  F.xak p0 p1 h5 fun h8 =>
  Q h8) ∧
  ((!r6) = false ->
  Q h5)
theorem F.xco_ok {p0 : Option Addr} {p1 : Int} {h : H} {Q : H -> Prop} (H : F.xco p0 p1 h Q) : Fn PP 54 ([(.iface 103 (.pointer p0)), (.int .i64 p1)] : List Value).toArray h fun r h' => r = .tuple #[] ∧ Q  h' := by
 unfold F.xco at H;refine fn_of Tryz.func54 Tryz.ntmps54 rfl rfl fun w0 => (tr_sub [(0, (.iface 103 (.pointer p0))), (1, (.int .i64 p1))] ⟨rfl, rfl, trivial⟩ (tr_seq (tr_region (tq (y_move rfl) (tq (y_move rfl) (tq (y_move rfl) (tr_e (e_invL mt_103_Len Tryz.isAgg99 Tryz.call204 rfl rfl (inv_map (fun y3 H => (F.xbr_ok H)) H)) rfl rfl ?_)))))));rintro _ h1 ⟨r4, rfl, H⟩;refine tr_e (e_call Tryz.call92 rfl (F.xab_ok H)) rfl rfl ?_;rintro _ h5 ⟨r6, rfl, H⟩;refine tq (y_not rfl) (tr_nil (tr_thenN ?_));refine tr_cond rfl (fun g7 => ?_) (fun g7 => ?_)
 ·replace H := H.1 g7;refine tr_region (tq (y_move rfl) (tq (y_move rfl) (tr_e (e_call Tryz.call93 rfl (F.xak_ok H)) rfl rfl ?_)));rintro _ h8 ⟨rfl, H⟩;refine tr_nil ?_;exact tr_end0 rfl ⟨rfl, H⟩
 ·replace H := H.2 g7;refine tr_skip ?_;exact tr_end0 rfl ⟨rfl, H⟩
def F.xag.j3 (Q : Sl -> H -> Prop) (C1 : Int -> Addr -> Sl -> H -> Prop) (x0 : Int) (x5 : Addr) (x8 : Sl) (h : H) : Prop :=
  ldL h x5 fun y17 =>
  idxA y17 0 2 fun a19 =>
  ldL h (a19.add 0) fun y21 =>
  idxA y21 0 7 fun a23 =>
  ld_S_api_Row h a23 fun y25 =>
  newL h ((y25.cells).toArray) ty_49 1 fun s28 h27 =>
  runL PP (Builtin.append_ #[51, 51] 51 #[x8.enc, s28.enc]) h27 fun s30 h29 =>
  ldL h29 x5 fun y31 =>
  ldL h29 x5 fun y33 =>
  idxA y33 0 2 fun a35 =>
  ldL h29 (a35.add 0) fun y37 =>
  cutL y37 1 (y37.len : Int) 7 fun s40 =>
  idxA y31 0 2 fun a41 =>
  stH h29 (a41.add 0) [s40.enc] fun h43 =>
  ldL h43 x5 fun y44 =>
  idxA y44 0 2 fun a46 =>
  ldL h43 (a46.add 0) fun y48 =>
  ((((y48.len : Int) == 0)) = true ->
  F.xci (some x5) h43 fun r52 h51 =>
  C1 x0 x5 s30 h51) ∧
  ((((y48.len : Int) == 0)) = false ->
  F.xco (some x5) 0 h43 fun h53 =>
  C1 x0 x5 s30 h53)
def F.xag.j4 (Q : Sl -> H -> Prop) (C1 : Int -> Addr -> Sl -> H -> Prop) (x0 : Int) (x5 : Addr) (x8 : Sl) (x36 : Bool) (h : H) : Prop :=
  (x36 = true ->
  F.xag.j3 Q C1 x0 x5 x8 h) ∧
  (x36 = false ->
  Q x8 h)
def F.xag.l2 (Q : Sl -> H -> Prop) : Nat -> Int -> Addr -> Sl -> H -> Prop
  | 0, _, _, _, _ => False
  | q2 + 1, x0, x5, x8, h =>
    ldL h x5 fun y55 =>
    ((decide ((y55.len : Int) > 0)) = true ->
    F.xag.j4 Q (F.xag.l2 Q q2) x0 x5 x8 (decide ((x8.len : Int) < x0)) h) ∧
    ((decide ((y55.len : Int) > 0)) = false ->
    F.xag.j4 Q (F.xag.l2 Q q2) x0 x5 x8 false h)
def F.xag.l1 (Q : Sl -> H -> Prop) : Nat -> Int -> Addr -> Sl -> Int -> Int -> H -> Prop
  | 0, _, _, _, _, _, _ => False
  | q1 + 1, x0, x5, x9, x10, x11, h =>
    ((decide (x11 < x10)) = true ->
    idxA x9 x11 1 fun a4 =>
    ldL h a4 fun y6 =>
    ((decide ((y6.len : Int) > 0)) = true ->
    ldL h x5 fun y9 =>
    newL h (((⟨y6, x11⟩ : S_merge_front).cells).toArray) ty_101 1 fun s12 h11 =>
    runL PP (Builtin.append_ #[99, 99] 99 #[y9.enc, s12.enc]) h11 fun s14 h13 =>
    stH h13 x5 [s14.enc] fun h15 =>
    (F.xag.l1 Q q1) x0 x5 x9 x10 (IntKind.wrap .i64 (x11 + 1)) h15) ∧
    ((decide ((y6.len : Int) > 0)) = false ->
    (F.xag.l1 Q q1) x0 x5 x9 x10 (IntKind.wrap .i64 (x11 + 1)) h)) ∧
    ((decide (x11 < x10)) = false ->
    F.xbl (some x5) h fun h16 =>
    ∃ m, F.xag.l2 Q m x0 x5 (⟨none, 0, 0⟩ : Sl) h16)
def F.xag (p0 : Int) (p1 : Sl) (h : H) (Q : Sl -> H -> Prop) : Prop :=
  new h #[(⟨none, 0, 0⟩ : Sl).enc] ty_99 fun a2 h1 =>
  ∃ m, F.xag.l1 Q m p0 a2 p1 (p1.len : Int) 0 h1
theorem F.xag_ok {p0 : Int} {p1 : Sl} {h : H} {Q : Sl -> H -> Prop} (H : F.xag p0 p1 h Q) : Fn PP 22 ([(.int .i64 p0), p1.enc] : List Value).toArray h fun r h' => ∃ r0, r = r0.enc ∧ Q r0 h' := by
 unfold F.xag at H;refine fn_of Tryz.func22 Tryz.ntmps22 rfl rfl fun w0 => (tr_sub [(0, (.int .i64 p0)), (1, p1.enc)] ⟨rfl, rfl, trivial⟩ (tr_seq (tr_region (tq (y_assign rfl) (tr_nil (tr_thenN (tr_seq (tr_region (tr_e (f_alloc (cs := #[(⟨none, 0, 0⟩ : Sl).enc]) Tryz.zeroValue99 rfl H) rfl rfl ?_)))))))));rintro _ h1 ⟨a2, rfl, H⟩;refine tr_nil (tr_thenN (tr_seq (tr_seq (tr_region (tq (y_move rfl) (tq (y_len (ts := #[]) Tryz.runUnderlying55 (o := p1.ptr) (n := p1.len) (cap := p1.cap) rfl) (tq (y_move rfl) (tr_nil (tr_thenN (tr_block ?_))))))))));obtain ⟨m59, H⟩ := H;refine tr_sub [(0, (.int .i64 p0)), (5, (.pointer (some a2))), (9, p1.enc), (10, (.int .i64 (p1.len : Int))), (11, (.int .i64 0))] ⟨rfl, rfl, rfl, rfl, rfl, trivial⟩ ?_;refine tr_loop_j (fun m L' h => ∃ (x0 : Int) (x5 : Addr) (x9 : Sl) (x10 : Int) (x11 : Int), L' = [(0, (.int .i64 x0)), (5, (.pointer (some x5))), (9, x9.enc), (10, (.int .i64 x10)), (11, (.int .i64 x11))] ∧ F.xag.l1 Q m x0 x5 x9 x10 x11 h) ?_ ?_ m59 ⟨_, _, _, _, _, rfl, H⟩
 ·rintro L' h ⟨_, _, _, _, _, _, H⟩; exact H
 ·rintro q1 L' h ⟨x0, x5, x9, x10, x11, rfl, H⟩;unfold F.xag.l1 at H;refine tr_seq (tr_region (tq (y_lss rfl rfl) (tr_nil (tr_thenN (tr_seq ?_)))));refine tr_cond rfl (fun g3 => ?_) (fun g3 => ?_)
  ·replace H := H.1 g3;refine tr_skip (tr_thenN (tr_seq (tr_block (tr_seq (tr_region (tq (y_move rfl) ?_))))));obtain ⟨a4, e5, H⟩ := H;refine tq (f_idx (s := x9) Tryz.runUnderlying55 Tryz.sizeOf51 rfl rfl e5) ?_;obtain ⟨y6, k7, H⟩ := H;refine tr_h (y_ld Tryz.isAgg51 rfl) k7 rfl rfl (tq (y_assign rfl) (tq (y_assign rfl) (tr_nil (tr_thenN (tr_seq (tr_region (tq (y_move rfl) (tq (y_len (ts := #[]) Tryz.runUnderlying51 (o := y6.ptr) (n := y6.len) (cap := y6.cap) rfl) (tq (y_gtr rfl rfl) (tr_nil (tr_thenN ?_)))))))))));refine tr_cond rfl (fun g8 => ?_) (fun g8 => ?_)
   ·replace H := H.1 g8;refine tr_region ?_;obtain ⟨y9, k10, H⟩ := H;refine tr_h (y_ld Tryz.isAgg99 rfl) k10 rfl rfl (tq (y_move rfl) (tq (y_move rfl) (tq (f_build rfl (bd_101_0_1 y6 x11)) (tr_e (f_buildL (cs := ((⟨y6, x11⟩ : S_merge_front).cells).toArray) rfl rfl (bl_99_1_0 (⟨y6, x11⟩ : S_merge_front)) H) rfl rfl ?_))));rintro _ h11 ⟨s12, rfl, H⟩;refine tr_e (f_app rfl H) rfl rfl ?_;rintro _ h13 ⟨s14, rfl, H⟩;refine tr_e (f_store (vs := [s14.enc]) Tryz.sizeOf99 rfl rfl rfl rfl (one1 rfl) H) rfl rfl ?_;rintro _ h15 ⟨rfl, H⟩;refine tr_nil (tr_blockN (tr_thenN (tr_region (tq (y_add rfl rfl) (tq (y_move rfl) (tr_nil (tr_thenN ?_)))))));exact tr_join [(0, (.int .i64 x0)), (5, (.pointer (some x5))), (9, x9.enc), (10, (.int .i64 x10)), (11, (.int .i64 (IntKind.wrap .i64 (x11 + 1))))] ⟨rfl, rfl, rfl, rfl, rfl, trivial⟩ ⟨_, _, _, _, _, rfl, H⟩
   ·replace H := H.2 g8;refine tr_skip (tr_blockN (tr_thenN (tr_region (tq (y_add rfl rfl) (tq (y_move rfl) (tr_nil (tr_thenN ?_)))))));exact tr_join [(0, (.int .i64 x0)), (5, (.pointer (some x5))), (9, x9.enc), (10, (.int .i64 x10)), (11, (.int .i64 (IntKind.wrap .i64 (x11 + 1))))] ⟨rfl, rfl, rfl, rfl, rfl, trivial⟩ ⟨_, _, _, _, _, rfl, H⟩
  ·replace H := H.2 g3;refine tr_exit (tr_thenE (tr_thenE (tr_hit (tr_thenN (tr_seq (tr_region (tq (y_mkif Tryz.runUnderlying103 rfl rfl) (tr_e (e_call Tryz.call52 rfl (F.xbl_ok H)) rfl rfl ?_))))))));rintro _ h16 ⟨rfl, H⟩;refine tr_nil (tr_thenN (tr_seq (tr_region (tq (y_assign rfl) (tr_nil (tr_thenN (tr_seq (tr_block ?_))))))));obtain ⟨m58, H⟩ := H;refine tr_sub [(0, (.int .i64 x0)), (5, (.pointer (some x5))), (8, (⟨none, 0, 0⟩ : Sl).enc)] ⟨rfl, rfl, rfl, trivial⟩ ?_;refine tr_loop_j (fun m L' h => ∃ (x0 : Int) (x5 : Addr) (x8 : Sl), L' = [(0, (.int .i64 x0)), (5, (.pointer (some x5))), (8, x8.enc)] ∧ F.xag.l2 Q m x0 x5 x8 h) ?_ ?_ m58 ⟨_, _, _, rfl, H⟩
   ·rintro L' h ⟨_, _, _, _, H⟩; exact H
   ·rintro q2 L' h ⟨x0, x5, x8, rfl, H⟩;unfold F.xag.l2 at H;refine tr_seq_j (fun L' h => ∃ (x0 : Int) (x5 : Addr) (x8 : Sl), L' = [(0, (.int .i64 x0)), (5, (.pointer (some x5))), (8, x8.enc)] ∧ F.xag.j3 Q (F.xag.l2 Q q2) x0 x5 x8 h) ?_ ?_
    ·rintro L' h ⟨x0, x5, x8, rfl, H⟩;unfold F.xag.j3 at H;refine tr_block (tr_seq (tr_region (tq (y_move rfl) ?_)));obtain ⟨y17, k18, H⟩ := H;refine tr_h (y_ld Tryz.isAgg99 rfl) k18 rfl rfl ?_;obtain ⟨a19, e20, H⟩ := H;refine tq (f_idx (s := y17) Tryz.runUnderlying99 Tryz.sizeOf101 rfl rfl e20) (tq (y_fa (off := 0) Tryz.runUnderlying101 fo_101_0 rfl) ?_);obtain ⟨y21, k22, H⟩ := H;refine tr_h (y_ld Tryz.isAgg51 rfl) k22 rfl rfl ?_;obtain ⟨a23, e24, H⟩ := H;refine tq (f_idx (s := y21) Tryz.runUnderlying51 Tryz.sizeOf49 rfl rfl e24) ?_;obtain ⟨y25, k26, H⟩ := H;refine tr_h (y_ldS Tryz.isAgg49 Tryz.sizeOf49 rfl rfl) k26 rfl rfl (tr_e (f_buildL (cs := (y25.cells).toArray) rfl rfl (bl_51_1_0 y25) H) rfl rfl ?_);rintro _ h27 ⟨s28, rfl, H⟩;refine tr_e (f_app rfl H) rfl rfl ?_;rintro _ h29 ⟨s30, rfl, H⟩;refine tq (y_assign rfl) (tr_nil (tr_thenN (tr_seq (tr_draw mixed [0, 0, 2, 6, 14, 30, 63, 127, 255] (by kernel_rfl) ?_))));obtain ⟨y31, k32, H⟩ := H;refine g_h 0 1 rfl (by kernel_rfl) (y_ld Tryz.isAgg99 rfl) k32 rfl rfl ?_;obtain ⟨y33, k34, H⟩ := H;refine g_h 1 3 rfl (by kernel_rfl) (y_ld Tryz.isAgg99 rfl) k34 rfl rfl ?_;obtain ⟨a35, e36, H⟩ := H;refine g_p 2 7 rfl (by kernel_rfl) (f_idx (s := y33) Tryz.runUnderlying99 Tryz.sizeOf101 rfl rfl e36) rfl rfl (g_p 3 15 rfl (by kernel_rfl) (y_fa (off := 0) Tryz.runUnderlying101 fo_101_0 rfl) rfl rfl ?_);obtain ⟨y37, k38, H⟩ := H;refine g_h 4 31 rfl (by kernel_rfl) (y_ld Tryz.isAgg51 rfl) k38 rfl rfl ?_;obtain ⟨s40, e39, H⟩ := H;refine g_p 5 63 rfl (by kernel_rfl) (f_cutL (s := y37) (some (.i64, 1)) none Tryz.runUnderlying51 Tryz.sizeOf49 rfl rfl rfl e39) rfl rfl ?_;obtain ⟨a41, e42, H⟩ := H;refine g_p 6 127 rfl (by kernel_rfl) (f_idx (s := y31) Tryz.runUnderlying99 Tryz.sizeOf101 rfl rfl e42) rfl rfl (g_p 7 255 rfl (by kernel_rfl) (y_fa (off := 0) Tryz.runUnderlying101 fo_101_0 rfl) rfl rfl (g_e 8 511 [] (by kernel_rfl) rfl (by kernel_rfl) (f_store (vs := [s40.enc]) Tryz.sizeOf51 rfl rfl rfl rfl (one1 rfl) H) rfl rfl ?_));rintro _ h43 ⟨rfl, H⟩;refine ⟨trivial, ?_⟩;refine g_d (by kernel_rfl) (tr_thenN (tr_seq (tr_region ?_)));obtain ⟨y44, k45, H⟩ := H;refine tr_h (y_ld Tryz.isAgg99 rfl) k45 rfl rfl ?_;obtain ⟨a46, e47, H⟩ := H;refine tq (f_idx (s := y44) Tryz.runUnderlying99 Tryz.sizeOf101 rfl rfl e47) (tq (y_fa (off := 0) Tryz.runUnderlying101 fo_101_0 rfl) ?_);obtain ⟨y48, k49, H⟩ := H;refine tr_h (y_ld Tryz.isAgg51 rfl) k49 rfl rfl (tq (y_len (ts := #[]) Tryz.runUnderlying51 (o := y48.ptr) (n := y48.len) (cap := y48.cap) rfl) (tq (y_eql rfl rfl) (tr_nil (tr_thenN ?_))));refine tr_cond rfl (fun g50 => ?_) (fun g50 => ?_)
     ·replace H := H.1 g50;refine tr_region (tq (y_mkif Tryz.runUnderlying103 rfl rfl) (tr_e (e_call Tryz.call53 rfl (F.xci_ok H)) rfl rfl ?_));rintro r52 h51 ⟨_, rfl, H⟩;refine tr_nil (tr_blockN (tr_thenN ?_));exact tr_join [(0, (.int .i64 x0)), (5, (.pointer (some x5))), (8, s30.enc)] ⟨rfl, rfl, rfl, trivial⟩ ⟨_, _, _, rfl, H⟩
     ·replace H := H.2 g50;refine tr_region (tq (y_mkif Tryz.runUnderlying103 rfl rfl) (tr_e (e_call Tryz.call54 rfl (F.xco_ok H)) rfl rfl ?_));rintro _ h53 ⟨rfl, H⟩;refine tr_nil (tr_blockN (tr_thenN ?_));exact tr_join [(0, (.int .i64 x0)), (5, (.pointer (some x5))), (8, s30.enc)] ⟨rfl, rfl, rfl, trivial⟩ ⟨_, _, _, rfl, H⟩
    ·refine tr_seq_j (fun L' h => ∃ (x0 : Int) (x5 : Addr) (x8 : Sl) (x36 : Bool), L' = [(0, (.int .i64 x0)), (5, (.pointer (some x5))), (8, x8.enc), (36, (.bool x36))] ∧ F.xag.j4 Q (F.xag.l2 Q q2) x0 x5 x8 x36 h) ?_ ?_
     ·rintro L' h ⟨x0, x5, x8, x36, rfl, H⟩;unfold F.xag.j4 at H;refine tr_cond rfl (fun g54 => ?_) (fun g54 => ?_)
      ·replace H := H.1 g54;refine tr_skip (tr_thenN ?_);exact tr_join [(0, (.int .i64 x0)), (5, (.pointer (some x5))), (8, x8.enc)] ⟨rfl, rfl, rfl, trivial⟩ ⟨_, _, _, rfl, H⟩
      ·replace H := H.2 g54;refine tr_exit (tr_thenE (tr_thenE (tr_hit (tr_thenN (tr_seq (tr_region (tq (y_move rfl) (tq (y_assign rfl) (tr_nil (tr_thenN (tr_ret ?_)))))))))));exact tr_ret1 rfl rfl ⟨_, rfl, H⟩
     ·refine tr_region ?_;obtain ⟨y55, k56, H⟩ := H;refine tr_h (y_ld Tryz.isAgg99 rfl) k56 rfl rfl (tq (y_len (ts := #[]) Tryz.runUnderlying99 (o := y55.ptr) (n := y55.len) (cap := y55.cap) rfl) (tq (y_gtr rfl rfl) (tq (y_move rfl) ?_)));refine tr_split (t := 31) rfl (fun g57 => ?_) (fun g57 => ?_)
      ·replace H := H.1 g57;refine tq (y_move rfl) (tq (y_len (ts := #[]) Tryz.runUnderlying51 (o := x8.ptr) (n := x8.len) (cap := x8.cap) rfl) (tq (y_move rfl) (tq (y_lss rfl rfl) (tq (y_pick_t rfl rfl) (tr_nil (tr_thenN ?_))))));exact tr_join [(0, (.int .i64 x0)), (5, (.pointer (some x5))), (8, x8.enc), (36, (.bool (decide ((x8.len : Int) < x0))))] ⟨rfl, rfl, rfl, rfl, trivial⟩ ⟨_, _, _, _, rfl, H⟩
      ·replace H := H.2 g57;refine ts (ts (ts (ts (tq (y_pick_f rfl rfl) (tr_nil (tr_thenN ?_))))));exact tr_join [(0, (.int .i64 x0)), (5, (.pointer (some x5))), (8, x8.enc), (36, (.bool false))] ⟨rfl, rfl, rfl, rfl, trivial⟩ ⟨_, _, _, _, rfl, H⟩
def F.xbh.l1 (Q : Sl -> H -> Prop) : Nat -> Int -> Int -> Addr -> Addr -> Sl -> Sl -> Int -> Int -> H -> Prop
  | 0, _, _, _, _, _, _, _, _, _ => False
  | q1 + 1, x1, x4, x7, x8, x11, x17, x18, x19, h =>
    ((decide (x19 < x18)) = true ->
    idxA x17 x19 1 fun a10 =>
    ldP h a10 fun y12 =>
    ld_S_api_Cell h x7 fun y14 =>
    ld_S_api_Cell h x8 fun y16 =>
    F.xai y12 x1 y14 y16 x4 h fun r19 h18 =>
    newL h18 #[r19.enc] ty_51 1 fun s21 h20 =>
    runL PP (Builtin.append_ #[55, 55] 55 #[x11.enc, s21.enc]) h20 fun s23 h22 =>
    (F.xbh.l1 Q q1) x1 x4 x7 x8 s23 x17 x18 (IntKind.wrap .i64 (x19 + 1)) h22) ∧
    ((decide (x19 < x18)) = false ->
    F.xag x4 x11 h fun r25 h24 =>
    Q r25 h24)
def F.xbh (p0 : Option Addr) (p1 : Int) (p2 : S_api_Cell) (p3 : S_api_Cell) (p4 : Int) (h : H) (Q : Sl -> H -> Prop) : Prop :=
  new h p2.cells.toArray ty_35 fun a2 h1 =>
  new h1 p3.cells.toArray ty_35 fun a4 h3 =>
  nn p0 fun a5 =>
  ldL h3 (a5.add 0) fun y7 =>
  ∃ m, F.xbh.l1 Q m p1 p4 a2 a4 (⟨none, 0, 0⟩ : Sl) y7 (y7.len : Int) 0 h3
theorem F.xbh_ok {p0 : Option Addr} {p1 : Int} {p2 : S_api_Cell} {p3 : S_api_Cell} {p4 : Int} {h : H} {Q : Sl -> H -> Prop} (H : F.xbh p0 p1 p2 p3 p4 h Q) : Fn PP 18 ([(.pointer p0), (.int .i64 p1), (.agg p2.cells.toArray), (.agg p3.cells.toArray), (.int .i64 p4)] : List Value).toArray h fun r h' => ∃ r0, r = r0.enc ∧ Q r0 h' := by
 unfold F.xbh at H;refine fn_of Tryz.func18 Tryz.ntmps18 rfl rfl fun w0 => (tr_sub [(0, (.pointer p0)), (1, (.int .i64 p1)), (2, (.agg p2.cells.toArray)), (3, (.agg p3.cells.toArray)), (4, (.int .i64 p4))] ⟨rfl, rfl, rfl, rfl, rfl, trivial⟩ (tr_seq (tr_region (tr_e (f_box (cs := p2.cells.toArray) rfl rfl H) rfl rfl ?_))));rintro _ h1 ⟨a2, rfl, H⟩;refine tr_e (f_box (cs := p3.cells.toArray) rfl rfl H) rfl rfl ?_;rintro _ h3 ⟨a4, rfl, H⟩;refine tq (y_assign rfl) (tr_nil (tr_thenN (tr_seq (tr_region (tq (y_assign rfl) (tr_nil (tr_thenN (tr_seq (tr_seq (tr_region (tq (y_move rfl) ?_)))))))))));obtain ⟨a5, e6, H⟩ := H;refine tq (f_nn rfl e6) (tq (y_fa (off := 0) Tryz.runUnderlying83 fo_83_0 rfl) ?_);obtain ⟨y7, k8, H⟩ := H;refine tr_h (y_ld Tryz.isAgg81 rfl) k8 rfl rfl (tq (y_len (ts := #[]) Tryz.runUnderlying81 (o := y7.ptr) (n := y7.len) (cap := y7.cap) rfl) (tq (y_move rfl) (tr_nil (tr_thenN (tr_block ?_)))));obtain ⟨m26, H⟩ := H;refine tr_sub [(1, (.int .i64 p1)), (4, (.int .i64 p4)), (7, (.pointer (some a2))), (8, (.pointer (some a4))), (11, (⟨none, 0, 0⟩ : Sl).enc), (17, y7.enc), (18, (.int .i64 (y7.len : Int))), (19, (.int .i64 0))] ⟨rfl, rfl, rfl, rfl, rfl, rfl, rfl, rfl, trivial⟩ ?_;refine tr_loop_j (fun m L' h => ∃ (x1 : Int) (x4 : Int) (x7 : Addr) (x8 : Addr) (x11 : Sl) (x17 : Sl) (x18 : Int) (x19 : Int), L' = [(1, (.int .i64 x1)), (4, (.int .i64 x4)), (7, (.pointer (some x7))), (8, (.pointer (some x8))), (11, x11.enc), (17, x17.enc), (18, (.int .i64 x18)), (19, (.int .i64 x19))] ∧ F.xbh.l1 Q m x1 x4 x7 x8 x11 x17 x18 x19 h) ?_ ?_ m26 ⟨_, _, _, _, _, _, _, _, rfl, H⟩
 ·rintro L' h ⟨_, _, _, _, _, _, _, _, _, H⟩; exact H
 ·rintro q1 L' h ⟨x1, x4, x7, x8, x11, x17, x18, x19, rfl, H⟩;unfold F.xbh.l1 at H;refine tr_seq (tr_region (tq (y_lss rfl rfl) (tr_nil (tr_thenN (tr_seq ?_)))));refine tr_cond rfl (fun g9 => ?_) (fun g9 => ?_)
  ·replace H := H.1 g9;refine tr_skip (tr_thenN (tr_seq (tr_block (tr_seq (tr_region ?_)))));obtain ⟨a10, e11, H⟩ := H;refine tq (f_idx (s := x17) Tryz.runUnderlying81 Tryz.sizeOf64 rfl rfl e11) ?_;obtain ⟨y12, k13, H⟩ := H;refine tr_h (y_ld Tryz.isAgg64 rfl) k13 rfl rfl (tq (y_assign rfl) (tr_nil (tr_thenN (tr_region (tq (y_move rfl) (tq (y_move rfl) (tq (y_move rfl) ?_)))))));obtain ⟨y14, k15, H⟩ := H;refine tr_h (y_ldS Tryz.isAgg35 Tryz.sizeOf35 rfl rfl) k15 rfl rfl ?_;obtain ⟨y16, k17, H⟩ := H;refine tr_h (y_ldS Tryz.isAgg35 Tryz.sizeOf35 rfl rfl) k17 rfl rfl (tq (y_move rfl) (tr_e (e_call Tryz.call39 rfl (F.xai_ok H)) rfl rfl ?_));rintro _ h18 ⟨r19, rfl, H⟩;refine tr_e (f_buildL (cs := #[r19.enc]) rfl rfl (bl_55_1_0 r19) H) rfl rfl ?_;rintro _ h20 ⟨s21, rfl, H⟩;refine tr_e (f_app rfl H) rfl rfl ?_;rintro _ h22 ⟨s23, rfl, H⟩;refine tq (y_assign rfl) (tr_nil (tr_blockN (tr_thenN (tr_region (tq (y_add rfl rfl) (tq (y_move rfl) (tr_nil (tr_thenN ?_))))))));exact tr_join [(1, (.int .i64 x1)), (4, (.int .i64 x4)), (7, (.pointer (some x7))), (8, (.pointer (some x8))), (11, s23.enc), (17, x17.enc), (18, (.int .i64 x18)), (19, (.int .i64 (IntKind.wrap .i64 (x19 + 1))))] ⟨rfl, rfl, rfl, rfl, rfl, rfl, rfl, rfl, trivial⟩ ⟨_, _, _, _, _, _, _, _, rfl, H⟩
  ·replace H := H.2 g9;refine tr_exit (tr_thenE (tr_thenE (tr_hit (tr_thenN (tr_seq (tr_region (tq (y_move rfl) (tq (y_move rfl) (tr_e (e_call Tryz.call22 rfl (F.xag_ok H)) rfl rfl ?_)))))))));rintro _ h24 ⟨r25, rfl, H⟩;refine tq (y_assign rfl) (tr_nil (tr_thenN (tr_ret ?_)));exact tr_ret1 rfl rfl ⟨_, rfl, H⟩
def F.xbz (p0 : Option Addr) (p1 : Int) (h : H) (Q : Bool -> H -> Prop) : Prop :=
  ((decide (p1 >= 0)) = true ->
  nn p0 fun a2 =>
  ldL h (a2.add 0) fun y4 =>
  Q (decide (p1 < (y4.len : Int))) h) ∧
  ((decide (p1 >= 0)) = false ->
  Q false h)
theorem F.xbz_ok {p0 : Option Addr} {p1 : Int} {h : H} {Q : Bool -> H -> Prop} (H : F.xbz p0 p1 h Q) : Fn PP 51 ([(.pointer p0), (.int .i64 p1)] : List Value).toArray h fun r h' => ∃ r0, r = (.bool r0) ∧ Q r0 h' := by
 unfold F.xbz at H;refine fn_of Tryz.func51 Tryz.ntmps51 rfl rfl fun w0 => (tr_sub [(0, (.pointer p0)), (1, (.int .i64 p1))] ⟨rfl, rfl, trivial⟩ (tr_seq (tr_region (tq (y_assign rfl) (tr_nil (tr_thenN (tr_seq (tr_region (tq (y_move rfl) (tq (y_geq rfl rfl) (tq (y_move rfl) ?_)))))))))));refine tr_split (t := 7) rfl (fun g1 => ?_) (fun g1 => ?_)
 ·replace H := H.1 g1;refine tq (y_move rfl) (tq (y_move rfl) ?_);obtain ⟨a2, e3, H⟩ := H;refine tq (f_nn rfl e3) (tq (y_fa (off := 0) Tryz.runUnderlying83 fo_83_0 rfl) ?_);obtain ⟨y4, k5, H⟩ := H;refine tr_h (y_ld Tryz.isAgg81 rfl) k5 rfl rfl (tq (y_len (ts := #[]) Tryz.runUnderlying81 (o := y4.ptr) (n := y4.len) (cap := y4.cap) rfl) (tq (y_lss rfl rfl) (tq (y_pick_t rfl rfl) (tq (y_assign rfl) (tr_nil (tr_thenN (tr_ret ?_)))))));exact tr_ret1 rfl rfl ⟨_, rfl, H⟩
 ·replace H := H.2 g1;refine ts (ts (ts (ts (ts (ts (ts (tq (y_pick_f rfl rfl) (tq (y_assign rfl) (tr_nil (tr_thenN (tr_ret ?_)))))))))));exact tr_ret1 rfl rfl ⟨_, rfl, H⟩
def F.xcm (p0 : Option Addr) (h : H) (Q : Int -> H -> Prop) : Prop :=
  nn p0 fun a1 =>
  ldI .i64 h (a1.add 0) fun y3 =>
  Q y3 h
theorem F.xcm_ok {p0 : Option Addr} {h : H} {Q : Int -> H -> Prop} (H : F.xcm p0 h Q) : Fn PP 31 ([(.pointer p0)] : List Value).toArray h fun r h' => ∃ r0, r = (.int .i64 r0) ∧ Q r0 h' := by
 unfold F.xcm at H;refine fn_of Tryz.func31 Tryz.ntmps31 rfl rfl fun w0 => (tr_sub [(0, (.pointer p0))] ⟨rfl, trivial⟩ (tr_seq (tr_region (tq (y_assign rfl) (tr_nil (tr_thenN (tr_seq (tr_region (tq (y_move rfl) ?_)))))))));obtain ⟨a1, e2, H⟩ := H;refine tq (f_nn rfl e2) (tq (y_fa (off := 0) Tryz.runUnderlying71 fo_71_0 rfl) ?_);obtain ⟨y3, k4, H⟩ := H;refine tr_h (y_ld Tryz.isAgg3 rfl) k4 rfl rfl (tq (y_assign rfl) (tr_nil (tr_thenN (tr_ret ?_))));exact tr_ret1 rfl rfl ⟨_, rfl, H⟩
def F.xbg (p0 : Option Addr) (p1 : Int) (h : H) (Q : Int -> H -> Prop) : Prop :=
  F.xbz p0 p1 h fun r2 h1 =>
  ((!r2) = true ->
  Q 0 h1) ∧
  ((!r2) = false ->
  nn p0 fun a4 =>
  ldL h1 (a4.add 0) fun y6 =>
  idxA y6 p1 1 fun a8 =>
  ldP h1 a8 fun y10 =>
  nn y10 fun a12 =>
  F.xcm (some (a12.add 0)) h1 fun r15 h14 =>
  Q r15 h14)
theorem F.xbg_ok {p0 : Option Addr} {p1 : Int} {h : H} {Q : Int -> H -> Prop} (H : F.xbg p0 p1 h Q) : Fn PP 24 ([(.pointer p0), (.int .i64 p1)] : List Value).toArray h fun r h' => ∃ r0, r = (.int .i64 r0) ∧ Q r0 h' := by
 unfold F.xbg at H;refine fn_of Tryz.func24 Tryz.ntmps24 rfl rfl fun w0 => (tr_sub [(0, (.pointer p0)), (1, (.int .i64 p1))] ⟨rfl, rfl, trivial⟩ (tr_seq (tr_region (tq (y_assign rfl) (tr_nil (tr_thenN (tr_seq (tr_seq (tr_region (tq (y_move rfl) (tq (y_move rfl) (tr_e (e_call Tryz.call51 rfl (F.xbz_ok H)) rfl rfl ?_))))))))))));rintro _ h1 ⟨r2, rfl, H⟩;refine tq (y_not rfl) (tr_nil (tr_thenN ?_));refine tr_cond rfl (fun g3 => ?_) (fun g3 => ?_)
 ·replace H := H.1 g3;refine tr_seq (tr_region (tq (y_assign rfl) (tr_nil (tr_thenN (tr_ret (tr_thenR ?_))))));exact tr_ret1 rfl rfl ⟨_, rfl, H⟩
 ·replace H := H.2 g3;refine tr_skip (tr_thenN (tr_seq (tr_region (tq (y_move rfl) ?_))));obtain ⟨a4, e5, H⟩ := H;refine tq (f_nn rfl e5) (tq (y_fa (off := 0) Tryz.runUnderlying83 fo_83_0 rfl) ?_);obtain ⟨y6, k7, H⟩ := H;refine tr_h (y_ld Tryz.isAgg81 rfl) k7 rfl rfl (tq (y_move rfl) ?_);obtain ⟨a8, e9, H⟩ := H;refine tq (f_idx (s := y6) Tryz.runUnderlying81 Tryz.sizeOf64 rfl rfl e9) ?_;obtain ⟨y10, k11, H⟩ := H;refine tr_h (y_ld Tryz.isAgg64 rfl) k11 rfl rfl ?_;obtain ⟨a12, e13, H⟩ := H;refine tq (f_nn rfl e13) (tq (y_fa (off := 0) Tryz.runUnderlying74 fo_74_0 rfl) (tr_e (e_call Tryz.call31 rfl (F.xcm_ok H)) rfl rfl ?_));rintro _ h14 ⟨r15, rfl, H⟩;refine tq (y_assign rfl) (tr_nil (tr_thenN (tr_ret ?_)));exact tr_ret1 rfl rfl ⟨_, rfl, H⟩
def F.xax.j1 (Q : Bool -> H -> Prop) (x1 : Option Addr) (h : H) : Prop :=
  F.xbs 1 h fun r5 h4 =>
  F.xbn x1 1 (⟨(⟨0, (⟨#[97]⟩ : ByteArray), 0⟩ : S_api_Cell), r5⟩ : S_api_Row) h4 fun r7 h6 =>
  F.xbs 2 h6 fun r9 h8 =>
  F.xbn x1 1 (⟨(⟨0, (⟨#[98]⟩ : ByteArray), 0⟩ : S_api_Cell), r9⟩ : S_api_Row) h8 fun r11 h10 =>
  F.xbh x1 0 (⟨0, (⟨#[]⟩ : ByteArray), 0⟩ : S_api_Cell) (⟨1, (⟨#[]⟩ : ByteArray), 0⟩ : S_api_Cell) 9 h10 fun r13 h12 =>
  (((r7 == 0)) = true ->
  (((r11 == 0)) = true ->
  F.xaz x1 (⟨#[97]⟩ : ByteArray) h12 fun r17 h16 =>
  (((r17 == 0)) = true ->
  F.xaz x1 (⟨#[98]⟩ : ByteArray) h16 fun r20 h19 =>
  (((r20 == 1)) = true ->
  ((((r13.len : Int) == 2)) = true ->
  idxA r13 1 7 fun a23 =>
  ldI .i64 h19 ((a23.add 3).add 1) fun y25 =>
  (((y25 == 2)) = true ->
  F.xbg x1 1 h19 fun r29 h28 =>
  (((r29 == 2)) = true ->
  F.xbg x1 2 h28 fun r32 h31 =>
  Q ((r32 == 0)) h31) ∧
  (((r29 == 2)) = false ->
  Q false h28)) ∧
  (((y25 == 2)) = false ->
  Q false h19)) ∧
  ((((r13.len : Int) == 2)) = false ->
  Q false h19)) ∧
  (((r20 == 1)) = false ->
  Q false h19)) ∧
  (((r17 == 0)) = false ->
  Q false h16)) ∧
  (((r11 == 0)) = false ->
  Q false h12)) ∧
  (((r7 == 0)) = false ->
  Q false h12)
def F.xax.j2 (Q : Bool -> H -> Prop) (x1 : Option Addr) (x15 : Bool) (h : H) : Prop :=
  (x15 = true ->
  Q false h) ∧
  (x15 = false ->
  F.xax.j1 Q x1 h)
def F.xax  (h : H) (Q : Bool -> H -> Prop) : Prop :=
  F.xaj 2 9 h fun r2 r3 h1 =>
  (((r3 != 0)) = true ->
  F.xax.j2 Q r2 true h1) ∧
  (((r3 != 0)) = false ->
  F.xax.j2 Q r2 r2.isNone h1)
theorem F.xax_ok  {h : H} {Q : Bool -> H -> Prop} (H : F.xax  h Q) : Fn PP 12 ([] : List Value).toArray h fun r h' => ∃ r0, r = (.bool r0) ∧ Q r0 h' := by
 unfold F.xax at H;refine fn_of Tryz.func12 Tryz.ntmps12 rfl rfl fun w0 => (tr_sub [] trivial (tr_seq (tr_region (tq (y_assign rfl) (tr_nil (tr_thenN (tr_seq (tr_region (tr_e (e_call Tryz.call8 rfl (F.xaj_ok H)) rfl rfl ?_)))))))));rintro _ h1 ⟨r2, r3, rfl, H⟩;refine tq (y_move rfl) (tq (y_ext rfl rfl) (tq (y_ext rfl rfl) (tq (y_assign rfl) (tq (y_assign rfl) (tr_nil (tr_thenN ?_))))));refine tr_seq_j (fun L' h => ∃ (x1 : Option Addr), L' = [(1, (.pointer x1))] ∧ F.xax.j1 Q x1 h) ?_ ?_
 ·rintro L' h ⟨x1, rfl, H⟩;unfold F.xax.j1 at H;refine tr_seq (tr_region (tq (y_move rfl) (tq (f_build rfl (bd_35_1 (⟨#[97]⟩ : ByteArray))) (tr_e (e_call Tryz.call16 rfl (F.xbs_ok H)) rfl rfl ?_))));rintro _ h4 ⟨r5, rfl, H⟩;refine tq (f_build rfl (bd_49_0_1 (⟨0, (⟨#[97]⟩ : ByteArray), 0⟩ : S_api_Cell) r5)) (tr_e (e_call Tryz.call14 rfl (F.xbn_ok H)) rfl rfl ?_);rintro _ h6 ⟨r7, rfl, H⟩;refine tq (y_assign rfl) (tr_nil (tr_thenN (tr_seq (tr_region (tq (y_move rfl) (tq (f_build rfl (bd_35_1 (⟨#[98]⟩ : ByteArray))) (tr_e (e_call Tryz.call16 rfl (F.xbs_ok H)) rfl rfl ?_)))))));rintro _ h8 ⟨r9, rfl, H⟩;refine tq (f_build rfl (bd_49_0_1 (⟨0, (⟨#[98]⟩ : ByteArray), 0⟩ : S_api_Cell) r9)) (tr_e (e_call Tryz.call14 rfl (F.xbn_ok H)) rfl rfl ?_);rintro _ h10 ⟨r11, rfl, H⟩;refine tq (y_assign rfl) (tr_nil (tr_thenN (tr_seq (tr_region (tq (y_move rfl) (tq (f_build rfl (bd_35_ )) (tq (f_build rfl (bd_35_0 1)) (tr_e (e_call Tryz.call18 rfl (F.xbh_ok H)) rfl rfl ?_))))))));rintro _ h12 ⟨r13, rfl, H⟩;refine tq (y_assign rfl) (tr_nil (tr_thenN (tr_seq (tr_region (tq (y_move rfl) (tq (y_eql rfl rfl) (tq (y_move rfl) ?_)))))));refine tr_split (t := 32) rfl (fun g14 => ?_) (fun g14 => ?_)
  ·replace H := H.1 g14;refine tq (y_move rfl) (tq (y_eql rfl rfl) (tq (y_pick_t rfl rfl) (tq (y_move rfl) ?_)));refine tr_split (t := 36) rfl (fun g15 => ?_) (fun g15 => ?_)
   ·replace H := H.1 g15;refine tq (y_move rfl) (tr_e (e_call Tryz.call10 rfl (F.xaz_ok H)) rfl rfl ?_);rintro _ h16 ⟨r17, rfl, H⟩;refine tq (y_eql rfl rfl) (tq (y_pick_t rfl rfl) (tq (y_move rfl) ?_));refine tr_split (t := 41) rfl (fun g18 => ?_) (fun g18 => ?_)
    ·replace H := H.1 g18;refine tq (y_move rfl) (tr_e (e_call Tryz.call10 rfl (F.xaz_ok H)) rfl rfl ?_);rintro _ h19 ⟨r20, rfl, H⟩;refine tq (y_eql rfl rfl) (tq (y_pick_t rfl rfl) (tq (y_move rfl) ?_));refine tr_split (t := 46) rfl (fun g21 => ?_) (fun g21 => ?_)
     ·replace H := H.1 g21;refine tq (y_move rfl) (tq (y_len (ts := #[]) Tryz.runUnderlying51 (o := r13.ptr) (n := r13.len) (cap := r13.cap) rfl) (tq (y_eql rfl rfl) (tq (y_pick_t rfl rfl) (tq (y_move rfl) ?_))));refine tr_split (t := 51) rfl (fun g22 => ?_) (fun g22 => ?_)
      ·replace H := H.1 g22;refine tq (y_move rfl) ?_;obtain ⟨a23, e24, H⟩ := H;refine tq (f_idx (s := r13) Tryz.runUnderlying51 Tryz.sizeOf49 rfl rfl e24) (tq (y_fa (off := 3) Tryz.runUnderlying49 fo_49_1 rfl) (tq (y_fa (off := 1) Tryz.runUnderlying40 fo_40_1 rfl) ?_));obtain ⟨y25, k26, H⟩ := H;refine tr_h (y_ld Tryz.isAgg2 rfl) k26 rfl rfl (tq (y_eql rfl rfl) (tq (y_pick_t rfl rfl) (tq (y_move rfl) ?_)));refine tr_split (t := 59) rfl (fun g27 => ?_) (fun g27 => ?_)
       ·replace H := H.1 g27;refine tq (y_move rfl) (tr_e (e_call Tryz.call24 rfl (F.xbg_ok H)) rfl rfl ?_);rintro _ h28 ⟨r29, rfl, H⟩;refine tq (y_eql rfl rfl) (tq (y_pick_t rfl rfl) (tq (y_move rfl) ?_));refine tr_split (t := 64) rfl (fun g30 => ?_) (fun g30 => ?_)
        ·replace H := H.1 g30;refine tq (y_move rfl) (tr_e (e_call Tryz.call24 rfl (F.xbg_ok H)) rfl rfl ?_);rintro _ h31 ⟨r32, rfl, H⟩;refine tq (y_eql rfl rfl) (tq (y_pick_t rfl rfl) (tq (y_assign rfl) (tr_nil (tr_thenN (tr_ret ?_)))));exact tr_ret1 rfl rfl ⟨_, rfl, H⟩
        ·replace H := H.2 g30;refine ts (ts (ts (tq (y_pick_f rfl rfl) (tq (y_assign rfl) (tr_nil (tr_thenN (tr_ret ?_)))))));exact tr_ret1 rfl rfl ⟨_, rfl, H⟩
       ·replace H := H.2 g27;refine ts (ts (ts (tq (y_pick_f rfl rfl) (tq (y_move rfl) (ts (ts (ts (tq (y_pick_f rfl rfl) (tq (y_assign rfl) (tr_nil (tr_thenN (tr_ret ?_))))))))))));exact tr_ret1 rfl rfl ⟨_, rfl, H⟩
      ·replace H := H.2 g22;refine ts (ts (ts (ts (ts (ts (tq (y_pick_f rfl rfl) (tq (y_move rfl) (ts (ts (ts (tq (y_pick_f rfl rfl) (tq (y_move rfl) (ts ?_)))))))))))));refine ts (ts (tq (y_pick_f rfl rfl) (tq (y_assign rfl) (tr_nil (tr_thenN (tr_ret ?_))))));exact tr_ret1 rfl rfl ⟨_, rfl, H⟩
     ·replace H := H.2 g21;refine ts (ts (ts (tq (y_pick_f rfl rfl) (tq (y_move rfl) (ts (ts (ts (ts (ts (ts (tq (y_pick_f rfl rfl) (tq (y_move rfl) (ts ?_)))))))))))));refine ts (ts (tq (y_pick_f rfl rfl) (tq (y_move rfl) (ts (ts (ts (tq (y_pick_f rfl rfl) (tq (y_assign rfl) (tr_nil (tr_thenN (tr_ret ?_)))))))))));exact tr_ret1 rfl rfl ⟨_, rfl, H⟩
    ·replace H := H.2 g18;refine ts (ts (ts (tq (y_pick_f rfl rfl) (tq (y_move rfl) (ts (ts (ts (tq (y_pick_f rfl rfl) (tq (y_move rfl) (ts (ts (ts (ts ?_)))))))))))));refine ts (ts (tq (y_pick_f rfl rfl) (tq (y_move rfl) (ts (ts (ts (tq (y_pick_f rfl rfl) (tq (y_move rfl) (ts (ts (ts (tq (y_pick_f rfl rfl) (tq (y_assign rfl) ?_)))))))))))));refine tr_nil (tr_thenN (tr_ret ?_));exact tr_ret1 rfl rfl ⟨_, rfl, H⟩
   ·replace H := H.2 g15;refine ts (ts (ts (tq (y_pick_f rfl rfl) (tq (y_move rfl) (ts (ts (ts (tq (y_pick_f rfl rfl) (tq (y_move rfl) (ts (ts (ts (tq (y_pick_f rfl rfl) ?_)))))))))))));refine tq (y_move rfl) (ts (ts (ts (ts (ts (ts (tq (y_pick_f rfl rfl) (tq (y_move rfl) (ts (ts (ts (tq (y_pick_f rfl rfl) (tq (y_move rfl) ?_)))))))))))));refine ts (ts (ts (tq (y_pick_f rfl rfl) (tq (y_assign rfl) (tr_nil (tr_thenN (tr_ret ?_)))))));exact tr_ret1 rfl rfl ⟨_, rfl, H⟩
  ·replace H := H.2 g14;refine ts (ts (tq (y_pick_f rfl rfl) (tq (y_move rfl) (ts (ts (ts (tq (y_pick_f rfl rfl) (tq (y_move rfl) (ts (ts (ts (tq (y_pick_f rfl rfl) (tq (y_move rfl) ?_)))))))))))));refine ts (ts (ts (tq (y_pick_f rfl rfl) (tq (y_move rfl) (ts (ts (ts (ts (ts (ts (tq (y_pick_f rfl rfl) (tq (y_move rfl) (ts ?_)))))))))))));refine ts (ts (tq (y_pick_f rfl rfl) (tq (y_move rfl) (ts (ts (ts (tq (y_pick_f rfl rfl) (tq (y_assign rfl) (tr_nil (tr_thenN (tr_ret ?_)))))))))));exact tr_ret1 rfl rfl ⟨_, rfl, H⟩
 ·refine tr_seq_j (fun L' h => ∃ (x1 : Option Addr) (x15 : Bool), L' = [(1, (.pointer x1)), (15, (.bool x15))] ∧ F.xax.j2 Q x1 x15 h) ?_ ?_
  ·rintro L' h ⟨x1, x15, rfl, H⟩;unfold F.xax.j2 at H;refine tr_cond rfl (fun g33 => ?_) (fun g33 => ?_)
   ·replace H := H.1 g33;refine tr_seq (tr_region (tq (y_assign rfl) (tr_nil (tr_thenN (tr_ret (tr_thenR ?_))))));exact tr_ret1 rfl rfl ⟨_, rfl, H⟩
   ·replace H := H.2 g33;refine tr_skip (tr_thenN ?_);exact tr_join [(1, (.pointer x1))] ⟨rfl, trivial⟩ ⟨_, rfl, H⟩
  ·refine tr_region (tq (y_move rfl) (tq (y_neq rfl rfl) (tq (y_move rfl) ?_)));refine tr_split (t := 12) rfl (fun g34 => ?_) (fun g34 => ?_)
   ·replace H := H.1 g34;refine ts (ts (tq (y_pick_t rfl rfl) (tr_nil (tr_thenN ?_))));exact tr_join [(1, (.pointer r2)), (15, (.bool true))] ⟨rfl, rfl, trivial⟩ ⟨_, _, rfl, H⟩
   ·replace H := H.2 g34;refine tq (y_move rfl) (tq (y_pnil_eql Tryz.runUnderlying23 rfl rfl) (tq (y_pick_f rfl rfl) (tr_nil (tr_thenN ?_))));exact tr_join [(1, (.pointer r2)), (15, (.bool r2.isNone))] ⟨rfl, rfl, trivial⟩ ⟨_, _, rfl, H⟩
def F.xay.j1 (Q : Int -> H -> Prop) (x5 : Int) (h : H) : Prop :=
  Q x5 h
def F.xay (p0 : Int) (p1 : Int) (h : H) (Q : Int -> H -> Prop) : Prop :=
  (p1 : Int) ≠ 0 ∧
  ((decide ((Int.tmod p0 p1) < 0)) = true ->
  F.xay.j1 Q (IntKind.wrap .i64 ((Int.tmod p0 p1) + p1)) h) ∧
  ((decide ((Int.tmod p0 p1) < 0)) = false ->
  F.xay.j1 Q (Int.tmod p0 p1) h)
theorem F.xay_ok {p0 : Int} {p1 : Int} {h : H} {Q : Int -> H -> Prop} (H : F.xay p0 p1 h Q) : Fn PP 13 ([(.int .i64 p0), (.int .i64 p1)] : List Value).toArray h fun r h' => ∃ r0, r = (.int .i64 r0) ∧ Q r0 h' := by
 unfold F.xay at H;refine fn_of Tryz.func13 Tryz.ntmps13 rfl rfl fun w0 => (tr_sub [(0, (.int .i64 p0)), (1, (.int .i64 p1))] ⟨rfl, rfl, trivial⟩ (tr_seq (tr_region (tq (y_assign rfl) (tr_nil (tr_thenN (tr_seq (tr_region (tq (y_move rfl) (tq (y_move rfl) ?_))))))))));obtain ⟨e1, H⟩ := H;refine tq (y_rem rfl rfl e1) (tq (y_assign rfl) (tr_nil (tr_thenN ?_)));refine tr_seq_j (fun L' h => ∃ (x5 : Int), L' = [(5, (.int .i64 x5))] ∧ F.xay.j1 Q x5 h) ?_ ?_
 ·rintro L' h ⟨x5, rfl, H⟩;unfold F.xay.j1 at H;refine tr_seq (tr_region (tq (y_move rfl) (tq (y_assign rfl) (tr_nil (tr_thenN (tr_ret ?_))))));exact tr_ret1 rfl rfl ⟨_, rfl, H⟩
 ·refine tr_seq (tr_region (tq (y_move rfl) (tq (y_lss rfl rfl) (tr_nil (tr_thenN ?_)))));refine tr_cond rfl (fun g2 => ?_) (fun g2 => ?_)
  ·replace H := H.1 g2;refine tr_region (tq (y_move rfl) (tq (y_move rfl) (tq (y_add rfl rfl) (tq (y_assign rfl) (tr_nil (tr_thenN ?_))))));exact tr_join [(5, (.int .i64 (IntKind.wrap .i64 ((Int.tmod p0 p1) + p1))))] ⟨rfl, trivial⟩ ⟨_, rfl, H⟩
  ·replace H := H.2 g2;refine tr_skip (tr_thenN ?_);exact tr_join [(5, (.int .i64 (Int.tmod p0 p1)))] ⟨rfl, trivial⟩ ⟨_, rfl, H⟩
def F.xbd.j1 (Q : S_api_Cell -> H -> Prop) (x1 : Addr) (x2 : Addr) (x3 : ByteArray) (h : H) : Prop :=
  ldI .i64 h (x1.add 0) fun y5 =>
  ldI .i64 h (x1.add 2) fun y7 =>
  (3 : Int) ≠ 0 ∧
  F.xay y5 2 h fun r11 h10 =>
  cellH h10 (x1.add 2) = some (.int .i64 y7) ∧
  stH h10 x2 ((⟨r11, x3, (Int.tmod y7 3)⟩ : S_api_Cell).cells) fun h13 =>
  ld_S_api_Cell h13 x2 fun y14 =>
  Q y14 h13
def F.xbd (p0 : S_api_Cell) (h : H) (Q : S_api_Cell -> H -> Prop) : Prop :=
  new h p0.cells.toArray ty_35 fun a2 h1 =>
  new h1 (((⟨0, (⟨#[]⟩ : ByteArray), 0⟩ : S_api_Cell) : S_api_Cell).cells.toArray) ty_35 fun a4 h3 =>
  ldS h3 (a2.add 1) fun y16 =>
  ((decide ((y16.size : Int) > 0)) = true ->
  ldS h3 (a2.add 1) fun y19 =>
  idxS y19 0 fun b21 =>
  (9 : Int) ≠ 0 ∧
  ldS h3 (a2.add 1) fun y24 =>
  (3 : Int) ≠ 0 ∧
  newL h3 #[(.int .u8 (IntKind.wrap .u8 (97 + (Int.tmod b21 9)))), (.int .u8 (IntKind.wrap .u8 (97 + (IntKind.wrap .u8 (Int.tmod (y24.size : Int) 3)))))] ty_5 2 fun s28 h27 =>
  runT PP (convert 93 9 s28.enc) h27 fun s30 h29 =>
  F.xbd.j1 Q a2 a4 s30 h29) ∧
  ((decide ((y16.size : Int) > 0)) = false ->
  F.xbd.j1 Q a2 a4 (⟨#[107]⟩ : ByteArray) h3)
theorem F.xbd_ok {p0 : S_api_Cell} {h : H} {Q : S_api_Cell -> H -> Prop} (H : F.xbd p0 h Q) : Fn PP 15 ([(.agg p0.cells.toArray)] : List Value).toArray h fun r h' => ∃ r0, r = (.agg r0.cells.toArray) ∧ Q r0 h' := by
 unfold F.xbd at H;refine fn_of Tryz.func15 Tryz.ntmps15 rfl rfl fun w0 => (tr_sub [(0, (.agg p0.cells.toArray))] ⟨rfl, trivial⟩ (tr_seq (tr_region (tr_e (f_box (cs := p0.cells.toArray) rfl rfl H) rfl rfl ?_))));rintro _ h1 ⟨a2, rfl, H⟩;refine tr_e (f_alloc (cs := ((⟨0, (⟨#[]⟩ : ByteArray), 0⟩ : S_api_Cell) : S_api_Cell).cells.toArray) Tryz.zeroValue35 rfl H) rfl rfl ?_;rintro _ h3 ⟨a4, rfl, H⟩;refine tr_nil (tr_thenN (tr_seq (tr_region (tq (y_assign rfl) (tr_nil (tr_thenN ?_))))));refine tr_seq_j (fun L' h => ∃ (x1 : Addr) (x2 : Addr) (x3 : ByteArray), L' = [(1, (.pointer (some x1))), (2, (.pointer (some x2))), (3, (.string x3))] ∧ F.xbd.j1 Q x1 x2 x3 h) ?_ ?_
 ·rintro L' h ⟨x1, x2, x3, rfl, H⟩;unfold F.xbd.j1 at H;refine tr_seq (tr_draw mixed [0, 1, 3, 0, 0, 16, 48, 127, 255] (by kernel_rfl) (g_p 0 1 rfl (by kernel_rfl) (y_fa (off := 0) Tryz.runUnderlying35 fo_35_0 rfl) rfl rfl ?_));obtain ⟨y5, k6, H⟩ := H;refine g_h 1 3 rfl (by kernel_rfl) (y_ld Tryz.isAgg3 rfl) k6 rfl rfl (g_p 3 11 rfl (by kernel_rfl) (y_move rfl) rfl rfl (g_p 4 27 rfl (by kernel_rfl) (y_fa (off := 2) Tryz.runUnderlying35 fo_35_2 rfl) rfl rfl ?_));obtain ⟨y7, k8, H⟩ := H;refine g_h 5 59 rfl (by kernel_rfl) (y_ld Tryz.isAgg2 rfl) k8 rfl rfl ?_;obtain ⟨e9, H⟩ := H;refine g_p 6 123 rfl (by kernel_rfl) (y_rem rfl rfl e9) rfl rfl (g_e 2 127 [(5, fun h => cellH h (x1.add 2) = some (.int .i64 y7))] (by kernel_rfl) rfl (by kernel_rfl) (e_call Tryz.call13 rfl (F.xay_ok H)) rfl rfl ?_);rintro _ h10 ⟨r11, rfl, H⟩;obtain ⟨k12, H⟩ := H;refine ⟨And.intro k12 trivial, ?_⟩;refine g_p 7 255 rfl (by kernel_rfl) (f_build rfl (bd_35_0_1_2 r11 x3 (Int.tmod y7 3))) rfl rfl (g_e 8 511 [] (by kernel_rfl) rfl (by kernel_rfl) (f_store (vs := (⟨r11, x3, (Int.tmod y7 3)⟩ : S_api_Cell).cells) Tryz.sizeOf35 rfl rfl cellsOfStruct rfl (by intro v hv; exact ones_S_api_Cell _ v hv) H) rfl rfl ?_);rintro _ h13 ⟨rfl, H⟩;refine ⟨trivial, ?_⟩;refine g_d (by kernel_rfl) (tr_thenN (tr_ret ?_));obtain ⟨y14, k15, H⟩ := H;exact tr_rv1 rfl (rv_cellS Tryz.isAgg35 Tryz.sizeOf35 rfl rfl k15) ⟨_, rfl, H⟩
 ·refine tr_seq (tr_region (tq (y_fa (off := 1) Tryz.runUnderlying35 fo_35_1 rfl) ?_));obtain ⟨y16, k17, H⟩ := H;refine tr_h (y_ld Tryz.isAgg9 rfl) k17 rfl rfl (tq (y_lenS Tryz.runUnderlying9 rfl) (tq (y_gtr rfl rfl) (tr_nil (tr_thenN ?_))));refine tr_cond rfl (fun g18 => ?_) (fun g18 => ?_)
  ·replace H := H.1 g18;refine tr_draw mixed [0, 1, 3, 7, 15, 0, 32, 96, 224, 480, 992, 2047, 4095, 8191] (by kernel_rfl) (g_p 0 1 rfl (by kernel_rfl) (y_fa (off := 1) Tryz.runUnderlying35 fo_35_1 rfl) rfl rfl ?_);obtain ⟨y19, k20, H⟩ := H;refine g_h 1 3 rfl (by kernel_rfl) (y_ld Tryz.isAgg9 rfl) k20 rfl rfl ?_;obtain ⟨b21, e22, H⟩ := H;refine g_p 2 7 rfl (by kernel_rfl) (f_idxS Tryz.runUnderlying9 rfl rfl e22) rfl rfl ?_;obtain ⟨e23, H⟩ := H;refine g_p 3 15 rfl (by kernel_rfl) (y_rem rfl rfl e23) rfl rfl (g_p 4 31 rfl (by kernel_rfl) (y_add rfl rfl) rfl rfl (g_p 5 63 rfl (by kernel_rfl) (y_fa (off := 1) Tryz.runUnderlying35 fo_35_1 rfl) rfl rfl ?_));obtain ⟨y24, k25, H⟩ := H;refine g_h 6 127 rfl (by kernel_rfl) (y_ld Tryz.isAgg9 rfl) k25 rfl rfl (g_p 7 255 rfl (by kernel_rfl) (y_lenS Tryz.runUnderlying9 rfl) rfl rfl ?_);obtain ⟨e26, H⟩ := H;refine g_p 8 511 rfl (by kernel_rfl) (y_rem rfl rfl e26) rfl rfl (g_p 9 1023 rfl (by kernel_rfl) (y_cvt Tryz.runUnderlying3 Tryz.runUnderlying5 rfl) rfl rfl (g_p 10 2047 rfl (by kernel_rfl) (y_add rfl rfl) rfl rfl (g_e 11 4095 [] (by kernel_rfl) rfl (by kernel_rfl) (f_buildL (cs := #[(.int .u8 (IntKind.wrap .u8 (97 + (Int.tmod b21 9)))), (.int .u8 (IntKind.wrap .u8 (97 + (IntKind.wrap .u8 (Int.tmod (y24.size : Int) 3)))))]) rfl rfl (bl_93_2_0_1 (IntKind.wrap .u8 (97 + (Int.tmod b21 9))) (IntKind.wrap .u8 (97 + (IntKind.wrap .u8 (Int.tmod (y24.size : Int) 3))))) H) rfl rfl ?_)));rintro _ h27 ⟨s28, rfl, H⟩;refine ⟨trivial, ?_⟩;refine g_e 12 8191 [] (by kernel_rfl) rfl (by kernel_rfl) (f_cvtT rfl H) rfl rfl ?_;rintro _ h29 ⟨s30, rfl, H⟩;refine ⟨trivial, ?_⟩;refine g_p 13 16383 rfl (by kernel_rfl) (y_assign rfl) rfl rfl (g_d (by kernel_rfl) (tr_thenN ?_));exact tr_join [(1, (.pointer (some a2))), (2, (.pointer (some a4))), (3, (.string s30))] ⟨rfl, rfl, rfl, trivial⟩ ⟨_, _, _, rfl, H⟩
  ·replace H := H.2 g18;refine tr_skip (tr_thenN ?_);exact tr_join [(1, (.pointer (some a2))), (2, (.pointer (some a4))), (3, (.string (⟨#[107]⟩ : ByteArray)))] ⟨rfl, rfl, rfl, trivial⟩ ⟨_, _, _, rfl, H⟩
def F.xbm.l1 (Q : Bool -> H -> Prop) : Nat -> Sl -> Sl -> Int -> H -> Prop
  | 0, _, _, _, _ => False
  | q1 + 1, x0, x1, x5, h =>
    ((decide (x5 < (x0.len : Int))) = true ->
    idxA x0 x5 7 fun a3 =>
    ld_S_api_Row h a3 fun y5 =>
    idxA x1 x5 7 fun a7 =>
    ld_S_api_Row h a7 fun y9 =>
    ((!((((y5.Cell.View == y9.Cell.View) && ((y5.Cell.Key.toList == y9.Cell.Key.toList) && ((y5.Cell.Start == y9.Cell.Start) && true)))) && ((((y5.Agg.Count == y9.Agg.Count) && ((y5.Agg.Sum == y9.Agg.Sum) && ((y5.Agg.Min == y9.Agg.Min) && ((y5.Agg.Max == y9.Agg.Max) && true))))) && true))) = true ->
    Q false h) ∧
    ((!((((y5.Cell.View == y9.Cell.View) && ((y5.Cell.Key.toList == y9.Cell.Key.toList) && ((y5.Cell.Start == y9.Cell.Start) && true)))) && ((((y5.Agg.Count == y9.Agg.Count) && ((y5.Agg.Sum == y9.Agg.Sum) && ((y5.Agg.Min == y9.Agg.Min) && ((y5.Agg.Max == y9.Agg.Max) && true))))) && true))) = false ->
    (F.xbm.l1 Q q1) x0 x1 (IntKind.wrap .i64 (x5 + 1)) h)) ∧
    ((decide (x5 < (x0.len : Int))) = false ->
    Q true h)
def F.xbm (p0 : Sl) (p1 : Sl) (h : H) (Q : Bool -> H -> Prop) : Prop :=
  ((((p0.len : Int) != (p1.len : Int))) = true ->
  Q false h) ∧
  ((((p0.len : Int) != (p1.len : Int))) = false ->
  ∃ m, F.xbm.l1 Q m p0 p1 0 h)
theorem F.xbm_ok {p0 : Sl} {p1 : Sl} {h : H} {Q : Bool -> H -> Prop} (H : F.xbm p0 p1 h Q) : Fn PP 19 ([p0.enc, p1.enc] : List Value).toArray h fun r h' => ∃ r0, r = (.bool r0) ∧ Q r0 h' := by
 unfold F.xbm at H;refine fn_of Tryz.func19 Tryz.ntmps19 rfl rfl fun w0 => (tr_sub [(0, p0.enc), (1, p1.enc)] ⟨rfl, rfl, trivial⟩ (tr_seq (tr_region (tq (y_assign rfl) (tr_nil (tr_thenN (tr_seq (tr_seq (tr_region (tq (y_move rfl) (tq (y_len (ts := #[]) Tryz.runUnderlying51 (o := p0.ptr) (n := p0.len) (cap := p0.cap) rfl) (tq (y_move rfl) (tq (y_len (ts := #[]) Tryz.runUnderlying51 (o := p1.ptr) (n := p1.len) (cap := p1.cap) rfl) ?_)))))))))))));refine tq (y_neq rfl rfl) (tr_nil (tr_thenN ?_));refine tr_cond rfl (fun g1 => ?_) (fun g1 => ?_)
 ·replace H := H.1 g1;refine tr_seq (tr_region (tq (y_assign rfl) (tr_nil (tr_thenN (tr_ret (tr_thenR ?_))))));exact tr_ret1 rfl rfl ⟨_, rfl, H⟩
 ·replace H := H.2 g1;refine tr_skip (tr_thenN (tr_seq (tr_seq (tr_region (tq (y_assign rfl) (tr_nil (tr_thenN (tr_block ?_))))))));obtain ⟨m12, H⟩ := H;refine tr_sub [(0, p0.enc), (1, p1.enc), (5, (.int .i64 0))] ⟨rfl, rfl, rfl, trivial⟩ ?_;refine tr_loop_j (fun m L' h => ∃ (x0 : Sl) (x1 : Sl) (x5 : Int), L' = [(0, x0.enc), (1, x1.enc), (5, (.int .i64 x5))] ∧ F.xbm.l1 Q m x0 x1 x5 h) ?_ ?_ m12 ⟨_, _, _, rfl, H⟩
  ·rintro L' h ⟨_, _, _, _, H⟩; exact H
  ·rintro q1 L' h ⟨x0, x1, x5, rfl, H⟩;unfold F.xbm.l1 at H;refine tr_seq (tr_seq (tr_region (tq (y_move rfl) (tq (y_move rfl) (tq (y_len (ts := #[]) Tryz.runUnderlying51 (o := x0.ptr) (n := x0.len) (cap := x0.cap) rfl) (tq (y_lss rfl rfl) (tr_nil (tr_thenN ?_))))))));refine tr_cond rfl (fun g2 => ?_) (fun g2 => ?_)
   ·replace H := H.1 g2;refine tr_skip (tr_thenN (tr_seq (tr_block (tr_seq (tr_draw mixed [0, 0, 3, 7, 0, 0, 48, 112, 255] (by kernel_rfl) (g_p 0 1 rfl (by kernel_rfl) (y_move rfl) rfl rfl (g_p 1 3 rfl (by kernel_rfl) (y_move rfl) rfl rfl ?_)))))));obtain ⟨a3, e4, H⟩ := H;refine g_p 2 7 rfl (by kernel_rfl) (f_idx (s := x0) Tryz.runUnderlying51 Tryz.sizeOf49 rfl rfl e4) rfl rfl ?_;obtain ⟨y5, k6, H⟩ := H;refine g_h 3 15 rfl (by kernel_rfl) (y_ldS Tryz.isAgg49 Tryz.sizeOf49 rfl rfl) k6 rfl rfl (g_p 4 31 rfl (by kernel_rfl) (y_move rfl) rfl rfl (g_p 5 63 rfl (by kernel_rfl) (y_move rfl) rfl rfl ?_));obtain ⟨a7, e8, H⟩ := H;refine g_p 6 127 rfl (by kernel_rfl) (f_idx (s := x1) Tryz.runUnderlying51 Tryz.sizeOf49 rfl rfl e8) rfl rfl ?_;obtain ⟨y9, k10, H⟩ := H;refine g_h 7 255 rfl (by kernel_rfl) (y_ldS Tryz.isAgg49 Tryz.sizeOf49 rfl rfl) k10 rfl rfl (g_p 8 511 rfl (by kernel_rfl) (st_neq (b := ((((y5.Cell.View == y9.Cell.View) && ((y5.Cell.Key.toList == y9.Cell.Key.toList) && ((y5.Cell.Start == y9.Cell.Start) && true)))) && ((((y5.Agg.Count == y9.Agg.Count) && ((y5.Agg.Sum == y9.Agg.Sum) && ((y5.Agg.Min == y9.Agg.Min) && ((y5.Agg.Max == y9.Agg.Max) && true))))) && true))) eqg_49 (fun w => eqst_49 y5 y9 9997 w) rfl rfl) rfl rfl (g_d (by kernel_rfl) (tr_thenN ?_)));refine tr_cond rfl (fun g11 => ?_) (fun g11 => ?_)
    ·replace H := H.1 g11;refine tr_seq (tr_region (tq (y_assign rfl) (tr_nil (tr_thenN (tr_ret (tr_blockR (tr_thenR (tr_thenR (tr_blockR (tr_thenR ?_))))))))));exact tr_ret1 rfl rfl ⟨_, rfl, H⟩
    ·replace H := H.2 g11;refine tr_skip (tr_blockN (tr_thenN (tr_region (tq (y_move rfl) (tq (y_add rfl rfl) (tq (y_assign rfl) (tr_nil (tr_thenN ?_))))))));exact tr_join [(0, x0.enc), (1, x1.enc), (5, (.int .i64 (IntKind.wrap .i64 (x5 + 1))))] ⟨rfl, rfl, rfl, trivial⟩ ⟨_, _, _, rfl, H⟩
   ·replace H := H.2 g2;refine tr_exit (tr_thenE (tr_thenE (tr_hit (tr_thenN (tr_seq (tr_region (tq (y_assign rfl) (tr_nil (tr_thenN (tr_ret ?_))))))))));exact tr_ret1 rfl rfl ⟨_, rfl, H⟩
def F.xda (p0 : Option Addr) (p1 : S_api_Cell) (p2 : Int) (h : H) (Q : S_api_Agg -> H -> Prop) : Prop :=
  new h p1.cells.toArray ty_35 fun a2 h1 =>
  new h1 (((⟨0, 0, 0, 0⟩ : S_api_Agg) : S_api_Agg).cells.toArray) ty_40 fun a4 h3 =>
  ld_S_api_Cell h3 a2 fun y5 =>
  F.xbx p0 y5 h3 fun r8 h7 =>
  F.xbw r8 p2 h7 fun r10 r11 h9 =>
  new h9 (((⟨0, 0, 0, 0⟩ : S_api_Agg) : S_api_Agg).cells.toArray) ty_40 fun a13 h12 =>
  stH h12 a13 r10.cells fun h14 =>
  ld_S_api_Agg h14 a13 fun y15 =>
  stH h14 a4 y15.cells fun h17 =>
  ld_S_api_Agg h17 a4 fun y18 =>
  Q y18 h17
def F.xdb (p0 : Option Addr) (p1 : S_api_Cell) (h : H) (Q : S_api_Agg -> H -> Prop) : Prop :=
  new h p1.cells.toArray ty_35 fun a2 h1 =>
  new h1 (((⟨0, 0, 0, 0⟩ : S_api_Agg) : S_api_Agg).cells.toArray) ty_40 fun a4 h3 =>
  ld_S_api_Cell h3 a2 fun y5 =>
  F.xda p0 y5 0 h3 fun r8 h7 =>
  stH h7 a4 r8.cells fun h9 =>
  ld_S_api_Agg h9 a4 fun y10 =>
  Q y10 h9
def F.xby (p0 : Option Addr) (p1 : Int) (p2 : Int) (p3 : S_api_Cell) (p4 : S_api_Cell) (p5 : Int) (h : H) (Q : Sl -> H -> Prop) : Prop :=
  new h p3.cells.toArray ty_35 fun a2 h1 =>
  new h1 p4.cells.toArray ty_35 fun a4 h3 =>
  F.xbz p0 p1 h3 fun r6 h5 =>
  ((!r6) = true ->
  Q (⟨none, 0, 0⟩ : Sl) h5) ∧
  ((!r6) = false ->
  nn p0 fun a8 =>
  ldL h5 (a8.add 0) fun y10 =>
  idxA y10 p1 1 fun a12 =>
  ldP h5 a12 fun y14 =>
  ld_S_api_Cell h5 a2 fun y16 =>
  ld_S_api_Cell h5 a4 fun y18 =>
  F.xai y14 p2 y16 y18 p5 h5 fun r21 h20 =>
  Q r21 h20)
theorem F.xby_ok {p0 : Option Addr} {p1 : Int} {p2 : Int} {p3 : S_api_Cell} {p4 : S_api_Cell} {p5 : Int} {h : H} {Q : Sl -> H -> Prop} (H : F.xby p0 p1 p2 p3 p4 p5 h Q) : Fn PP 21 ([(.pointer p0), (.int .i64 p1), (.int .i64 p2), (.agg p3.cells.toArray), (.agg p4.cells.toArray), (.int .i64 p5)] : List Value).toArray h fun r h' => ∃ r0, r = r0.enc ∧ Q r0 h' := by
 unfold F.xby at H;refine fn_of Tryz.func21 Tryz.ntmps21 rfl rfl fun w0 => (tr_sub [(0, (.pointer p0)), (1, (.int .i64 p1)), (2, (.int .i64 p2)), (3, (.agg p3.cells.toArray)), (4, (.agg p4.cells.toArray)), (5, (.int .i64 p5))] ⟨rfl, rfl, rfl, rfl, rfl, rfl, trivial⟩ (tr_seq (tr_region (tr_e (f_box (cs := p3.cells.toArray) rfl rfl H) rfl rfl ?_))));rintro _ h1 ⟨a2, rfl, H⟩;refine tr_e (f_box (cs := p4.cells.toArray) rfl rfl H) rfl rfl ?_;rintro _ h3 ⟨a4, rfl, H⟩;refine tq (y_assign rfl) (tr_nil (tr_thenN (tr_seq (tr_seq (tr_region (tq (y_move rfl) (tq (y_move rfl) (tr_e (e_call Tryz.call51 rfl (F.xbz_ok H)) rfl rfl ?_))))))));rintro _ h5 ⟨r6, rfl, H⟩;refine tq (y_not rfl) (tr_nil (tr_thenN ?_));refine tr_cond rfl (fun g7 => ?_) (fun g7 => ?_)
 ·replace H := H.1 g7;refine tr_seq (tr_region (tq (y_assign rfl) (tr_nil (tr_thenN (tr_ret (tr_thenR ?_))))));exact tr_ret1 rfl rfl ⟨_, rfl, H⟩
 ·replace H := H.2 g7;refine tr_skip (tr_thenN (tr_seq (tr_draw mixed [0, 1, 3, 7, 0, 31, 63, 0, 0, 0, 0, 2047, 4095] (by kernel_rfl) (g_p 0 1 rfl (by kernel_rfl) (y_move rfl) rfl rfl ?_))));obtain ⟨a8, e9, H⟩ := H;refine g_p 1 3 rfl (by kernel_rfl) (f_nn rfl e9) rfl rfl (g_p 2 7 rfl (by kernel_rfl) (y_fa (off := 0) Tryz.runUnderlying83 fo_83_0 rfl) rfl rfl ?_);obtain ⟨y10, k11, H⟩ := H;refine g_h 3 15 rfl (by kernel_rfl) (y_ld Tryz.isAgg81 rfl) k11 rfl rfl (g_p 4 31 rfl (by kernel_rfl) (y_move rfl) rfl rfl ?_);obtain ⟨a12, e13, H⟩ := H;refine g_p 5 63 rfl (by kernel_rfl) (f_idx (s := y10) Tryz.runUnderlying81 Tryz.sizeOf64 rfl rfl e13) rfl rfl ?_;obtain ⟨y14, k15, H⟩ := H;refine g_h 6 127 rfl (by kernel_rfl) (y_ld Tryz.isAgg64 rfl) k15 rfl rfl (g_p 7 255 rfl (by kernel_rfl) (y_move rfl) rfl rfl ?_);obtain ⟨y16, k17, H⟩ := H;refine g_h 8 511 rfl (by kernel_rfl) (y_ldS Tryz.isAgg35 Tryz.sizeOf35 rfl rfl) k17 rfl rfl ?_;obtain ⟨y18, k19, H⟩ := H;refine g_h 9 1023 rfl (by kernel_rfl) (y_ldS Tryz.isAgg35 Tryz.sizeOf35 rfl rfl) k19 rfl rfl (g_p 10 2047 rfl (by kernel_rfl) (y_move rfl) rfl rfl (g_e 11 4095 [] (by kernel_rfl) rfl (by kernel_rfl) (e_call Tryz.call39 rfl (F.xai_ok H)) rfl rfl ?_));rintro _ h20 ⟨r21, rfl, H⟩;refine ⟨trivial, ?_⟩;refine g_p 12 8191 rfl (by kernel_rfl) (y_assign rfl) rfl rfl (g_d (by kernel_rfl) (tr_thenN (tr_ret ?_)));exact tr_ret1 rfl rfl ⟨_, rfl, H⟩
def F.xcj  (h : H) (Q : S_api_Cell -> S_api_Cell -> H -> Prop) : Prop :=
  new h (((⟨0, (⟨#[]⟩ : ByteArray), 0⟩ : S_api_Cell) : S_api_Cell).cells.toArray) ty_35 fun a2 h1 =>
  new h1 (((⟨0, (⟨#[]⟩ : ByteArray), 0⟩ : S_api_Cell) : S_api_Cell).cells.toArray) ty_35 fun a4 h3 =>
  stH h3 a2 ((⟨0, (⟨#[]⟩ : ByteArray), 0⟩ : S_api_Cell).cells) fun h5 =>
  stH h5 a4 ((⟨9, (⟨#[]⟩ : ByteArray), 0⟩ : S_api_Cell).cells) fun h6 =>
  ld_S_api_Cell h6 a2 fun y7 =>
  ld_S_api_Cell h6 a4 fun y9 =>
  Q y7 y9 h6
theorem F.xcj_ok  {h : H} {Q : S_api_Cell -> S_api_Cell -> H -> Prop} (H : F.xcj  h Q) : Fn PP 23 ([] : List Value).toArray h fun r h' => ∃ r0 r1, r = .tuple #[(.agg r0.cells.toArray), (.agg r1.cells.toArray)] ∧ Q r0 r1 h' := by
 unfold F.xcj at H;refine fn_of Tryz.func23 Tryz.ntmps23 rfl rfl fun w0 => (tr_sub [] trivial (tr_seq (tr_region (tr_e (f_alloc (cs := ((⟨0, (⟨#[]⟩ : ByteArray), 0⟩ : S_api_Cell) : S_api_Cell).cells.toArray) Tryz.zeroValue35 rfl H) rfl rfl ?_))));rintro _ h1 ⟨a2, rfl, H⟩;refine tr_e (f_alloc (cs := ((⟨0, (⟨#[]⟩ : ByteArray), 0⟩ : S_api_Cell) : S_api_Cell).cells.toArray) Tryz.zeroValue35 rfl H) rfl rfl ?_;rintro _ h3 ⟨a4, rfl, H⟩;refine tr_nil (tr_thenN (tr_seq (tr_region (tq (f_build rfl (bd_35_ )) (tq (f_build rfl (bd_35_0 9)) (tr_e (f_store (vs := (⟨0, (⟨#[]⟩ : ByteArray), 0⟩ : S_api_Cell).cells) Tryz.sizeOf35 rfl rfl cellsOfStruct rfl (by intro v hv; exact ones_S_api_Cell _ v hv) H) rfl rfl ?_))))));rintro _ h5 ⟨rfl, H⟩;refine tr_e (f_store (vs := (⟨9, (⟨#[]⟩ : ByteArray), 0⟩ : S_api_Cell).cells) Tryz.sizeOf35 rfl rfl cellsOfStruct rfl (by intro v hv; exact ones_S_api_Cell _ v hv) H) rfl rfl ?_;rintro _ h6 ⟨rfl, H⟩;refine tr_nil (tr_thenN (tr_ret ?_));obtain ⟨y7, k8, H⟩ := H;obtain ⟨y9, k10, H⟩ := H;exact tr_rv2 rfl (rv_cellS Tryz.isAgg35 Tryz.sizeOf35 rfl rfl k8) (rv_cellS Tryz.isAgg35 Tryz.sizeOf35 rfl rfl k10) ⟨_, _, rfl, H⟩
def F.xcn (p0 : Option Addr) (p1 : Int) (h : H) (Q : Int -> Int -> H -> Prop) : Prop :=
  F.xar p0 p1 h fun r2 h1 =>
  (((r2 != 0)) = true ->
  Q 0 r2 h1) ∧
  (((r2 != 0)) = false ->
  F.xbp p0 h1 fun r5 r6 r7 h4 =>
  new h4 (((⟨0, 0, 0, 0⟩ : S_api_Agg) : S_api_Agg).cells.toArray) ty_40 fun a9 h8 =>
  stH h8 a9 r5.cells fun h10 =>
  ((!r7) = true ->
  Q 0 44 h10) ∧
  ((!r7) = false ->
  F.xaq p0 (⟨p1, (⟨0, 0, 0, 0⟩ : S_api_Agg), true⟩ : S_chain_version_api_Agg) h10 fun r13 h12 =>
  Q r13 0 h12))
theorem F.xcn_ok {p0 : Option Addr} {p1 : Int} {h : H} {Q : Int -> Int -> H -> Prop} (H : F.xcn p0 p1 h Q) : Fn PP 58 ([(.pointer p0), (.int .i64 p1)] : List Value).toArray h fun r h' => ∃ r0 r1, r = .tuple #[(.int .i64 r0), (.int .i64 r1)] ∧ Q r0 r1 h' := by
 unfold F.xcn at H;refine fn_of Tryz.func58 Tryz.ntmps58 rfl rfl fun w0 => (tr_sub [(0, (.pointer p0)), (1, (.int .i64 p1))] ⟨rfl, rfl, trivial⟩ (tr_seq (tr_region (tq (y_assign rfl) (tq (y_assign rfl) (tr_nil (tr_thenN (tr_seq (tr_seq (tr_region (tq (y_move rfl) (tq (y_move rfl) (tr_e (e_call Tryz.call95 rfl (F.xar_ok H)) rfl rfl ?_)))))))))))));rintro _ h1 ⟨r2, rfl, H⟩;refine tq (y_assign rfl) (tr_nil (tr_thenN (tr_seq (tr_region (tq (y_move rfl) (tq (y_neq rfl rfl) (tr_nil (tr_thenN ?_))))))));refine tr_cond rfl (fun g3 => ?_) (fun g3 => ?_)
 ·replace H := H.1 g3;refine tr_seq (tr_region (tq (y_move rfl) (tq (y_assign rfl) (tq (y_assign rfl) (tr_nil (tr_thenN (tr_ret (tr_thenR ?_))))))));exact tr_ret2 rfl rfl rfl ⟨_, _, rfl, H⟩
 ·replace H := H.2 g3;refine tr_skip (tr_thenN (tr_seq (tr_seq (tr_region (tq (y_move rfl) (tr_e (e_call Tryz.call65 rfl (F.xbp_ok H)) rfl rfl ?_))))));rintro _ h4 ⟨r5, r6, r7, rfl, H⟩;refine tq (y_move rfl) (tq (y_ext rfl rfl) (tq (y_ext rfl rfl) (tq (y_ext rfl rfl) (tr_e (f_alloc (cs := ((⟨0, 0, 0, 0⟩ : S_api_Agg) : S_api_Agg).cells.toArray) Tryz.zeroValue40 rfl H) rfl rfl ?_))));rintro _ h8 ⟨a9, rfl, H⟩;refine tr_e (f_store (vs := r5.cells) Tryz.sizeOf40 rfl rfl cellsOfStruct rfl (by intro v hv; exact ones_S_api_Agg _ v hv) H) rfl rfl ?_;rintro _ h10 ⟨rfl, H⟩;refine tq (y_assign rfl) (tq (y_assign rfl) (tr_nil (tr_thenN (tr_seq (tr_region (tq (y_move rfl) (tq (y_not rfl) (tr_nil (tr_thenN ?_)))))))));refine tr_cond rfl (fun g11 => ?_) (fun g11 => ?_)
  ·replace H := H.1 g11;refine tr_seq (tr_region (tq (y_assign rfl) (tq (y_assign rfl) (tr_nil (tr_thenN (tr_ret (tr_thenR ?_)))))));exact tr_ret2 rfl rfl rfl ⟨_, _, rfl, H⟩
  ·replace H := H.2 g11;refine tr_skip (tr_thenN (tr_seq (tr_region (tq (y_move rfl) (tq (y_move rfl) (tq (f_build rfl (bd_152_0_2 p1 true)) (tr_e (e_call Tryz.call96 rfl (F.xaq_ok H)) rfl rfl ?_)))))));rintro _ h12 ⟨r13, rfl, H⟩;refine tq (y_assign rfl) (tq (y_assign rfl) (tr_nil (tr_thenN (tr_ret ?_))));exact tr_ret2 rfl rfl rfl ⟨_, _, rfl, H⟩
def F.xat.j1 (Q : Int -> H -> Prop) (x0 : Option Addr) (x1 : Int) (x5 : Addr) (h : H) : Prop :=
  ld_S_api_Cell h x5 fun y9 =>
  F.xbx x0 y9 h fun r12 h11 =>
  (r12.isNone = true ->
  Q 44 h11) ∧
  (r12.isNone = false ->
  F.xcn r12 x1 h11 fun r15 r16 h14 =>
  (((r16 != 0)) = true ->
  Q r16 h14) ∧
  (((r16 != 0)) = false ->
  nn x0 fun a18 =>
  ldI .i64 h14 ((a18.add 0).add 0) fun y20 =>
  nn x0 fun a22 =>
  stH h14 ((a22.add 0).add 0) [(.int .i64 (IntKind.wrap .i64 (y20 + (IntKind.wrap .i64 (r15 - 1)))))] fun h24 =>
  nn x0 fun a25 =>
  ldI .i64 h24 ((a25.add 0).add 1) fun y27 =>
  nn x0 fun a29 =>
  stH h24 ((a29.add 0).add 1) [(.int .i64 (IntKind.wrap .i64 (y27 - 1)))] fun h31 =>
  Q 0 h31))
def F.xat.j2 (Q : Int -> H -> Prop) (x0 : Option Addr) (x1 : Int) (x5 : Addr) (x25 : Bool) (h : H) : Prop :=
  (x25 = true ->
  Q 1 h) ∧
  (x25 = false ->
  F.xat.j1 Q x0 x1 x5 h)
def F.xat (p0 : Option Addr) (p1 : Int) (p2 : S_api_Cell) (h : H) (Q : Int -> H -> Prop) : Prop :=
  new h p2.cells.toArray ty_35 fun a2 h1 =>
  ld_S_api_Cell h1 a2 fun y3 =>
  F.xae y3 h1 fun r6 r7 h5 =>
  (((r7 != 0)) = true ->
  Q r7 h5) ∧
  (((r7 != 0)) = false ->
  ((decide (p1 < 1)) = true ->
  F.xat.j2 Q p0 p1 a2 true h5) ∧
  ((decide (p1 < 1)) = false ->
  F.xat.j2 Q p0 p1 a2 (decide (p1 > 1099511627776)) h5))
theorem F.xat_ok {p0 : Option Addr} {p1 : Int} {p2 : S_api_Cell} {h : H} {Q : Int -> H -> Prop} (H : F.xat p0 p1 p2 h Q) : Fn PP 27 ([(.pointer p0), (.int .i64 p1), (.agg p2.cells.toArray)] : List Value).toArray h fun r h' => ∃ r0, r = (.int .i64 r0) ∧ Q r0 h' := by
 unfold F.xat at H;refine fn_of Tryz.func27 Tryz.ntmps27 rfl rfl fun w0 => (tr_sub [(0, (.pointer p0)), (1, (.int .i64 p1)), (2, (.agg p2.cells.toArray))] ⟨rfl, rfl, rfl, trivial⟩ (tr_seq (tr_region (tr_e (f_box (cs := p2.cells.toArray) rfl rfl H) rfl rfl ?_))));rintro _ h1 ⟨a2, rfl, H⟩;refine tq (y_assign rfl) (tr_nil (tr_thenN (tr_seq (tr_seq (tr_region ?_)))));obtain ⟨y3, k4, H⟩ := H;refine tr_h (y_ldS Tryz.isAgg35 Tryz.sizeOf35 rfl rfl) k4 rfl rfl (tr_e (e_call Tryz.call56 rfl (F.xae_ok H)) rfl rfl ?_);rintro _ h5 ⟨r6, r7, rfl, H⟩;refine tq (y_move rfl) (tq (y_ext rfl rfl) (tq (y_ext rfl rfl) (tq (y_assign rfl) (tq (y_assign rfl) (tr_nil (tr_thenN (tr_seq (tr_region (tq (y_move rfl) (tq (y_neq rfl rfl) (tr_nil (tr_thenN ?_))))))))))));refine tr_cond rfl (fun g8 => ?_) (fun g8 => ?_)
 ·replace H := H.1 g8;refine tr_seq (tr_region (tq (y_move rfl) (tq (y_assign rfl) (tr_nil (tr_thenN (tr_ret (tr_thenR ?_)))))));exact tr_ret1 rfl rfl ⟨_, rfl, H⟩
 ·replace H := H.2 g8;refine tr_skip (tr_thenN ?_);refine tr_seq_j (fun L' h => ∃ (x0 : Option Addr) (x1 : Int) (x5 : Addr), L' = [(0, (.pointer x0)), (1, (.int .i64 x1)), (5, (.pointer (some x5)))] ∧ F.xat.j1 Q x0 x1 x5 h) ?_ ?_
  ·rintro L' h ⟨x0, x1, x5, rfl, H⟩;unfold F.xat.j1 at H;refine tr_seq (tr_region (tq (y_move rfl) ?_));obtain ⟨y9, k10, H⟩ := H;refine tr_h (y_ldS Tryz.isAgg35 Tryz.sizeOf35 rfl rfl) k10 rfl rfl (tr_e (e_call Tryz.call57 rfl (F.xbx_ok H)) rfl rfl ?_);rintro _ h11 ⟨r12, rfl, H⟩;refine tq (y_assign rfl) (tr_nil (tr_thenN (tr_seq (tr_seq (tr_region (tq (y_move rfl) (tq (y_pnil_eql Tryz.runUnderlying107 rfl rfl) (tr_nil (tr_thenN ?_)))))))));refine tr_cond rfl (fun g13 => ?_) (fun g13 => ?_)
   ·replace H := H.1 g13;refine tr_seq (tr_region (tq (y_assign rfl) (tr_nil (tr_thenN (tr_ret (tr_thenR ?_))))));exact tr_ret1 rfl rfl ⟨_, rfl, H⟩
   ·replace H := H.2 g13;refine tr_skip (tr_thenN (tr_seq (tr_region (tq (y_move rfl) (tq (y_move rfl) (tr_e (e_call Tryz.call58 rfl (F.xcn_ok H)) rfl rfl ?_))))));rintro _ h14 ⟨r15, r16, rfl, H⟩;refine tq (y_move rfl) (tq (y_ext rfl rfl) (tq (y_ext rfl rfl) (tq (y_assign rfl) (tq (y_assign rfl) (tr_nil (tr_thenN (tr_seq (tr_seq (tr_region (tq (y_move rfl) (tq (y_neq rfl rfl) (tr_nil (tr_thenN ?_)))))))))))));refine tr_cond rfl (fun g17 => ?_) (fun g17 => ?_)
    ·replace H := H.1 g17;refine tr_seq (tr_region (tq (y_move rfl) (tq (y_assign rfl) (tr_nil (tr_thenN (tr_ret (tr_thenR ?_)))))));exact tr_ret1 rfl rfl ⟨_, rfl, H⟩
    ·replace H := H.2 g17;refine tr_skip (tr_thenN (tr_seq (tr_region (tq (y_move rfl) ?_))));obtain ⟨a18, e19, H⟩ := H;refine tq (f_nn rfl e19) (tq (y_fa (off := 0) Tryz.runUnderlying74 fo_74_0 rfl) (tq (y_fa (off := 0) Tryz.runUnderlying71 fo_71_0 rfl) ?_));obtain ⟨y20, k21, H⟩ := H;refine tr_h (y_ld Tryz.isAgg3 rfl) k21 rfl rfl (tq (y_move rfl) (tq (y_sub rfl rfl) (tq (y_add rfl rfl) ?_)));obtain ⟨a22, e23, H⟩ := H;refine tq (f_nn rfl e23) (tq (y_fa (off := 0) Tryz.runUnderlying74 fo_74_0 rfl) (tq (y_fa (off := 0) Tryz.runUnderlying71 fo_71_0 rfl) (tr_e (f_store (vs := [(.int .i64 (IntKind.wrap .i64 (y20 + (IntKind.wrap .i64 (r15 - 1)))))]) Tryz.sizeOf3 rfl rfl rfl rfl (one1 rfl) H) rfl rfl ?_)));rintro _ h24 ⟨rfl, H⟩;refine tr_nil (tr_thenN (tr_seq (tr_region (tq (y_move rfl) ?_))));obtain ⟨a25, e26, H⟩ := H;refine tq (f_nn rfl e26) (tq (y_fa (off := 0) Tryz.runUnderlying74 fo_74_0 rfl) (tq (y_fa (off := 1) Tryz.runUnderlying71 fo_71_1 rfl) ?_));obtain ⟨y27, k28, H⟩ := H;refine tr_h (y_ld Tryz.isAgg3 rfl) k28 rfl rfl (tq (y_sub rfl rfl) ?_);obtain ⟨a29, e30, H⟩ := H;refine tq (f_nn rfl e30) (tq (y_fa (off := 0) Tryz.runUnderlying74 fo_74_0 rfl) (tq (y_fa (off := 1) Tryz.runUnderlying71 fo_71_1 rfl) (tr_e (f_store (vs := [(.int .i64 (IntKind.wrap .i64 (y27 - 1)))]) Tryz.sizeOf3 rfl rfl rfl rfl (one1 rfl) H) rfl rfl ?_)));rintro _ h31 ⟨rfl, H⟩;refine tr_nil (tr_thenN (tr_seq (tr_region (tq (y_assign rfl) (tr_nil (tr_thenN (tr_ret ?_)))))));exact tr_ret1 rfl rfl ⟨_, rfl, H⟩
  ·refine tr_seq_j (fun L' h => ∃ (x0 : Option Addr) (x1 : Int) (x5 : Addr) (x25 : Bool), L' = [(0, (.pointer x0)), (1, (.int .i64 x1)), (5, (.pointer (some x5))), (25, (.bool x25))] ∧ F.xat.j2 Q x0 x1 x5 x25 h) ?_ ?_
   ·rintro L' h ⟨x0, x1, x5, x25, rfl, H⟩;unfold F.xat.j2 at H;refine tr_cond rfl (fun g32 => ?_) (fun g32 => ?_)
    ·replace H := H.1 g32;refine tr_seq (tr_region (tq (y_assign rfl) (tr_nil (tr_thenN (tr_ret (tr_thenR ?_))))));exact tr_ret1 rfl rfl ⟨_, rfl, H⟩
    ·replace H := H.2 g32;refine tr_skip (tr_thenN ?_);exact tr_join [(0, (.pointer x0)), (1, (.int .i64 x1)), (5, (.pointer (some x5)))] ⟨rfl, rfl, rfl, trivial⟩ ⟨_, _, _, rfl, H⟩
   ·refine tr_region (tq (y_move rfl) (tq (y_lss rfl rfl) (tq (y_move rfl) ?_)));refine tr_split (t := 22) rfl (fun g33 => ?_) (fun g33 => ?_)
    ·replace H := H.1 g33;refine ts (ts (tq (y_pick_t rfl rfl) (tr_nil (tr_thenN ?_))));exact tr_join [(0, (.pointer p0)), (1, (.int .i64 p1)), (5, (.pointer (some a2))), (25, (.bool true))] ⟨rfl, rfl, rfl, rfl, trivial⟩ ⟨_, _, _, _, rfl, H⟩
    ·replace H := H.2 g33;refine tq (y_move rfl) (tq (y_gtr rfl rfl) (tq (y_pick_f rfl rfl) (tr_nil (tr_thenN ?_))));exact tr_join [(0, (.pointer p0)), (1, (.int .i64 p1)), (5, (.pointer (some a2))), (25, (.bool (decide (p1 > 1099511627776))))] ⟨rfl, rfl, rfl, rfl, trivial⟩ ⟨_, _, _, _, rfl, H⟩
def F.xca (p0 : Option Addr) (p1 : Int) (p2 : S_api_Cell) (h : H) (Q : Int -> H -> Prop) : Prop :=
  new h p2.cells.toArray ty_35 fun a2 h1 =>
  ld_S_api_Cell h1 a2 fun y3 =>
  ld_S_api_Cell h1 a2 fun y5 =>
  F.xcc p0 y3 h1 fun r8 h7 =>
  Cells h7 a2 y5.cells ∧
  F.xat r8 p1 y5 h7 fun r11 h10 =>
  Q r11 h10
theorem F.xca_ok {p0 : Option Addr} {p1 : Int} {p2 : S_api_Cell} {h : H} {Q : Int -> H -> Prop} (H : F.xca p0 p1 p2 h Q) : Fn PP 25 ([(.pointer p0), (.int .i64 p1), (.agg p2.cells.toArray)] : List Value).toArray h fun r h' => ∃ r0, r = (.int .i64 r0) ∧ Q r0 h' := by
 unfold F.xca at H;refine fn_of Tryz.func25 Tryz.ntmps25 rfl rfl fun w0 => (tr_sub [(0, (.pointer p0)), (1, (.int .i64 p1)), (2, (.agg p2.cells.toArray))] ⟨rfl, rfl, rfl, trivial⟩ (tr_seq (tr_region (tr_e (f_box (cs := p2.cells.toArray) rfl rfl H) rfl rfl ?_))));rintro _ h1 ⟨a2, rfl, H⟩;refine tq (y_assign rfl) (tr_nil (tr_thenN (tr_seq (tr_draw mixed [0, 0, 3, 0, 0, 31, 63] (by kernel_rfl) (g_p 0 1 rfl (by kernel_rfl) (y_move rfl) rfl rfl ?_)))));obtain ⟨y3, k4, H⟩ := H;refine g_h 1 3 rfl (by kernel_rfl) (y_ldS Tryz.isAgg35 Tryz.sizeOf35 rfl rfl) k4 rfl rfl (g_p 3 11 rfl (by kernel_rfl) (y_move rfl) rfl rfl ?_);obtain ⟨y5, k6, H⟩ := H;refine g_h 4 27 rfl (by kernel_rfl) (y_ldS Tryz.isAgg35 Tryz.sizeOf35 rfl rfl) k6 rfl rfl (g_e 2 31 [(4, fun h => Cells h a2 y5.cells)] (by kernel_rfl) rfl (by kernel_rfl) (e_call Tryz.call46 rfl (F.xcc_ok H)) rfl rfl ?_);rintro _ h7 ⟨r8, rfl, H⟩;obtain ⟨k9, H⟩ := H;refine ⟨And.intro k9 trivial, ?_⟩;refine g_e 5 63 [] (by kernel_rfl) rfl (by kernel_rfl) (e_call Tryz.call27 rfl (F.xat_ok H)) rfl rfl ?_;rintro _ h10 ⟨r11, rfl, H⟩;refine ⟨trivial, ?_⟩;refine g_p 6 127 rfl (by kernel_rfl) (y_assign rfl) rfl rfl (g_d (by kernel_rfl) (tr_thenN (tr_ret ?_)));exact tr_ret1 rfl rfl ⟨_, rfl, H⟩
def F.xaa.j4 (Q : Bool -> H -> Prop) (C1 : Sl -> Int -> (Option Addr) -> Addr -> Addr -> Int -> H -> Prop) (x1 : Sl) (x5 : Int) (x6 : Option Addr) (x8 : Addr) (x9 : Addr) (x10 : Int) (h : H) : Prop :=
  C1 x1 x5 x6 x8 x9 (IntKind.wrap .i64 (x10 + 1)) h
def F.xaa.j8 (Q : Bool -> H -> Prop) (C1 : Sl -> Int -> (Option Addr) -> Addr -> Addr -> Int -> H -> Prop) (C2 : Sl -> Int -> (Option Addr) -> Addr -> Addr -> Int -> Sl -> Sl -> Int -> Int -> H -> Prop) (x1 : Sl) (x5 : Int) (x6 : Option Addr) (x8 : Addr) (x9 : Addr) (x10 : Int) (x11 : Sl) (x12 : Sl) (x15 : Int) (x16 : Int) (h : H) : Prop :=
  C2 x1 x5 x6 x8 x9 x10 x11 x12 x15 (IntKind.wrap .i64 (x16 + 1)) h
def F.xaa.l10 (Q : Bool -> H -> Prop) (C1 : Sl -> Int -> (Option Addr) -> Addr -> Addr -> Int -> H -> Prop) (C2 : Sl -> Int -> (Option Addr) -> Addr -> Addr -> Int -> Sl -> Sl -> Int -> Int -> H -> Prop) : Nat -> Sl -> Int -> (Option Addr) -> Addr -> Addr -> Int -> Sl -> Sl -> Int -> Int -> Sl -> Int -> H -> Prop
  | 0, _, _, _, _, _, _, _, _, _, _, _, _, _ => False
  | q10 + 1, x1, x5, x6, x8, x9, x10, x11, x12, x15, x16, x17, x18, h =>
    ((decide (x18 < (x17.len : Int))) = true ->
    idxA x17 x18 7 fun a53 =>
    ldS h ((a53.add 0).add 1) fun y55 =>
    F.xaz x6 y55 h fun r58 h57 =>
    (((r58 != x16)) = true ->
    Q false h57) ∧
    (((r58 != x16)) = false ->
    (F.xaa.l10 Q C1 C2 q10) x1 x5 x6 x8 x9 x10 x11 x12 x15 x16 x17 (IntKind.wrap .i64 (x18 + 1)) h57)) ∧
    ((decide (x18 < (x17.len : Int))) = false ->
    F.xaa.j8 Q C1 C2 x1 x5 x6 x8 x9 x10 x11 x12 x15 x16 h)
def F.xaa.j9 (Q : Bool -> H -> Prop) (C1 : Sl -> Int -> (Option Addr) -> Addr -> Addr -> Int -> H -> Prop) (C2 : Sl -> Int -> (Option Addr) -> Addr -> Addr -> Int -> Sl -> Sl -> Int -> Int -> H -> Prop) (x1 : Sl) (x5 : Int) (x6 : Option Addr) (x8 : Addr) (x9 : Addr) (x10 : Int) (x11 : Sl) (x12 : Sl) (x15 : Int) (x16 : Int) (x17 : Sl) (h : H) : Prop :=
  ∃ m, F.xaa.l10 Q C1 C2 m x1 x5 x6 x8 x9 x10 x11 x12 x15 x16 x17 0 h
def F.xaa.j11 (Q : Bool -> H -> Prop) (C1 : Sl -> Int -> (Option Addr) -> Addr -> Addr -> Int -> H -> Prop) (C2 : Sl -> Int -> (Option Addr) -> Addr -> Addr -> Int -> Sl -> Sl -> Int -> Int -> H -> Prop) (x1 : Sl) (x5 : Int) (x6 : Option Addr) (x8 : Addr) (x9 : Addr) (x10 : Int) (x11 : Sl) (x12 : Sl) (x15 : Int) (x16 : Int) (x17 : Sl) (x124 : Bool) (h : H) : Prop :=
  (x124 = true ->
  Q false h) ∧
  (x124 = false ->
  F.xaa.j9 Q C1 C2 x1 x5 x6 x8 x9 x10 x11 x12 x15 x16 x17 h)
def F.xaa.j12 (Q : Bool -> H -> Prop) (C1 : Sl -> Int -> (Option Addr) -> Addr -> Addr -> Int -> H -> Prop) (x1 : Sl) (x5 : Int) (x6 : Option Addr) (x8 : Addr) (x9 : Addr) (x10 : Int) (x147 : Bool) (h : H) : Prop :=
  (x147 = true ->
  Q false h) ∧
  (x147 = false ->
  F.xaa.j4 Q C1 x1 x5 x6 x8 x9 x10 h)
def F.xaa.l7 (Q : Bool -> H -> Prop) (C1 : Sl -> Int -> (Option Addr) -> Addr -> Addr -> Int -> H -> Prop) : Nat -> Sl -> Int -> (Option Addr) -> Addr -> Addr -> Int -> Sl -> Sl -> Int -> Int -> H -> Prop
  | 0, _, _, _, _, _, _, _, _, _, _, _ => False
  | q7 + 1, x1, x5, x6, x8, x9, x10, x11, x12, x15, x16, h =>
    ((decide (x16 < x5)) = true ->
    ld_S_api_Cell h x8 fun y46 =>
    ld_S_api_Cell h x9 fun y48 =>
    F.xby x6 x16 0 y46 y48 500 h fun r51 h50 =>
    (((x16 != x15)) = true ->
    idxA x11 x16 1 fun a63 =>
    ldL h50 a63 fun y65 =>
    F.xbm r51 y65 h50 fun r68 h67 =>
    ((!r68) = true ->
    F.xaa.j11 Q C1 (F.xaa.l7 Q C1 q7) x1 x5 x6 x8 x9 x10 x11 x12 x15 x16 r51 true h67) ∧
    ((!r68) = false ->
    idxA x12 x16 1 fun a70 =>
    ldI .i64 h67 a70 fun y72 =>
    F.xbg x6 x16 h67 fun r75 h74 =>
    cellH h74 a70 = some (.int .i64 y72) ∧
    F.xaa.j11 Q C1 (F.xaa.l7 Q C1 q7) x1 x5 x6 x8 x9 x10 x11 x12 x15 x16 r51 ((r75 != y72)) h74)) ∧
    (((x16 != x15)) = false ->
    F.xaa.j11 Q C1 (F.xaa.l7 Q C1 q7) x1 x5 x6 x8 x9 x10 x11 x12 x15 x16 r51 false h50)) ∧
    ((decide (x16 < x5)) = false ->
    ((decide (x15 < 0)) = true ->
    F.xaa.j12 Q C1 x1 x5 x6 x8 x9 x10 true h) ∧
    ((decide (x15 < 0)) = false ->
    F.xaa.j12 Q C1 x1 x5 x6 x8 x9 x10 (decide (x15 >= x5)) h))
def F.xaa.j6 (Q : Bool -> H -> Prop) (C1 : Sl -> Int -> (Option Addr) -> Addr -> Addr -> Int -> H -> Prop) (x1 : Sl) (x5 : Int) (x6 : Option Addr) (x8 : Addr) (x9 : Addr) (x10 : Int) (x11 : Sl) (x12 : Sl) (x15 : Int) (h : H) : Prop :=
  ∃ m, F.xaa.l7 Q C1 m x1 x5 x6 x8 x9 x10 x11 x12 x15 0 h
def F.xaa.l5 (Q : Bool -> H -> Prop) (C1 : Sl -> Int -> (Option Addr) -> Addr -> Addr -> Int -> H -> Prop) : Nat -> Sl -> Int -> (Option Addr) -> Addr -> Addr -> Int -> Sl -> Sl -> Int -> H -> Prop
  | 0, _, _, _, _, _, _, _, _, _, _ => False
  | q5 + 1, x1, x5, x6, x8, x9, x10, x11, x12, x13, h =>
    ((decide (x13 < x5)) = true ->
    ld_S_api_Cell h x8 fun y16 =>
    ld_S_api_Cell h x9 fun y18 =>
    F.xby x6 x13 0 y16 y18 500 h fun r21 h20 =>
    newL h20 #[r21.enc] ty_51 1 fun s23 h22 =>
    runL PP (Builtin.append_ #[55, 55] 55 #[x11.enc, s23.enc]) h22 fun s25 h24 =>
    F.xbg x6 x13 h24 fun r27 h26 =>
    newL h26 #[(.int .i64 r27)] ty_3 1 fun s29 h28 =>
    runL PP (Builtin.append_ #[42, 42] 42 #[x12.enc, s29.enc]) h28 fun s31 h30 =>
    (F.xaa.l5 Q C1 q5) x1 x5 x6 x8 x9 x10 s25 s31 (IntKind.wrap .i64 (x13 + 1)) h30) ∧
    ((decide (x13 < x5)) = false ->
    idxA x1 x10 16 fun a32 =>
    ld_S_api_Cell h ((a32.add 0).add 2) fun y34 =>
    F.xbd y34 h fun r37 h36 =>
    new h36 (((⟨0, (⟨#[]⟩ : ByteArray), 0⟩ : S_api_Cell) : S_api_Cell).cells.toArray) ty_35 fun a39 h38 =>
    stH h38 a39 r37.cells fun h40 =>
    ldS h40 (a39.add 1) fun y41 =>
    F.xaz x6 y41 h40 fun r44 h43 =>
    idxA x1 x10 16 fun a80 =>
    ldI .i64 h43 ((a80.add 0).add 0) fun y82 =>
    F.xay y82 4 h43 fun r85 h84 =>
    (((r85 == 0)) = true ->
    ld_S_api_Cell h84 a39 fun y87 =>
    F.xca x6 1 y87 h84 fun r90 h89 =>
    F.xaa.j6 Q C1 x1 x5 x6 x8 x9 x10 x11 x12 r44 h89) ∧
    (((r85 == 0)) = false ->
    ld_S_api_Cell h84 a39 fun y91 =>
    F.xbs 5 h84 fun r94 h93 =>
    Cells h93 a39 y91.cells ∧
    F.xbn x6 1 (⟨y91, r94⟩ : S_api_Row) h93 fun r97 h96 =>
    F.xaa.j6 Q C1 x1 x5 x6 x8 x9 x10 x11 x12 r44 h96))
def F.xaa.j3 (Q : Bool -> H -> Prop) (C1 : Sl -> Int -> (Option Addr) -> Addr -> Addr -> Int -> H -> Prop) (x1 : Sl) (x5 : Int) (x6 : Option Addr) (x8 : Addr) (x9 : Addr) (x10 : Int) (h : H) : Prop :=
  ∃ m, F.xaa.l5 Q C1 m x1 x5 x6 x8 x9 x10 (⟨none, 0, 0⟩ : Sl) (⟨none, 0, 0⟩ : Sl) 0 h
def F.xaa.j13 (Q : Bool -> H -> Prop) (C1 : Sl -> Int -> (Option Addr) -> Addr -> Addr -> Int -> H -> Prop) (x1 : Sl) (x5 : Int) (x6 : Option Addr) (x8 : Addr) (x9 : Addr) (x10 : Int) (x44 : Bool) (h : H) : Prop :=
  (x44 = true ->
  F.xaa.j3 Q C1 x1 x5 x6 x8 x9 x10 h) ∧
  (x44 = false ->
  F.xax  h fun r101 h100 =>
  Q r101 h100)
def F.xaa.l2 (Q : Bool -> H -> Prop) : Nat -> Sl -> Int -> (Option Addr) -> Addr -> Addr -> Int -> H -> Prop
  | 0, _, _, _, _, _, _, _ => False
  | q2 + 1, x1, x5, x6, x8, x9, x10, h =>
    ((decide (x10 < (x1.len : Int))) = true ->
    F.xaa.j13 Q (F.xaa.l2 Q q2) x1 x5 x6 x8 x9 x10 (decide (x10 < 40)) h) ∧
    ((decide (x10 < (x1.len : Int))) = false ->
    F.xaa.j13 Q (F.xaa.l2 Q q2) x1 x5 x6 x8 x9 x10 false h)
def F.xaa.j1 (Q : Bool -> H -> Prop) (x1 : Sl) (x5 : Int) (x6 : Option Addr) (h : H) : Prop :=
  F.xcj  h fun r7 r8 h6 =>
  new h6 (((⟨0, (⟨#[]⟩ : ByteArray), 0⟩ : S_api_Cell) : S_api_Cell).cells.toArray) ty_35 fun a10 h9 =>
  new h9 (((⟨0, (⟨#[]⟩ : ByteArray), 0⟩ : S_api_Cell) : S_api_Cell).cells.toArray) ty_35 fun a12 h11 =>
  stH h11 a10 r7.cells fun h13 =>
  stH h13 a12 r8.cells fun h14 =>
  ∃ m, F.xaa.l2 Q m x1 x5 x6 a10 a12 0 h14
def F.xaa.j14 (Q : Bool -> H -> Prop) (x1 : Sl) (x5 : Int) (x6 : Option Addr) (x32 : Bool) (h : H) : Prop :=
  (x32 = true ->
  Q false h) ∧
  (x32 = false ->
  F.xaa.j1 Q x1 x5 x6 h)
def F.xaa (p0 : Int) (p1 : Sl) (h : H) (Q : Bool -> H -> Prop) : Prop :=
  F.xay p0 16 h fun r2 h1 =>
  F.xaj (IntKind.wrap .i64 (1 + r2)) 300 h1 fun r4 r5 h3 =>
  (((r5 != 0)) = true ->
  F.xaa.j14 Q p1 (IntKind.wrap .i64 (1 + r2)) r4 true h3) ∧
  (((r5 != 0)) = false ->
  F.xaa.j14 Q p1 (IntKind.wrap .i64 (1 + r2)) r4 r4.isNone h3)
theorem F.xaa_ok {p0 : Int} {p1 : Sl} {h : H} {Q : Bool -> H -> Prop} (H : F.xaa p0 p1 h Q) : Fn PP 5 ([(.int .i64 p0), p1.enc] : List Value).toArray h fun r h' => ∃ r0, r = (.bool r0) ∧ Q r0 h' := by
 unfold F.xaa at H;refine fn_of Tryz.func5 Tryz.ntmps5 rfl rfl fun w0 => (tr_sub [(0, (.int .i64 p0)), (1, p1.enc)] ⟨rfl, rfl, trivial⟩ (tr_seq (tr_region (tq (y_assign rfl) (tr_nil (tr_thenN (tr_seq (tr_region (tq (y_move rfl) (tr_e (e_call Tryz.call13 rfl (F.xay_ok H)) rfl rfl ?_))))))))));rintro _ h1 ⟨r2, rfl, H⟩;refine tq (y_add rfl rfl) (tq (y_assign rfl) (tr_nil (tr_thenN (tr_seq (tr_region (tq (y_move rfl) (tr_e (e_call Tryz.call8 rfl (F.xaj_ok H)) rfl rfl ?_)))))));rintro _ h3 ⟨r4, r5, rfl, H⟩;refine tq (y_move rfl) (tq (y_ext rfl rfl) (tq (y_ext rfl rfl) (tq (y_assign rfl) (tq (y_assign rfl) (tr_nil (tr_thenN ?_))))));refine tr_seq_j (fun L' h => ∃ (x1 : Sl) (x5 : Int) (x6 : Option Addr), L' = [(1, x1.enc), (5, (.int .i64 x5)), (6, (.pointer x6))] ∧ F.xaa.j1 Q x1 x5 x6 h) ?_ ?_
 ·rintro L' h ⟨x1, x5, x6, rfl, H⟩;unfold F.xaa.j1 at H;refine tr_seq (tr_region (tr_e (e_call Tryz.call23 rfl (F.xcj_ok H)) rfl rfl ?_));rintro _ h6 ⟨r7, r8, rfl, H⟩;refine tq (y_move rfl) (tq (y_ext rfl rfl) (tq (y_ext rfl rfl) (tr_e (f_alloc (cs := ((⟨0, (⟨#[]⟩ : ByteArray), 0⟩ : S_api_Cell) : S_api_Cell).cells.toArray) Tryz.zeroValue35 rfl H) rfl rfl ?_)));rintro _ h9 ⟨a10, rfl, H⟩;refine tr_e (f_alloc (cs := ((⟨0, (⟨#[]⟩ : ByteArray), 0⟩ : S_api_Cell) : S_api_Cell).cells.toArray) Tryz.zeroValue35 rfl H) rfl rfl ?_;rintro _ h11 ⟨a12, rfl, H⟩;refine tr_e (f_store (vs := r7.cells) Tryz.sizeOf35 rfl rfl cellsOfStruct rfl (by intro v hv; exact ones_S_api_Cell _ v hv) H) rfl rfl ?_;rintro _ h13 ⟨rfl, H⟩;refine tr_e (f_store (vs := r8.cells) Tryz.sizeOf35 rfl rfl cellsOfStruct rfl (by intro v hv; exact ones_S_api_Cell _ v hv) H) rfl rfl ?_;rintro _ h14 ⟨rfl, H⟩;refine tr_nil (tr_thenN (tr_seq (tr_seq (tr_region (tq (y_assign rfl) (tr_nil (tr_thenN (tr_block ?_))))))));obtain ⟨m103, H⟩ := H;refine tr_sub [(1, x1.enc), (5, (.int .i64 x5)), (6, (.pointer x6)), (8, (.pointer (some a10))), (9, (.pointer (some a12))), (10, (.int .i64 0))] ⟨rfl, rfl, rfl, rfl, rfl, rfl, trivial⟩ ?_;refine tr_loop_j (fun m L' h => ∃ (x1 : Sl) (x5 : Int) (x6 : Option Addr) (x8 : Addr) (x9 : Addr) (x10 : Int), L' = [(1, x1.enc), (5, (.int .i64 x5)), (6, (.pointer x6)), (8, (.pointer (some x8))), (9, (.pointer (some x9))), (10, (.int .i64 x10))] ∧ F.xaa.l2 Q m x1 x5 x6 x8 x9 x10 h) ?_ ?_ m103 ⟨_, _, _, _, _, _, rfl, H⟩
  ·rintro L' h ⟨_, _, _, _, _, _, _, H⟩; exact H
  ·rintro q2 L' h ⟨x1, x5, x6, x8, x9, x10, rfl, H⟩;unfold F.xaa.l2 at H;refine tr_seq_j (fun L' h => ∃ (x1 : Sl) (x5 : Int) (x6 : Option Addr) (x8 : Addr) (x9 : Addr) (x10 : Int), L' = [(1, x1.enc), (5, (.int .i64 x5)), (6, (.pointer x6)), (8, (.pointer (some x8))), (9, (.pointer (some x9))), (10, (.int .i64 x10))] ∧ F.xaa.j3 Q (F.xaa.l2 Q q2) x1 x5 x6 x8 x9 x10 h) ?_ ?_
   ·rintro L' h ⟨x1, x5, x6, x8, x9, x10, rfl, H⟩;unfold F.xaa.j3 at H;refine tr_seq_j (fun L' h => ∃ (x1 : Sl) (x5 : Int) (x6 : Option Addr) (x8 : Addr) (x9 : Addr) (x10 : Int), L' = [(1, x1.enc), (5, (.int .i64 x5)), (6, (.pointer x6)), (8, (.pointer (some x8))), (9, (.pointer (some x9))), (10, (.int .i64 x10))] ∧ F.xaa.j4 Q (F.xaa.l2 Q q2) x1 x5 x6 x8 x9 x10 h) ?_ ?_
    ·rintro L' h ⟨x1, x5, x6, x8, x9, x10, rfl, H⟩;unfold F.xaa.j4 at H;refine tr_region (tq (y_move rfl) (tq (y_add rfl rfl) (tq (y_assign rfl) (tr_nil (tr_thenN ?_)))));exact tr_join [(1, x1.enc), (5, (.int .i64 x5)), (6, (.pointer x6)), (8, (.pointer (some x8))), (9, (.pointer (some x9))), (10, (.int .i64 (IntKind.wrap .i64 (x10 + 1))))] ⟨rfl, rfl, rfl, rfl, rfl, rfl, trivial⟩ ⟨_, _, _, _, _, _, rfl, H⟩
    ·refine tr_block (tr_seq (tr_region (tq (y_assign rfl) (tr_nil (tr_thenN (tr_seq (tr_region (tq (y_assign rfl) (tr_nil (tr_thenN (tr_seq (tr_seq (tr_region ?_)))))))))))));refine tq (y_assign rfl) (tr_nil (tr_thenN (tr_block ?_)));obtain ⟨m98, H⟩ := H;refine tr_sub [(1, x1.enc), (5, (.int .i64 x5)), (6, (.pointer x6)), (8, (.pointer (some x8))), (9, (.pointer (some x9))), (10, (.int .i64 x10)), (11, (⟨none, 0, 0⟩ : Sl).enc), (12, (⟨none, 0, 0⟩ : Sl).enc), (13, (.int .i64 0))] ⟨rfl, rfl, rfl, rfl, rfl, rfl, rfl, rfl, rfl, trivial⟩ ?_;refine tr_loop_j (fun m L' h => ∃ (x1 : Sl) (x5 : Int) (x6 : Option Addr) (x8 : Addr) (x9 : Addr) (x10 : Int) (x11 : Sl) (x12 : Sl) (x13 : Int), L' = [(1, x1.enc), (5, (.int .i64 x5)), (6, (.pointer x6)), (8, (.pointer (some x8))), (9, (.pointer (some x9))), (10, (.int .i64 x10)), (11, x11.enc), (12, x12.enc), (13, (.int .i64 x13))] ∧ F.xaa.l5 Q (F.xaa.l2 Q q2) m x1 x5 x6 x8 x9 x10 x11 x12 x13 h) ?_ ?_ m98 ⟨_, _, _, _, _, _, _, _, _, rfl, H⟩
     ·rintro L' h ⟨_, _, _, _, _, _, _, _, _, _, H⟩; exact H
     ·rintro q5 L' h ⟨x1, x5, x6, x8, x9, x10, x11, x12, x13, rfl, H⟩;unfold F.xaa.l5 at H;refine tr_seq (tr_seq (tr_region (tq (y_move rfl) (tq (y_move rfl) (tq (y_lss rfl rfl) (tr_nil (tr_thenN ?_)))))));refine tr_cond rfl (fun g15 => ?_) (fun g15 => ?_)
      ·replace H := H.1 g15;refine tr_skip (tr_thenN (tr_seq (tr_block (tr_seq (tr_region (tq (y_move rfl) (tq (y_move rfl) (tq (y_move rfl) ?_))))))));obtain ⟨y16, k17, H⟩ := H;refine tr_h (y_ldS Tryz.isAgg35 Tryz.sizeOf35 rfl rfl) k17 rfl rfl ?_;obtain ⟨y18, k19, H⟩ := H;refine tr_h (y_ldS Tryz.isAgg35 Tryz.sizeOf35 rfl rfl) k19 rfl rfl (tr_e (e_call Tryz.call21 rfl (F.xby_ok H)) rfl rfl ?_);rintro _ h20 ⟨r21, rfl, H⟩;refine tr_e (f_buildL (cs := #[r21.enc]) rfl rfl (bl_55_1_0 r21) H) rfl rfl ?_;rintro _ h22 ⟨s23, rfl, H⟩;refine tr_e (f_app rfl H) rfl rfl ?_;rintro _ h24 ⟨s25, rfl, H⟩;refine tq (y_assign rfl) (tr_nil (tr_thenN (tr_region (tq (y_move rfl) (tq (y_move rfl) (tq (y_move rfl) (tr_e (e_call Tryz.call24 rfl (F.xbg_ok H)) rfl rfl ?_)))))));rintro _ h26 ⟨r27, rfl, H⟩;refine tr_e (f_buildL (cs := #[(.int .i64 r27)]) rfl rfl (bl_42_1_0 r27) H) rfl rfl ?_;rintro _ h28 ⟨s29, rfl, H⟩;refine tr_e (f_app rfl H) rfl rfl ?_;rintro _ h30 ⟨s31, rfl, H⟩;refine tq (y_assign rfl) (tr_nil (tr_blockN (tr_thenN (tr_region (tq (y_move rfl) (tq (y_add rfl rfl) (tq (y_assign rfl) (tr_nil (tr_thenN ?_)))))))));exact tr_join [(1, x1.enc), (5, (.int .i64 x5)), (6, (.pointer x6)), (8, (.pointer (some x8))), (9, (.pointer (some x9))), (10, (.int .i64 x10)), (11, s25.enc), (12, s31.enc), (13, (.int .i64 (IntKind.wrap .i64 (x13 + 1))))] ⟨rfl, rfl, rfl, rfl, rfl, rfl, rfl, rfl, rfl, trivial⟩ ⟨_, _, _, _, _, _, _, _, _, rfl, H⟩
      ·replace H := H.2 g15;refine tr_exit (tr_thenE (tr_thenE (tr_hit (tr_thenN (tr_seq (tr_region (tq (y_move rfl) (tq (y_move rfl) ?_))))))));obtain ⟨a32, e33, H⟩ := H;refine tq (f_idx (s := x1) Tryz.runUnderlying33 Tryz.sizeOf46 rfl rfl e33) (tq (y_fa (off := 0) Tryz.runUnderlying46 fo_46_0 rfl) (tq (y_fa (off := 2) Tryz.runUnderlying44 fo_44_2 rfl) ?_));obtain ⟨y34, k35, H⟩ := H;refine tr_h (y_ldS Tryz.isAgg35 Tryz.sizeOf35 rfl rfl) k35 rfl rfl (tr_e (e_call Tryz.call15 rfl (F.xbd_ok H)) rfl rfl ?_);rintro _ h36 ⟨r37, rfl, H⟩;refine tr_e (f_alloc (cs := ((⟨0, (⟨#[]⟩ : ByteArray), 0⟩ : S_api_Cell) : S_api_Cell).cells.toArray) Tryz.zeroValue35 rfl H) rfl rfl ?_;rintro _ h38 ⟨a39, rfl, H⟩;refine tr_e (f_store (vs := r37.cells) Tryz.sizeOf35 rfl rfl cellsOfStruct rfl (by intro v hv; exact ones_S_api_Cell _ v hv) H) rfl rfl ?_;rintro _ h40 ⟨rfl, H⟩;refine tr_nil (tr_thenN (tr_seq (tr_region (tq (y_move rfl) (tq (y_fa (off := 1) Tryz.runUnderlying35 fo_35_1 rfl) ?_)))));obtain ⟨y41, k42, H⟩ := H;refine tr_h (y_ld Tryz.isAgg9 rfl) k42 rfl rfl (tr_e (e_call Tryz.call10 rfl (F.xaz_ok H)) rfl rfl ?_);rintro _ h43 ⟨r44, rfl, H⟩;refine tq (y_assign rfl) (tr_nil (tr_thenN ?_));refine tr_seq_j (fun L' h => ∃ (x1 : Sl) (x5 : Int) (x6 : Option Addr) (x8 : Addr) (x9 : Addr) (x10 : Int) (x11 : Sl) (x12 : Sl) (x15 : Int), L' = [(1, x1.enc), (5, (.int .i64 x5)), (6, (.pointer x6)), (8, (.pointer (some x8))), (9, (.pointer (some x9))), (10, (.int .i64 x10)), (11, x11.enc), (12, x12.enc), (15, (.int .i64 x15))] ∧ F.xaa.j6 Q (F.xaa.l2 Q q2) x1 x5 x6 x8 x9 x10 x11 x12 x15 h) ?_ ?_
       ·rintro L' h ⟨x1, x5, x6, x8, x9, x10, x11, x12, x15, rfl, H⟩;unfold F.xaa.j6 at H;refine tr_seq (tr_seq (tr_region (tq (y_assign rfl) (tr_nil (tr_thenN (tr_block ?_))))));obtain ⟨m79, H⟩ := H;refine tr_sub [(1, x1.enc), (5, (.int .i64 x5)), (6, (.pointer x6)), (8, (.pointer (some x8))), (9, (.pointer (some x9))), (10, (.int .i64 x10)), (11, x11.enc), (12, x12.enc), (15, (.int .i64 x15)), (16, (.int .i64 0))] ⟨rfl, rfl, rfl, rfl, rfl, rfl, rfl, rfl, rfl, rfl, trivial⟩ ?_;refine tr_loop_j (fun m L' h => ∃ (x1 : Sl) (x5 : Int) (x6 : Option Addr) (x8 : Addr) (x9 : Addr) (x10 : Int) (x11 : Sl) (x12 : Sl) (x15 : Int) (x16 : Int), L' = [(1, x1.enc), (5, (.int .i64 x5)), (6, (.pointer x6)), (8, (.pointer (some x8))), (9, (.pointer (some x9))), (10, (.int .i64 x10)), (11, x11.enc), (12, x12.enc), (15, (.int .i64 x15)), (16, (.int .i64 x16))] ∧ F.xaa.l7 Q (F.xaa.l2 Q q2) m x1 x5 x6 x8 x9 x10 x11 x12 x15 x16 h) ?_ ?_ m79 ⟨_, _, _, _, _, _, _, _, _, _, rfl, H⟩
        ·rintro L' h ⟨_, _, _, _, _, _, _, _, _, _, _, H⟩; exact H
        ·rintro q7 L' h ⟨x1, x5, x6, x8, x9, x10, x11, x12, x15, x16, rfl, H⟩;unfold F.xaa.l7 at H;refine tr_seq (tr_seq (tr_region (tq (y_move rfl) (tq (y_move rfl) (tq (y_lss rfl rfl) (tr_nil (tr_thenN ?_)))))));refine tr_cond rfl (fun g45 => ?_) (fun g45 => ?_)
         ·replace H := H.1 g45;refine tr_skip (tr_thenN ?_);refine tr_seq_j (fun L' h => ∃ (x1 : Sl) (x5 : Int) (x6 : Option Addr) (x8 : Addr) (x9 : Addr) (x10 : Int) (x11 : Sl) (x12 : Sl) (x15 : Int) (x16 : Int), L' = [(1, x1.enc), (5, (.int .i64 x5)), (6, (.pointer x6)), (8, (.pointer (some x8))), (9, (.pointer (some x9))), (10, (.int .i64 x10)), (11, x11.enc), (12, x12.enc), (15, (.int .i64 x15)), (16, (.int .i64 x16))] ∧ F.xaa.j8 Q (F.xaa.l2 Q q2) (F.xaa.l7 Q (F.xaa.l2 Q q2) q7) x1 x5 x6 x8 x9 x10 x11 x12 x15 x16 h) ?_ ?_
          ·rintro L' h ⟨x1, x5, x6, x8, x9, x10, x11, x12, x15, x16, rfl, H⟩;unfold F.xaa.j8 at H;refine tr_region (tq (y_move rfl) (tq (y_add rfl rfl) (tq (y_assign rfl) (tr_nil (tr_thenN ?_)))));exact tr_join [(1, x1.enc), (5, (.int .i64 x5)), (6, (.pointer x6)), (8, (.pointer (some x8))), (9, (.pointer (some x9))), (10, (.int .i64 x10)), (11, x11.enc), (12, x12.enc), (15, (.int .i64 x15)), (16, (.int .i64 (IntKind.wrap .i64 (x16 + 1))))] ⟨rfl, rfl, rfl, rfl, rfl, rfl, rfl, rfl, rfl, rfl, trivial⟩ ⟨_, _, _, _, _, _, _, _, _, _, rfl, H⟩
          ·refine tr_block (tr_seq (tr_region (tq (y_move rfl) (tq (y_move rfl) ?_))));obtain ⟨y46, k47, H⟩ := H;refine tr_h (y_ldS Tryz.isAgg35 Tryz.sizeOf35 rfl rfl) k47 rfl rfl ?_;obtain ⟨y48, k49, H⟩ := H;refine tr_h (y_ldS Tryz.isAgg35 Tryz.sizeOf35 rfl rfl) k49 rfl rfl (tr_e (e_call Tryz.call21 rfl (F.xby_ok H)) rfl rfl ?_);rintro _ h50 ⟨r51, rfl, H⟩;refine tq (y_assign rfl) (tr_nil (tr_thenN ?_));refine tr_seq_j (fun L' h => ∃ (x1 : Sl) (x5 : Int) (x6 : Option Addr) (x8 : Addr) (x9 : Addr) (x10 : Int) (x11 : Sl) (x12 : Sl) (x15 : Int) (x16 : Int) (x17 : Sl), L' = [(1, x1.enc), (5, (.int .i64 x5)), (6, (.pointer x6)), (8, (.pointer (some x8))), (9, (.pointer (some x9))), (10, (.int .i64 x10)), (11, x11.enc), (12, x12.enc), (15, (.int .i64 x15)), (16, (.int .i64 x16)), (17, x17.enc)] ∧ F.xaa.j9 Q (F.xaa.l2 Q q2) (F.xaa.l7 Q (F.xaa.l2 Q q2) q7) x1 x5 x6 x8 x9 x10 x11 x12 x15 x16 x17 h) ?_ ?_
           ·rintro L' h ⟨x1, x5, x6, x8, x9, x10, x11, x12, x15, x16, x17, rfl, H⟩;unfold F.xaa.j9 at H;refine tr_seq (tr_region (tq (y_assign rfl) (tr_nil (tr_thenN (tr_block ?_)))));obtain ⟨m60, H⟩ := H;refine tr_sub [(1, x1.enc), (5, (.int .i64 x5)), (6, (.pointer x6)), (8, (.pointer (some x8))), (9, (.pointer (some x9))), (10, (.int .i64 x10)), (11, x11.enc), (12, x12.enc), (15, (.int .i64 x15)), (16, (.int .i64 x16)), (17, x17.enc), (18, (.int .i64 0))] ⟨rfl, rfl, rfl, rfl, rfl, rfl, rfl, rfl, rfl, rfl, rfl, rfl, trivial⟩ ?_;refine tr_loop_j (fun m L' h => ∃ (x1 : Sl) (x5 : Int) (x6 : Option Addr) (x8 : Addr) (x9 : Addr) (x10 : Int) (x11 : Sl) (x12 : Sl) (x15 : Int) (x16 : Int) (x17 : Sl) (x18 : Int), L' = [(1, x1.enc), (5, (.int .i64 x5)), (6, (.pointer x6)), (8, (.pointer (some x8))), (9, (.pointer (some x9))), (10, (.int .i64 x10)), (11, x11.enc), (12, x12.enc), (15, (.int .i64 x15)), (16, (.int .i64 x16)), (17, x17.enc), (18, (.int .i64 x18))] ∧ F.xaa.l10 Q (F.xaa.l2 Q q2) (F.xaa.l7 Q (F.xaa.l2 Q q2) q7) m x1 x5 x6 x8 x9 x10 x11 x12 x15 x16 x17 x18 h) ?_ ?_ m60 ⟨_, _, _, _, _, _, _, _, _, _, _, _, rfl, H⟩
            ·rintro L' h ⟨_, _, _, _, _, _, _, _, _, _, _, _, _, H⟩; exact H
            ·rintro q10 L' h ⟨x1, x5, x6, x8, x9, x10, x11, x12, x15, x16, x17, x18, rfl, H⟩;unfold F.xaa.l10 at H;refine tr_seq (tr_seq (tr_region (tq (y_move rfl) (tq (y_move rfl) (tq (y_len (ts := #[]) Tryz.runUnderlying51 (o := x17.ptr) (n := x17.len) (cap := x17.cap) rfl) (tq (y_lss rfl rfl) (tr_nil (tr_thenN ?_))))))));refine tr_cond rfl (fun g52 => ?_) (fun g52 => ?_)
             ·replace H := H.1 g52;refine tr_skip (tr_thenN (tr_seq (tr_block (tr_seq (tr_region (tq (y_move rfl) (tq (y_move rfl) (tq (y_move rfl) ?_))))))));obtain ⟨a53, e54, H⟩ := H;refine tq (f_idx (s := x17) Tryz.runUnderlying51 Tryz.sizeOf49 rfl rfl e54) (tq (y_fa (off := 0) Tryz.runUnderlying49 fo_49_0 rfl) (tq (y_fa (off := 1) Tryz.runUnderlying35 fo_35_1 rfl) ?_));obtain ⟨y55, k56, H⟩ := H;refine tr_h (y_ld Tryz.isAgg9 rfl) k56 rfl rfl (tr_e (e_call Tryz.call10 rfl (F.xaz_ok H)) rfl rfl ?_);rintro _ h57 ⟨r58, rfl, H⟩;refine tq (y_move rfl) (tq (y_neq rfl rfl) (tr_nil (tr_thenN ?_)));refine tr_cond rfl (fun g59 => ?_) (fun g59 => ?_)
              ·replace H := H.1 g59;refine tr_seq (tr_region (tq (y_assign rfl) (tr_nil (tr_thenN (tr_ret (tr_blockR (tr_thenR (tr_thenR (tr_blockR (tr_blockR (tr_thenR (tr_thenR (tr_blockR ?_)))))))))))));refine tr_thenR (tr_blockR (tr_thenR (tr_thenR (tr_blockR (tr_thenR ?_)))));exact tr_ret1 rfl rfl ⟨_, rfl, H⟩
              ·replace H := H.2 g59;refine tr_skip (tr_blockN (tr_thenN (tr_region (tq (y_move rfl) (tq (y_add rfl rfl) (tq (y_assign rfl) (tr_nil (tr_thenN ?_))))))));exact tr_join [(1, x1.enc), (5, (.int .i64 x5)), (6, (.pointer x6)), (8, (.pointer (some x8))), (9, (.pointer (some x9))), (10, (.int .i64 x10)), (11, x11.enc), (12, x12.enc), (15, (.int .i64 x15)), (16, (.int .i64 x16)), (17, x17.enc), (18, (.int .i64 (IntKind.wrap .i64 (x18 + 1))))] ⟨rfl, rfl, rfl, rfl, rfl, rfl, rfl, rfl, rfl, rfl, rfl, rfl, trivial⟩ ⟨_, _, _, _, _, _, _, _, _, _, _, _, rfl, H⟩
             ·replace H := H.2 g52;refine tr_exit (tr_thenE (tr_thenE (tr_hit (tr_blockN (tr_thenN ?_)))));exact tr_join [(1, x1.enc), (5, (.int .i64 x5)), (6, (.pointer x6)), (8, (.pointer (some x8))), (9, (.pointer (some x9))), (10, (.int .i64 x10)), (11, x11.enc), (12, x12.enc), (15, (.int .i64 x15)), (16, (.int .i64 x16))] ⟨rfl, rfl, rfl, rfl, rfl, rfl, rfl, rfl, rfl, rfl, trivial⟩ ⟨_, _, _, _, _, _, _, _, _, _, rfl, H⟩
           ·refine tr_seq_j (fun L' h => ∃ (x1 : Sl) (x5 : Int) (x6 : Option Addr) (x8 : Addr) (x9 : Addr) (x10 : Int) (x11 : Sl) (x12 : Sl) (x15 : Int) (x16 : Int) (x17 : Sl) (x124 : Bool), L' = [(1, x1.enc), (5, (.int .i64 x5)), (6, (.pointer x6)), (8, (.pointer (some x8))), (9, (.pointer (some x9))), (10, (.int .i64 x10)), (11, x11.enc), (12, x12.enc), (15, (.int .i64 x15)), (16, (.int .i64 x16)), (17, x17.enc), (124, (.bool x124))] ∧ F.xaa.j11 Q (F.xaa.l2 Q q2) (F.xaa.l7 Q (F.xaa.l2 Q q2) q7) x1 x5 x6 x8 x9 x10 x11 x12 x15 x16 x17 x124 h) ?_ ?_
            ·rintro L' h ⟨x1, x5, x6, x8, x9, x10, x11, x12, x15, x16, x17, x124, rfl, H⟩;unfold F.xaa.j11 at H;refine tr_cond rfl (fun g61 => ?_) (fun g61 => ?_)
             ·replace H := H.1 g61;refine tr_seq (tr_region (tq (y_assign rfl) (tr_nil (tr_thenN (tr_ret (tr_thenR (tr_blockR (tr_thenR (tr_thenR (tr_blockR (tr_thenR (tr_blockR (tr_thenR ?_)))))))))))));refine tr_thenR (tr_blockR (tr_thenR ?_));exact tr_ret1 rfl rfl ⟨_, rfl, H⟩
             ·replace H := H.2 g61;refine tr_skip (tr_thenN ?_);exact tr_join [(1, x1.enc), (5, (.int .i64 x5)), (6, (.pointer x6)), (8, (.pointer (some x8))), (9, (.pointer (some x9))), (10, (.int .i64 x10)), (11, x11.enc), (12, x12.enc), (15, (.int .i64 x15)), (16, (.int .i64 x16)), (17, x17.enc)] ⟨rfl, rfl, rfl, rfl, rfl, rfl, rfl, rfl, rfl, rfl, rfl, trivial⟩ ⟨_, _, _, _, _, _, _, _, _, _, _, rfl, H⟩
            ·refine tr_draw mixed [0, 0, 3, 7, 15, 15, 15, 111, 239, 511, 1023, 2047, 4095, 4095, 16383, 4095, 4095, 102399, 233471, 524287, 1048575, 2097151] (by kernel_rfl) (g_p 0 1 rfl (by kernel_rfl) (y_move rfl) rfl rfl (g_p 1 3 rfl (by kernel_rfl) (y_move rfl) rfl rfl (g_p 2 7 rfl (by kernel_rfl) (y_neq rfl rfl) rfl rfl (g_p 3 15 rfl (by kernel_rfl) (y_move rfl) rfl rfl ?_))));refine g_split (t := 106) rfl (fun g62 => ?_) (fun g62 => ?_)
             ·replace H := H.1 g62;refine g_p 4 31 rfl (by kernel_rfl) (y_move rfl) rfl rfl (g_p 5 63 rfl (by kernel_rfl) (y_move rfl) rfl rfl (g_p 6 127 rfl (by kernel_rfl) (y_move rfl) rfl rfl ?_));obtain ⟨a63, e64, H⟩ := H;refine g_p 7 255 rfl (by kernel_rfl) (f_idx (s := x11) Tryz.runUnderlying55 Tryz.sizeOf51 rfl rfl e64) rfl rfl ?_;obtain ⟨y65, k66, H⟩ := H;refine g_h 8 511 rfl (by kernel_rfl) (y_ld Tryz.isAgg51 rfl) k66 rfl rfl (g_e 9 1023 [] (by kernel_rfl) rfl (by kernel_rfl) (e_call Tryz.call19 rfl (F.xbm_ok H)) rfl rfl ?_);rintro _ h67 ⟨r68, rfl, H⟩;refine ⟨trivial, ?_⟩;refine g_p 10 2047 rfl (by kernel_rfl) (y_not rfl) rfl rfl (g_p 11 4095 rfl (by kernel_rfl) (y_move rfl) rfl rfl ?_);refine g_split (t := 114) rfl (fun g69 => ?_) (fun g69 => ?_)
              ·replace H := H.1 g69;refine g_s 12 8191 rfl (by kernel_rfl) rfl rfl (g_s 13 16383 rfl (by kernel_rfl) rfl rfl (g_s 14 32767 rfl (by kernel_rfl) rfl rfl (g_s 15 65535 rfl (by kernel_rfl) rfl rfl (g_s 16 131071 rfl (by kernel_rfl) rfl rfl (g_s 17 262143 rfl (by kernel_rfl) rfl rfl (g_s 18 524287 rfl (by kernel_rfl) rfl rfl (g_s 19 1048575 rfl (by kernel_rfl) rfl rfl (g_p 20 2097151 rfl (by kernel_rfl) (y_pick_t rfl rfl) rfl rfl (g_p 21 4194303 rfl (by kernel_rfl) (y_pick_t rfl rfl) rfl rfl (g_d (by kernel_rfl) (tr_thenN ?_)))))))))));exact tr_join [(1, x1.enc), (5, (.int .i64 x5)), (6, (.pointer x6)), (8, (.pointer (some x8))), (9, (.pointer (some x9))), (10, (.int .i64 x10)), (11, x11.enc), (12, x12.enc), (15, (.int .i64 x15)), (16, (.int .i64 x16)), (17, r51.enc), (124, (.bool true))] ⟨rfl, rfl, rfl, rfl, rfl, rfl, rfl, rfl, rfl, rfl, rfl, rfl, trivial⟩ ⟨_, _, _, _, _, _, _, _, _, _, _, _, rfl, H⟩
              ·replace H := H.2 g69;refine g_p 12 8191 rfl (by kernel_rfl) (y_move rfl) rfl rfl (g_p 13 16383 rfl (by kernel_rfl) (y_move rfl) rfl rfl (g_p 15 49151 rfl (by kernel_rfl) (y_move rfl) rfl rfl (g_p 16 114687 rfl (by kernel_rfl) (y_move rfl) rfl rfl ?_)));obtain ⟨a70, e71, H⟩ := H;refine g_p 17 245759 rfl (by kernel_rfl) (f_idx (s := x12) Tryz.runUnderlying42 Tryz.sizeOf3 rfl rfl e71) rfl rfl ?_;obtain ⟨y72, k73, H⟩ := H;refine g_h 18 507903 rfl (by kernel_rfl) (y_ld Tryz.isAgg3 rfl) k73 rfl rfl (g_e 14 524287 [(18, fun h => cellH h a70 = some (.int .i64 y72))] (by kernel_rfl) rfl (by kernel_rfl) (e_call Tryz.call24 rfl (F.xbg_ok H)) rfl rfl ?_);rintro _ h74 ⟨r75, rfl, H⟩;obtain ⟨k76, H⟩ := H;refine ⟨And.intro k76 trivial, ?_⟩;refine g_p 19 1048575 rfl (by kernel_rfl) (y_neq rfl rfl) rfl rfl (g_p 20 2097151 rfl (by kernel_rfl) (y_pick_f rfl rfl) rfl rfl (g_p 21 4194303 rfl (by kernel_rfl) (y_pick_t rfl rfl) rfl rfl (g_d (by kernel_rfl) (tr_thenN ?_))));exact tr_join [(1, x1.enc), (5, (.int .i64 x5)), (6, (.pointer x6)), (8, (.pointer (some x8))), (9, (.pointer (some x9))), (10, (.int .i64 x10)), (11, x11.enc), (12, x12.enc), (15, (.int .i64 x15)), (16, (.int .i64 x16)), (17, r51.enc), (124, (.bool ((r75 != y72))))] ⟨rfl, rfl, rfl, rfl, rfl, rfl, rfl, rfl, rfl, rfl, rfl, rfl, trivial⟩ ⟨_, _, _, _, _, _, _, _, _, _, _, _, rfl, H⟩
             ·replace H := H.2 g62;refine g_s 4 31 rfl (by kernel_rfl) rfl rfl (g_s 5 63 rfl (by kernel_rfl) rfl rfl (g_s 6 127 rfl (by kernel_rfl) rfl rfl (g_s 7 255 rfl (by kernel_rfl) rfl rfl (g_s 8 511 rfl (by kernel_rfl) rfl rfl (g_s 9 1023 rfl (by kernel_rfl) rfl rfl (g_s 10 2047 rfl (by kernel_rfl) rfl rfl (g_s 11 4095 rfl (by kernel_rfl) rfl rfl (g_s 12 8191 rfl (by kernel_rfl) rfl rfl (g_s 13 16383 rfl (by kernel_rfl) rfl rfl (g_s 14 32767 rfl (by kernel_rfl) rfl rfl (g_s 15 65535 rfl (by kernel_rfl) rfl rfl (g_s 16 131071 rfl (by kernel_rfl) rfl rfl (g_s 17 262143 rfl (by kernel_rfl) rfl rfl ?_)))))))))))));refine g_s 18 524287 rfl (by kernel_rfl) rfl rfl (g_s 19 1048575 rfl (by kernel_rfl) rfl rfl (g_s 20 2097151 rfl (by kernel_rfl) rfl rfl (g_p 21 4194303 rfl (by kernel_rfl) (y_pick_f rfl rfl) rfl rfl (g_d (by kernel_rfl) (tr_thenN ?_)))));exact tr_join [(1, x1.enc), (5, (.int .i64 x5)), (6, (.pointer x6)), (8, (.pointer (some x8))), (9, (.pointer (some x9))), (10, (.int .i64 x10)), (11, x11.enc), (12, x12.enc), (15, (.int .i64 x15)), (16, (.int .i64 x16)), (17, r51.enc), (124, (.bool false))] ⟨rfl, rfl, rfl, rfl, rfl, rfl, rfl, rfl, rfl, rfl, rfl, rfl, trivial⟩ ⟨_, _, _, _, _, _, _, _, _, _, _, _, rfl, H⟩
         ·replace H := H.2 g45;refine tr_exit (tr_thenE (tr_thenE (tr_hit (tr_thenN ?_))));refine tr_seq_j (fun L' h => ∃ (x1 : Sl) (x5 : Int) (x6 : Option Addr) (x8 : Addr) (x9 : Addr) (x10 : Int) (x147 : Bool), L' = [(1, x1.enc), (5, (.int .i64 x5)), (6, (.pointer x6)), (8, (.pointer (some x8))), (9, (.pointer (some x9))), (10, (.int .i64 x10)), (147, (.bool x147))] ∧ F.xaa.j12 Q (F.xaa.l2 Q q2) x1 x5 x6 x8 x9 x10 x147 h) ?_ ?_
          ·rintro L' h ⟨x1, x5, x6, x8, x9, x10, x147, rfl, H⟩;unfold F.xaa.j12 at H;refine tr_cond rfl (fun g77 => ?_) (fun g77 => ?_)
           ·replace H := H.1 g77;refine tr_seq (tr_region (tq (y_assign rfl) (tr_nil (tr_thenN (tr_ret (tr_blockR (tr_thenR (tr_thenR (tr_blockR (tr_thenR ?_))))))))));exact tr_ret1 rfl rfl ⟨_, rfl, H⟩
           ·replace H := H.2 g77;refine tr_skip (tr_blockN (tr_thenN ?_));exact tr_join [(1, x1.enc), (5, (.int .i64 x5)), (6, (.pointer x6)), (8, (.pointer (some x8))), (9, (.pointer (some x9))), (10, (.int .i64 x10))] ⟨rfl, rfl, rfl, rfl, rfl, rfl, trivial⟩ ⟨_, _, _, _, _, _, rfl, H⟩
          ·refine tr_region (tq (y_move rfl) (tq (y_lss rfl rfl) (tq (y_move rfl) ?_)));refine tr_split (t := 143) rfl (fun g78 => ?_) (fun g78 => ?_)
           ·replace H := H.1 g78;refine ts (ts (ts (tq (y_pick_t rfl rfl) (tr_nil (tr_thenN ?_)))));exact tr_join [(1, x1.enc), (5, (.int .i64 x5)), (6, (.pointer x6)), (8, (.pointer (some x8))), (9, (.pointer (some x9))), (10, (.int .i64 x10)), (147, (.bool true))] ⟨rfl, rfl, rfl, rfl, rfl, rfl, rfl, trivial⟩ ⟨_, _, _, _, _, _, _, rfl, H⟩
           ·replace H := H.2 g78;refine tq (y_move rfl) (tq (y_move rfl) (tq (y_geq rfl rfl) (tq (y_pick_f rfl rfl) (tr_nil (tr_thenN ?_)))));exact tr_join [(1, x1.enc), (5, (.int .i64 x5)), (6, (.pointer x6)), (8, (.pointer (some x8))), (9, (.pointer (some x9))), (10, (.int .i64 x10)), (147, (.bool (decide (x15 >= x5))))] ⟨rfl, rfl, rfl, rfl, rfl, rfl, rfl, trivial⟩ ⟨_, _, _, _, _, _, _, rfl, H⟩
       ·refine tr_seq (tr_region (tq (y_move rfl) (tq (y_move rfl) ?_)));obtain ⟨a80, e81, H⟩ := H;refine tq (f_idx (s := x1) Tryz.runUnderlying33 Tryz.sizeOf46 rfl rfl e81) (tq (y_fa (off := 0) Tryz.runUnderlying46 fo_46_0 rfl) (tq (y_fa (off := 0) Tryz.runUnderlying44 fo_44_0 rfl) ?_));obtain ⟨y82, k83, H⟩ := H;refine tr_h (y_ld Tryz.isAgg3 rfl) k83 rfl rfl (tr_e (e_call Tryz.call13 rfl (F.xay_ok H)) rfl rfl ?_);rintro _ h84 ⟨r85, rfl, H⟩;refine tq (y_eql rfl rfl) (tr_nil (tr_thenN ?_));refine tr_cond rfl (fun g86 => ?_) (fun g86 => ?_)
        ·replace H := H.1 g86;refine tr_region (tq (y_move rfl) ?_);obtain ⟨y87, k88, H⟩ := H;refine tr_h (y_ldS Tryz.isAgg35 Tryz.sizeOf35 rfl rfl) k88 rfl rfl (tr_e (e_call Tryz.call25 rfl (F.xca_ok H)) rfl rfl ?_);rintro _ h89 ⟨r90, rfl, H⟩;refine tr_nil (tr_thenN ?_);exact tr_join [(1, x1.enc), (5, (.int .i64 x5)), (6, (.pointer x6)), (8, (.pointer (some x8))), (9, (.pointer (some x9))), (10, (.int .i64 x10)), (11, x11.enc), (12, x12.enc), (15, (.int .i64 r44))] ⟨rfl, rfl, rfl, rfl, rfl, rfl, rfl, rfl, rfl, trivial⟩ ⟨_, _, _, _, _, _, _, _, _, rfl, H⟩
        ·replace H := H.2 g86;refine tr_draw mixed [0, 0, 0, 6, 15] (by kernel_rfl) (g_p 0 1 rfl (by kernel_rfl) (y_move rfl) rfl rfl ?_);obtain ⟨y91, k92, H⟩ := H;refine g_h 1 3 rfl (by kernel_rfl) (y_ldS Tryz.isAgg35 Tryz.sizeOf35 rfl rfl) k92 rfl rfl (g_e 2 7 [(1, fun h => Cells h a39 y91.cells)] (by kernel_rfl) rfl (by kernel_rfl) (e_call Tryz.call16 rfl (F.xbs_ok H)) rfl rfl ?_);rintro _ h93 ⟨r94, rfl, H⟩;obtain ⟨k95, H⟩ := H;refine ⟨And.intro k95 trivial, ?_⟩;refine g_p 3 15 rfl (by kernel_rfl) (f_build rfl (bd_49_0_1 y91 r94)) rfl rfl (g_e 4 31 [] (by kernel_rfl) rfl (by kernel_rfl) (e_call Tryz.call14 rfl (F.xbn_ok H)) rfl rfl ?_);rintro _ h96 ⟨r97, rfl, H⟩;refine ⟨trivial, ?_⟩;refine g_d (by kernel_rfl) (tr_thenN ?_);exact tr_join [(1, x1.enc), (5, (.int .i64 x5)), (6, (.pointer x6)), (8, (.pointer (some x8))), (9, (.pointer (some x9))), (10, (.int .i64 x10)), (11, x11.enc), (12, x12.enc), (15, (.int .i64 r44))] ⟨rfl, rfl, rfl, rfl, rfl, rfl, rfl, rfl, rfl, trivial⟩ ⟨_, _, _, _, _, _, _, _, _, rfl, H⟩
   ·refine tr_seq_j (fun L' h => ∃ (x1 : Sl) (x5 : Int) (x6 : Option Addr) (x8 : Addr) (x9 : Addr) (x10 : Int) (x44 : Bool), L' = [(1, x1.enc), (5, (.int .i64 x5)), (6, (.pointer x6)), (8, (.pointer (some x8))), (9, (.pointer (some x9))), (10, (.int .i64 x10)), (44, (.bool x44))] ∧ F.xaa.j13 Q (F.xaa.l2 Q q2) x1 x5 x6 x8 x9 x10 x44 h) ?_ ?_
    ·rintro L' h ⟨x1, x5, x6, x8, x9, x10, x44, rfl, H⟩;unfold F.xaa.j13 at H;refine tr_cond rfl (fun g99 => ?_) (fun g99 => ?_)
     ·replace H := H.1 g99;refine tr_skip (tr_thenN ?_);exact tr_join [(1, x1.enc), (5, (.int .i64 x5)), (6, (.pointer x6)), (8, (.pointer (some x8))), (9, (.pointer (some x9))), (10, (.int .i64 x10))] ⟨rfl, rfl, rfl, rfl, rfl, rfl, trivial⟩ ⟨_, _, _, _, _, _, rfl, H⟩
     ·replace H := H.2 g99;refine tr_exit (tr_thenE (tr_thenE (tr_hit (tr_thenN (tr_seq (tr_region (tr_e (e_call Tryz.call12 rfl (F.xax_ok H)) rfl rfl ?_)))))));rintro _ h100 ⟨r101, rfl, H⟩;refine tq (y_assign rfl) (tr_nil (tr_thenN (tr_ret ?_)));exact tr_ret1 rfl rfl ⟨_, rfl, H⟩
    ·refine tr_region (tq (y_move rfl) (tq (y_move rfl) (tq (y_len (ts := #[]) Tryz.runUnderlying33 (o := x1.ptr) (n := x1.len) (cap := x1.cap) rfl) (tq (y_lss rfl rfl) (tq (y_move rfl) ?_)))));refine tr_split (t := 41) rfl (fun g102 => ?_) (fun g102 => ?_)
     ·replace H := H.1 g102;refine tq (y_move rfl) (tq (y_lss rfl rfl) (tq (y_pick_t rfl rfl) (tr_nil (tr_thenN ?_))));exact tr_join [(1, x1.enc), (5, (.int .i64 x5)), (6, (.pointer x6)), (8, (.pointer (some x8))), (9, (.pointer (some x9))), (10, (.int .i64 x10)), (44, (.bool (decide (x10 < 40))))] ⟨rfl, rfl, rfl, rfl, rfl, rfl, rfl, trivial⟩ ⟨_, _, _, _, _, _, _, rfl, H⟩
     ·replace H := H.2 g102;refine ts (ts (tq (y_pick_f rfl rfl) (tr_nil (tr_thenN ?_))));exact tr_join [(1, x1.enc), (5, (.int .i64 x5)), (6, (.pointer x6)), (8, (.pointer (some x8))), (9, (.pointer (some x9))), (10, (.int .i64 x10)), (44, (.bool false))] ⟨rfl, rfl, rfl, rfl, rfl, rfl, rfl, trivial⟩ ⟨_, _, _, _, _, _, _, rfl, H⟩
 ·refine tr_seq_j (fun L' h => ∃ (x1 : Sl) (x5 : Int) (x6 : Option Addr) (x32 : Bool), L' = [(1, x1.enc), (5, (.int .i64 x5)), (6, (.pointer x6)), (32, (.bool x32))] ∧ F.xaa.j14 Q x1 x5 x6 x32 h) ?_ ?_
  ·rintro L' h ⟨x1, x5, x6, x32, rfl, H⟩;unfold F.xaa.j14 at H;refine tr_cond rfl (fun g104 => ?_) (fun g104 => ?_)
   ·replace H := H.1 g104;refine tr_seq (tr_region (tq (y_assign rfl) (tr_nil (tr_thenN (tr_ret (tr_thenR ?_))))));exact tr_ret1 rfl rfl ⟨_, rfl, H⟩
   ·replace H := H.2 g104;refine tr_skip (tr_thenN ?_);exact tr_join [(1, x1.enc), (5, (.int .i64 x5)), (6, (.pointer x6))] ⟨rfl, rfl, rfl, trivial⟩ ⟨_, _, _, rfl, H⟩
  ·refine tr_region (tq (y_move rfl) (tq (y_neq rfl rfl) (tq (y_move rfl) ?_)));refine tr_split (t := 29) rfl (fun g105 => ?_) (fun g105 => ?_)
   ·replace H := H.1 g105;refine ts (ts (tq (y_pick_t rfl rfl) (tr_nil (tr_thenN ?_))));exact tr_join [(1, p1.enc), (5, (.int .i64 (IntKind.wrap .i64 (1 + r2)))), (6, (.pointer r4)), (32, (.bool true))] ⟨rfl, rfl, rfl, rfl, trivial⟩ ⟨_, _, _, _, rfl, H⟩
   ·replace H := H.2 g105;refine tq (y_move rfl) (tq (y_pnil_eql Tryz.runUnderlying23 rfl rfl) (tq (y_pick_f rfl rfl) (tr_nil (tr_thenN ?_))));exact tr_join [(1, p1.enc), (5, (.int .i64 (IntKind.wrap .i64 (1 + r2)))), (6, (.pointer r4)), (32, (.bool r4.isNone))] ⟨rfl, rfl, rfl, rfl, trivial⟩ ⟨_, _, _, _, rfl, H⟩
set_option linter.unusedSimpArgs false
abbrev Cel := S_api_Cell
theorem cU_one (b : UInt8) : ∀ v ∈ cU b, v.oneCell' = true := one1 rfl
theorem Blk.cells3 {h : H} {n : Nat} {c : Cel} {e : TypeId} (k : Blk h n c.cells.toArray e) : Cells h ⟨n, 0, none⟩ c.cells := fun j v hv => by rw [add_lit, Nat.zero_add]; exact k.cell (by simpa using hv)
def mayC (c : Cel) : Int := if c.View < 0 ∨ c.View > 4 then 23 else if (c.Key.size : Int) > 32 then 21 else if c.Start < -2305843009213693952 ∨ c.Start > 2305843009213693952 then 22 else 0
theorem mayC_spec {h : H} {c : Cel} {Q : Int -> H -> Prop} (k : ∀ h', Ext h h' -> Q (mayC c) h') : F.xap c h Q := by
  unfold F.xap
  refine new_of fun n h1 e1 e2 e3 e4 => ?_
  have k := k h1 e3
  unfold mayC at k
  simp only [F.xap.j1, F.xap.j2, add_lit, Nat.zero_add, ldI_iff (e2.cell (i := 0) (v := .int .i64 c.View) rfl), ldS_iff (e2.cell (i := 1) (v := .string c.Key) rfl), ldI_iff (e2.cell (i := 2) (v := .int .i64 c.Start) rfl), decide_eq_true_eq, decide_eq_false_iff_not]
  have hb : ¬ (c.View < 0 ∨ c.View > 4) -> ((c.Key.size : Int) > 32 -> Q 21 h1) ∧ (¬ (c.Key.size : Int) > 32 -> (c.Start < -2305843009213693952 -> (True -> Q 22 h1) ∧ (true = false -> Q 0 h1)) ∧ (¬ c.Start < -2305843009213693952 -> (c.Start > 2305843009213693952 -> Q 22 h1) ∧ (¬ c.Start > 2305843009213693952 -> Q 0 h1))) := fun g => by
    rw [if_neg g] at k
    refine ⟨fun g1 => by rw [if_pos g1] at k; exact k, fun g1 => ?_⟩
    rw [if_neg g1] at k
    refine ⟨fun g2 => ⟨fun _ => by rw [if_pos (.inl g2)] at k; exact k, fun h => by cases h⟩, fun g2 => ⟨fun g3 => by rw [if_pos (.inr g3)] at k; exact k, fun g3 => by rw [if_neg (by omega)] at k; exact k⟩⟩
  refine ⟨fun g => ⟨fun _ => by rw [if_pos (.inl g)] at k; exact k, fun h => by cases h⟩, fun g => ⟨fun g2 => by rw [if_pos (.inr g2)] at k; exact k, fun g2 => hb (by omega)⟩⟩
def escL : List UInt8 -> List UInt8
  | [] => []
  | b :: r => if b = 0 then 0 :: 255 :: escL r else b :: escL r
theorem escL_snoc (b : UInt8) : ∀ l, escL (l ++ [b]) = escL l ++ (if b = 0 then [0, 255] else [b])
  | [] => by by_cases h : b = 0 <;> simp [escL, h]
  | x :: r => by simp only [List.cons_append, escL, escL_snoc b r]; split <;> simp
theorem escL_len : ∀ l : List UInt8, (escL l).length <= 2 * l.length
  | [] => by simp [escL]
  | b :: r => by have := escL_len r; simp only [escL]; split <;> simp <;> omega
def beT (u : Nat) : Nat -> List UInt8
  | 0 => []
  | j + 1 => UInt8.ofNat (u / 2 ^ (8 * j)) :: beT u j
theorem beT_len (u : Nat) : ∀ j, (beT u j).length = j
  | 0 => rfl
  | j + 1 => by simp [beT, beT_len u j]
def upU (n : Int) : Nat := (IntKind.wrap .u64 (IntKind.wrap .u64 n + 9223372036854775808)).toNat
def keyL (c : Cel) : List UInt8 := UInt8.ofNat c.View.toNat :: (escL c.Key.data.toList ++ [0, 1] ++ beT (upU c.Start) 8)
theorem wrap_u64 (n : Int) : IntKind.wrap .u64 n = n % 18446744073709551616 := by
  unfold IntKind.wrap; simp [IntKind.bits, IntKind.signed]
theorem wrap_u8 (n : Int) : IntKind.wrap .u8 n = n % 256 := by
  unfold IntKind.wrap; simp [IntKind.bits, IntKind.signed]
theorem upU_eq (n : Int) : ((upU n : Nat) : Int) = IntKind.wrap .u64 (IntKind.wrap .u64 n + 9223372036854775808) := by
  unfold upU
  rw [Int.toNat_of_nonneg]
  rw [wrap_u64]; omega
theorem fdiv_pow (u i : Nat) : Int.fdiv (u : Int) (2 ^ i : Int) = ((u / 2 ^ i : Nat) : Int) := by
  have e : (2 ^ i : Int) = ((2 ^ i : Nat) : Int) := by simp
  rw [e, Int.ofNat_fdiv]
theorem u8_of (n : Nat) : ((UInt8.ofNat n).toNat : Int) = IntKind.wrap .u8 (n : Int) := by
  rw [wrap_u8]; simp
theorem key_tail {h0 : H} {u : Nat} {Q : ByteArray -> Int -> H -> Prop} {L0 : List UInt8} (hL0 : L0.length <= 1000) (k : ∀ h', Ext h0 h' -> Q ⟨(L0 ++ beT u 8).toArray⟩ 0 h') :
    ∀ (j m : Nat) (h : H) (s : Sl) (L : List UInt8), j <= 8 -> j < m -> Ext h0 h -> Owns h s 5 1 (L.flatMap cU) -> Mine h0 s -> L ++ beT u j = L0 ++ beT u 8 -> F.xao.l2 Q m s (u : Int) (8 * (j : Int) - 8) h
  | j, 0, h, s, L, _, hm, _, _, _, _ => by omega
  | j, m + 1, h, s, L, hj, hm, e0, ow, mi, hL => by
    unfold F.xao.l2
    simp only [decide_eq_true_eq, decide_eq_false_iff_not]
    have hlen : L.length + j = L0.length + 8 := by have := congrArg List.length hL; simpa [beT_len] using this
    refine ⟨fun g => ⟨g, ?_⟩, fun g => ?_⟩
    · obtain ⟨i, rfl⟩ : ∃ i, j = i + 1 := ⟨j - 1, by omega⟩
      have hb : IntKind.wrap .u8 (Int.fdiv (u : Int) (2 ^ (min (8 * ((i + 1 : Nat) : Int) - 8).toNat (IntKind.bits .u64)) : Int)) = ((UInt8.ofNat (u / 2 ^ (8 * i))).toNat : Int) := by
        rw [u8_of, show (8 * ((i + 1 : Nat) : Int) - 8).toNat = 8 * i from by omega, show min (8 * i) (IntKind.bits .u64) = 8 * i from by simp [IntKind.bits]; omega]
        rw [fdiv_pow]
      rw [hb]
      refine push_mine (f := cU) (UInt8.ofNat (u / 2 ^ (8 * i))) e0 mi cU_len (by omega) el_Sluint8 ow cU_one (by omega) fun r h1 q1 q2 q3 q4 q5 => ?_
      rw [w64 (by omega) (by omega), show 8 * ((i + 1 : Nat) : Int) - 8 - 8 = 8 * (i : Int) - 8 from by omega]
      refine key_tail hL0 k i m h1 r _ (by omega) (by omega) q2 q1 q3 ?_
      rw [← hL]; simp [beT]
    · have : j = 0 := by omega
      subst this
      refine cvtT_of (l := L) el_Sluint8.slice Tryz.underlying5 Tryz.underlying9 ow.reads ?_
      have : L = L0 ++ beT u 8 := by simpa [beT] using hL
      rw [this]; exact k h e0
theorem key_loop {h0 : H} {c : Cel} {n : Nat} {Q : ByteArray -> Int -> H -> Prop} {pre : UInt8} (hk : c.Key.size <= 32) (k : ∀ h', Ext h0 h' -> Q ⟨(pre :: (escL c.Key.data.toList ++ [0, 1] ++ beT (upU c.Start) 8)).toArray⟩ 0 h') (hn : h0.size <= n) :
    ∀ (m i : Nat) (h : H) (s : Sl), i <= c.Key.size -> c.Key.size - i < m -> Ext h0 h -> Blk h n c.cells.toArray tn_api_Cell -> n < h.size -> Owns h s 5 1 ((pre :: escL (c.Key.data.toList.take i)).flatMap cU) -> Mine h0 s -> s.blk ≠ some n ->
    F.xao.l1 Q m ⟨n, 0, none⟩ s (c.Key.size : Int) (i : Int) h
  | 0, i, h, s, _, hm, _, _, _, _, _, _ => by omega
  | m + 1, i, h, s, hi, hm, e0, bl, hnl, ow, mi, hne => by
    unfold F.xao.l1
    simp only [decide_eq_true_eq, decide_eq_false_iff_not, add_lit, Nat.zero_add]
    have hel := escL_len (c.Key.data.toList.take i)
    rw [List.length_take, ← size_data] at hel
    refine ⟨fun g => ?_, fun g => ?_⟩
    · rw [ldS_iff (bl.cell (i := 1) (v := .string c.Key) rfl)]
      obtain ⟨b, hb⟩ : ∃ b, c.Key.data.toList[i]? = some b := ⟨_, List.getElem?_eq_getElem (by rw [← size_data]; omega)⟩
      refine idxS_of hb rfl ?_
      have htk : escL (c.Key.data.toList.take (i + 1)) = escL (c.Key.data.toList.take i) ++ (if b = 0 then [0, 255] else [b]) := by rw [List.take_add_one, hb]; exact escL_snoc b _
      refine push_mine (f := cU) b e0 mi cU_len (by omega) el_Sluint8 ow cU_one (by simp; omega) fun r h1 q1 q2 q3 q4 q5 => ?_
      have bl1 : Blk h1 n c.cells.toArray tn_api_Cell := q4.block bl hne
      have hg1 := q4.size
      have hne1 : r.blk ≠ some n := by
        rcases q5 with q5 | ⟨x, q5, q6⟩
        · rw [q5]; exact hne
        · rw [q5]; intro e; cases e; omega
      rw [ldS_iff (bl1.cell (i := 1) (v := .string c.Key) rfl)]
      refine idxS_of hb rfl ?_
      have hw : IntKind.wrap .i64 ((i : Int) + 1) = ((i + 1 : Nat) : Int) := by rw [w64 (by omega) (by omega)]; omega
      rw [hw, beq_iff_eq, beq_eq_false_iff_ne]
      have hb0 : (b.toNat : Int) = 0 ↔ b = 0 := by
        constructor
        · intro h; exact UInt8.toNat_inj.1 (by simpa using (by omega : b.toNat = 0))
        · intro h; subst h; rfl
      rw [hb0, Ne, hb0]
      refine ⟨fun g2 => ?_, fun g2 => ?_⟩
      · refine push_mine (f := cU) 255 q2 q3 cU_len (by omega) el_Sluint8 q1 cU_one (by simp; omega) fun r2 h2 p1 p2 p3 p4 p5 => ?_
        have hne2 : r2.blk ≠ some n := by
          rcases p5 with p5 | ⟨x, p5, p6⟩
          · rw [p5]; exact hne1
          · rw [p5]; intro e; cases e; omega
        refine key_loop hk k hn m (i + 1) h2 r2 (by omega) (by omega) p2 (p4.block bl1 hne1) (by have := p4.size; omega) ?_ p3 hne2
        rw [htk, if_pos g2]; subst g2; simpa using p1
      · refine key_loop hk k hn m (i + 1) h1 r (by omega) (by omega) q2 bl1 (by omega) ?_ q3 hne1
        rw [htk, if_neg g2]; simpa using q1
    · have hii : i = c.Key.size := by omega
      subst hii
      refine newL_of fun x h1 e1 e2 e3 e4 => ?_
      refine app_mine (f := cU) (M := [0, 1]) (e0.trans e3) mi cU_len (by omega) el_Sluint8 (ow.ext e3) (blk_reads (show Blk h1 x (([0, 1] : List UInt8).flatMap cU).toArray 5 from e2) rfl) cU_one (by simp; omega) fun r h2 q1 q2 q3 q4 q5 => ?_
      have bl1 : Blk h2 n c.cells.toArray tn_api_Cell := q4.block (e3.block bl (fun f => f)) hne
      rw [ldI_iff (bl1.cell (i := 2) (v := .int .i64 c.Start) rfl), ← upU_eq]
      refine ⟨9, ?_⟩
      have ht : c.Key.data.toList.take c.Key.size = c.Key.data.toList := List.take_of_length_le (by rw [← size_data]; omega)
      rw [ht] at q1
      have hl2 := escL_len c.Key.data.toList
      rw [← size_data] at hl2
      refine key_tail (L0 := pre :: (escL c.Key.data.toList ++ [0, 1])) (by simp; omega) (by simpa using k) 8 9 h2 r _ (by omega) (by omega) q2 q1 q3 (by simp)
theorem Key_spec {h : H} {c : Cel} {Q : ByteArray -> Int -> H -> Prop} (k0 : mayC c ≠ 0 -> ∀ h', Ext h h' -> Q ⟨#[]⟩ (mayC c) h') (k1 : mayC c = 0 -> ∀ h', Ext h h' -> Q ⟨(keyL c).toArray⟩ 0 h') : F.xao c h Q := by
  unfold F.xao
  refine new_of fun n h1 e1 e2 e3 e4 => ?_
  refine ⟨c, e2.cells3, mayC_spec fun h2 f1 => ?_⟩
  have e5 := e3.trans f1
  have bl : Blk h2 n c.cells.toArray tn_api_Cell := f1.block e2 (fun f => f)
  refine ⟨fun g => k0 (by simpa using g) h2 e5, fun g => ?_⟩
  have hm : mayC c = 0 := by simpa using g
  simp only [add_lit, Nat.zero_add]
  rw [ldI_iff (bl.cell (i := 0) (v := .int .i64 c.View) rfl)]
  have hv : 0 <= c.View ∧ c.View <= 4 ∧ c.Key.size <= 32 := by
    unfold mayC at hm
    split at hm
    · omega
    · split at hm
      · omega
      · omega
  have hw : IntKind.wrap .u8 c.View = ((UInt8.ofNat c.View.toNat).toNat : Int) := by rw [u8_of, Int.toNat_of_nonneg hv.1]
  rw [hw]
  refine newL_of fun x h3 g1 g2 g3 g4 => ?_
  have bl3 : Blk h3 n c.cells.toArray tn_api_Cell := g3.block bl (fun f => f)
  rw [ldS_iff (bl3.cell (i := 1) (v := .string c.Key) rfl)]
  have hs := e5.size
  have hs3 := e3.size
  have hf1 := f1.size
  refine ⟨c.Key.size + 1, ?_⟩
  refine key_loop (h0 := h) (pre := UInt8.ofNat c.View.toNat) hv.2.2 (fun h' e => k1 hm h' e) (by omega) _ 0 h3 _ (by omega) (by omega) (e5.trans g3) bl3 (by omega) (show Owns h3 ⟨some ⟨x, 0, none⟩, 1, 1⟩ 5 1 [.int .u8 ((UInt8.ofNat c.View.toNat).toNat : Int)] from blk_owns (m := 1) g2 rfl (by simp [maxLen])) (fun b hb => by simp [Sl.blk] at hb; omega) (by simp [Sl.blk]; omega)
def unesc : List UInt8 -> Except Int (List UInt8 × List UInt8)
  | [] => .error 11
  | b :: r => if b ≠ 0 then (match unesc r with | .ok p => .ok (b :: p.1, p.2) | .error e => .error e) else
    match r with
    | [] => .error 11
    | x :: r' => if x = 1 then .ok ([], r') else if x ≠ 255 then .error 12 else (match unesc r' with | .ok p => .ok (0 :: p.1, p.2) | .error e => .error e)
def beV : Nat -> List UInt8 -> Nat
  | u, [] => u
  | u, b :: r => beV (u * 256 + b.toNat) r
def zeroC : Cel := ⟨0, ⟨#[]⟩, 0⟩
def startOf (u : Nat) : Int := IntKind.wrap .i64 (IntKind.wrap .u64 ((u : Int) - 9223372036854775808))
def finC (v : UInt8) (key t : List UInt8) : Cel × Int :=
  if t.length < 8 then (zeroC, 11) else if t.length > 8 then (zeroC, 13) else
  if mayC ⟨(v.toNat : Int), ⟨key.toArray⟩, startOf (beV 0 t)⟩ ≠ 0 then (zeroC, mayC ⟨(v.toNat : Int), ⟨key.toArray⟩, startOf (beV 0 t)⟩) else (⟨(v.toNat : Int), ⟨key.toArray⟩, startOf (beV 0 t)⟩, 0)
def cellM : List UInt8 -> Cel × Int
  | [] => (zeroC, 11)
  | v :: r => match unesc r with
    | .error e => (zeroC, e)
    | .ok p => finC v p.1 p.2
theorem unesc_ne {b : UInt8} {r : List UInt8} (h : b ≠ 0) : unesc (b :: r) = (match unesc r with | .ok p => .ok (b :: p.1, p.2) | .error e => .error e) := by
  rw [unesc.eq_def]; simp only [if_pos h]
theorem cellM_cons (v : UInt8) (r : List UInt8) : cellM (v :: r) = (match unesc r with | .error e => (zeroC, e) | .ok p => finC v p.1 p.2) := rfl
theorem or_byte {u : Nat} {b : UInt8} (hu : u < 72057594037927936) : bitsOf .or .u64 (IntKind.wrap .u64 ((u : Int) * (2 ^ (min (8 : Int).toNat (IntKind.bits .u64)) : Int))) (IntKind.wrap .u64 (b.toNat : Int)) = ((u * 256 + b.toNat : Nat) : Int) := by
  have hb : b.toNat < 256 := b.toNat_lt
  have e1 : IntKind.wrap .u64 ((u : Int) * (2 ^ (min (8 : Int).toNat (IntKind.bits .u64)) : Int)) = ((u * 256 : Nat) : Int) := by
    rw [show (2 ^ (min (8 : Int).toNat (IntKind.bits .u64)) : Int) = 256 from by simp [IntKind.bits], wrap_u64]; omega
  have e2 : IntKind.wrap .u64 (b.toNat : Int) = ((b.toNat : Nat) : Int) := by rw [wrap_u64]; omega
  rw [e1, e2]
  simp only [bitsOf]
  rw [BitVec.ofInt_natCast, BitVec.ofInt_natCast, BitVec.toNat_or, BitVec.toNat_ofNat, BitVec.toNat_ofNat, wrap_u64]
  have e3 : u * 256 % 2 ^ (IntKind.bits .u64) = u * 256 := Nat.mod_eq_of_lt (by simp [IntKind.bits]; omega)
  have e4 : b.toNat % 2 ^ (IntKind.bits .u64) = b.toNat := Nat.mod_eq_of_lt (by simp [IntKind.bits]; omega)
  rw [e3, e4]
  have e5 : u * 256 ||| b.toNat = u * 256 + b.toNat := by
    have := Nat.two_pow_add_eq_or_of_lt (i := 8) hb u
    rw [show (2 : Nat) ^ 8 * u = u * 256 from by omega] at this
    exact this.symm
  rw [e5]; omega
theorem st_cell {h : H} {n : Nat} {c d : Cel} {K : H -> Prop} (b : Blk h n c.cells.toArray tn_api_Cell) (k : ∀ h', Blk h' n d.cells.toArray tn_api_Cell -> Only (· = n) h h' -> h'.size = h.size -> K h') : stH h ⟨n, 0, none⟩ d.cells K :=
  stH_of b (by simp [S_api_Cell.cells]) fun h' q1 q2 q3 => k h' (by rw [writeA_all (by simp [S_api_Cell.cells])] at q1; exact q1) q2 q3
theorem st_key {h : H} {n : Nat} {c : Cel} {s : ByteArray} {K : H -> Prop} (b : Blk h n c.cells.toArray tn_api_Cell) (k : ∀ h', Blk h' n (⟨c.View, s, c.Start⟩ : Cel).cells.toArray tn_api_Cell -> Only (· = n) h h' -> h'.size = h.size -> K h') : stH h ⟨n, 1, none⟩ [.string s] K :=
  stH_of b (by simp [S_api_Cell.cells]) fun h' q1 q2 q3 => k h' (by
    have : writeA (S_api_Cell.cells c).toArray 1 [.string s] = (⟨c.View, s, c.Start⟩ : Cel).cells.toArray := by simp [writeA, S_api_Cell.cells]
    rw [this] at q1; exact q1) q2 q3
theorem st_start {h : H} {n : Nat} {c : Cel} {u : Int} {K : H -> Prop} (b : Blk h n c.cells.toArray tn_api_Cell) (k : ∀ h', Blk h' n (⟨c.View, c.Key, u⟩ : Cel).cells.toArray tn_api_Cell -> Only (· = n) h h' -> h'.size = h.size -> K h') : stH h ⟨n, 2, none⟩ [.int .i64 u] K :=
  stH_of b (by simp [S_api_Cell.cells]) fun h' q1 q2 q3 => k h' (by
    have : writeA (S_api_Cell.cells c).toArray 2 [.int .i64 u] = (⟨c.View, c.Key, u⟩ : Cel).cells.toArray := by simp [writeA, S_api_Cell.cells]
    rw [this] at q1; exact q1) q2 q3
theorem told_err {h0 h : H} {n : Nat} {c : Cel} {e : Int} {Q : Cel -> Int -> H -> Prop} (k : ∀ h', Ext h0 h' -> Q zeroC e h') (e0 : Ext h0 h) (hn : h0.size <= n) (b : Blk h n c.cells.toArray tn_api_Cell) :
    stH h ⟨n, 0, none⟩ ((⟨0, (⟨#[]⟩ : ByteArray), 0⟩ : S_api_Cell).cells) fun h13 => ld_S_api_Cell h13 ⟨n, 0, none⟩ fun y14 => Q y14 e h13 :=
  st_cell b fun h' q1 q2 q3 => ⟨zeroC, q1.cells3, k h' (e0.step q2 fun m hm e => by omega)⟩
theorem cell_tail {h0 : H} {str : ByteArray} {n2 n4 : Nat} {Q : Cel -> Int -> H -> Prop} {v : UInt8} {key : List UInt8} (hs : str.size < 1000000000000000000) (hn2 : h0.size <= n2) (hn4 : h0.size <= n4) (hne : n2 ≠ n4) {U : Nat}
    (k : ∀ h', Ext h0 h' -> Q (if mayC ⟨(v.toNat : Int), ⟨key.toArray⟩, startOf U⟩ ≠ 0 then (zeroC, mayC ⟨(v.toNat : Int), ⟨key.toArray⟩, startOf U⟩) else (⟨(v.toNat : Int), ⟨key.toArray⟩, startOf U⟩, 0)).1 (if mayC ⟨(v.toNat : Int), ⟨key.toArray⟩, startOf U⟩ ≠ 0 then (zeroC, mayC ⟨(v.toNat : Int), ⟨key.toArray⟩, startOf U⟩) else ((⟨(v.toNat : Int), ⟨key.toArray⟩, startOf U⟩ : Cel), 0)).2 h') :
    ∀ (m i u : Nat) (h : H) (s : Sl) (c2 : Cel), Ext h0 h -> i <= str.size -> str.size <= i + 8 -> u < 256 ^ (i + 8 - str.size) -> beV u (str.data.toList.drop i) = U -> str.size - i < m -> Blk h n2 c2.cells.toArray tn_api_Cell -> Blk h n4 (⟨(v.toNat : Int), ⟨#[]⟩, 0⟩ : Cel).cells.toArray tn_api_Cell -> Reads h s 1 (key.flatMap cU) ->
    F.xan.l2 Q m str ⟨n2, 0, none⟩ ⟨n4, 0, none⟩ (i : Int) s (u : Int) h
  | 0, i, u, h, s, c2, _, _, _, _, _, hm, _, _, _ => by omega
  | m + 1, i, u, h, s, c2, e0, hi, hi8, hu, hU, hm, b2, b4, rd => by
    unfold F.xan.l2
    simp only [decide_eq_true_eq, decide_eq_false_iff_not]
    refine ⟨fun g => ⟨by omega, ?_⟩, fun g => ?_⟩
    · obtain ⟨b, hb⟩ : ∃ b, str.data.toList[i]? = some b := ⟨_, List.getElem?_eq_getElem (by rw [← size_data]; omega)⟩
      refine idxS_of hb rfl ?_
      have hd : str.data.toList.drop i = b :: str.data.toList.drop (i + 1) := by
        obtain ⟨hh, rfl⟩ := List.getElem?_eq_some_iff.1 hb
        exact List.drop_eq_getElem_cons hh
      rw [hd, beV] at hU
      have hp : 256 ^ (i + 8 - str.size) <= 256 ^ 7 := Nat.pow_le_pow_right (by omega) (by omega)
      rw [or_byte (by have : (256 : Nat) ^ 7 = 72057594037927936 := by decide
                      omega), show IntKind.wrap .i64 ((i : Int) + 1) = ((i + 1 : Nat) : Int) from by rw [w64 (by omega) (by omega)]; omega]
      have hbl := b.toNat_lt
      refine cell_tail hs hn2 hn4 hne k m (i + 1) _ h s c2 e0 (by omega) (by omega) ?_ hU (by omega) b2 b4 rd
      rw [show i + 1 + 8 - str.size = (i + 8 - str.size) + 1 from by omega, Nat.pow_succ]
      have : (u + 1) * 256 <= 256 ^ (i + 8 - str.size) * 256 := Nat.mul_le_mul_right _ hu
      omega
    · have hii : i = str.size := by omega
      subst hii
      have hd : str.data.toList.drop str.size = [] := List.drop_eq_nil_of_le (by rw [← size_data]; omega)
      rw [hd, beV] at hU
      subst hU
      refine cvtT_of (l := key) el_Sluint8.slice Tryz.underlying5 Tryz.underlying9 rd ?_
      simp only [add_lit, Nat.zero_add]
      refine st_key b4 fun h1 p1 p2 p3 => st_start p1 fun h2 p4 p5 p6 => ?_
      have e2 : Ext h0 h2 := (e0.step p2 fun m hm e => by omega).step p5 fun m hm e => by omega
      have b22 : Blk h2 n2 c2.cells.toArray tn_api_Cell := p5.block (p2.block b2 hne) hne
      refine ⟨_, p4.cells3, mayC_spec fun h3 f1 => ?_⟩
      have b23 : Blk h3 n2 c2.cells.toArray tn_api_Cell := f1.block b22 (fun f => f)
      have e3 := e2.trans f1
      refine ⟨fun g2 => ?_, fun g2 => ?_⟩
      · have g2 : mayC ⟨(v.toNat : Int), ⟨key.toArray⟩, startOf u⟩ ≠ 0 := by simpa [startOf] using g2
        simp only [if_pos g2] at k
        exact told_err k e3 hn2 b23
      · have g2 : ¬ mayC ⟨(v.toNat : Int), ⟨key.toArray⟩, startOf u⟩ ≠ 0 := by simpa [startOf] using g2
        simp only [if_neg g2] at k
        refine ⟨_, Blk.cells3 (c := ⟨(v.toNat : Int), ⟨key.toArray⟩, startOf u⟩) (f1.block p4 (fun f => f)), ?_⟩
        exact st_cell b23 fun h4 q1 q2 q3 => ⟨_, q1.cells3, k h4 (e3.step q2 fun m hm e => by omega)⟩
theorem cell_loop {h0 : H} {str : ByteArray} {n2 n4 : Nat} {Q : Cel -> Int -> H -> Prop} {v : UInt8} (hs : str.size < 140737488355328) (hn2 : h0.size <= n2) (hn4 : h0.size <= n4) (hne : n2 ≠ n4) :
    ∀ (m i : Nat) (h : H) (s : Sl) (acc : List UInt8), (∀ h', Ext h0 h' -> Q (match unesc (str.data.toList.drop i) with | .error e => (zeroC, e) | .ok p => finC v (acc ++ p.1) p.2).1 (match unesc (str.data.toList.drop i) with | .error e => (zeroC, e) | .ok p => finC v (acc ++ p.1) p.2).2 h') ->
    Ext h0 h -> i <= str.size -> acc.length <= i -> str.size - i < m -> Blk h n2 zeroC.cells.toArray tn_api_Cell -> Blk h n4 (⟨(v.toNat : Int), ⟨#[]⟩, 0⟩ : Cel).cells.toArray tn_api_Cell -> Owns h s 5 1 (acc.flatMap cU) -> Mine h0 s -> s.blk ≠ some n2 -> s.blk ≠ some n4 -> n2 < h.size -> n4 < h.size ->
    F.xan.l1 Q m str ⟨n2, 0, none⟩ ⟨n4, 0, none⟩ (i : Int) s h
  | 0, i, h, s, acc, _, _, _, _, hm, _, _, _, _, _, _, _, _ => by omega
  | m + 1, i, h, s, acc, k, e0, hi, hacc, hm, b2, b4, ow, mi, hne2, hne4, hl2, hl4 => by
    unfold F.xan.l1
    rw [beq_iff_eq, beq_eq_false_iff_ne]
    refine ⟨fun g => ?_, fun g => ?_⟩
    · have hd : str.data.toList.drop i = [] := List.drop_eq_nil_of_le (by rw [← size_data]; omega)
      rw [hd] at k
      exact told_err k e0 hn2 b2
    · obtain ⟨b, hb⟩ : ∃ b, str.data.toList[i]? = some b := ⟨_, List.getElem?_eq_getElem (by rw [← size_data]; omega)⟩
      have hd : str.data.toList.drop i = b :: str.data.toList.drop (i + 1) := by
        obtain ⟨hh, rfl⟩ := List.getElem?_eq_some_iff.1 hb
        exact List.drop_eq_getElem_cons hh
      have hb0 : (b.toNat : Int) = 0 ↔ b = 0 := by
        constructor
        · intro h; exact UInt8.toNat_inj.1 (by simpa using (by omega : b.toNat = 0))
        · intro h; subst h; rfl
      rw [hd] at k
      refine idxS_of hb rfl ?_
      rw [bne_iff_ne, bne_eq_false_iff_eq, Ne, hb0]
      refine ⟨fun g1 => idxS_of hb rfl ?_, fun g1 => ?_⟩
      · refine push_mine (f := cU) b e0 mi cU_len (by omega) el_Sluint8 ow cU_one (by omega) fun r h1 q1 q2 q3 q4 q5 => ?_
        have hrr : ∀ x, x < h.size -> s.blk ≠ some x -> r.blk ≠ some x := fun x hx hsx => by
          rcases q5 with q5 | ⟨y, q5, q6⟩
          · rw [q5]; exact hsx
          · rw [q5]; intro e; cases e; omega
        rw [show IntKind.wrap .i64 ((i : Int) + 1) = ((i + 1 : Nat) : Int) from by rw [w64 (by omega) (by omega)]; omega]
        refine cell_loop hs hn2 hn4 hne m (i + 1) h1 r (acc ++ [b]) (fun h' e => ?_) q2 (by omega) (by simp; omega) (by omega) (q4.block b2 hne2) (q4.block b4 hne4) q1 q3 (hrr n2 hl2 hne2) (hrr n4 hl4 hne4) (by have := q4.size; omega) (by have := q4.size; omega)
        have k := k h' e
        rw [unesc_ne g1] at k
        cases hu : unesc (str.data.toList.drop (i + 1)) with
        | error x => rw [hu] at k; exact k
        | ok p => rw [hu] at k; simpa using k
      · have g1 : b = 0 := Classical.not_not.1 (by simpa using g1)
        subst g1
        rw [w64 (n := (i : Int) + 1) (by omega) (by omega), w64 (n := (i : Int) + 2) (by omega) (by omega), beq_iff_eq, beq_eq_false_iff_ne]
        refine ⟨fun g2 => ?_, fun g2 => ?_⟩
        · have hd1 : str.data.toList.drop (i + 1) = [] := List.drop_eq_nil_of_le (by rw [← size_data]; omega)
          rw [hd1] at k
          exact told_err k e0 hn2 b2
        · obtain ⟨x, hx⟩ : ∃ b, str.data.toList[i + 1]? = some b := ⟨_, List.getElem?_eq_getElem (by rw [← size_data]; omega)⟩
          have hd1 : str.data.toList.drop (i + 1) = x :: str.data.toList.drop (i + 2) := by
            obtain ⟨hh, rfl⟩ := List.getElem?_eq_some_iff.1 hx
            exact List.drop_eq_getElem_cons hh
          have hx1 : (x.toNat : Int) = 1 ↔ x = 1 := by
            constructor
            · intro h; exact UInt8.toNat_inj.1 (by simpa using (by omega : x.toNat = 1))
            · intro h; subst h; rfl
          have hx2 : (x.toNat : Int) = 255 ↔ x = 255 := by
            constructor
            · intro h; exact UInt8.toNat_inj.1 (by simpa using (by omega : x.toNat = 255))
            · intro h; subst h; rfl
          rw [hd1] at k
          have hun : unesc (0 :: x :: str.data.toList.drop (i + 2)) = if x = 1 then .ok ([], str.data.toList.drop (i + 2)) else if x ≠ 255 then .error 12 else (match unesc (str.data.toList.drop (i + 2)) with | .ok p => .ok (0 :: p.1, p.2) | .error e => .error e) := by
            rw [unesc]; simp
          rw [hun] at k
          have hlen : (str.data.toList.drop (i + 2)).length = str.size - (i + 2) := by rw [List.length_drop, ← size_data]
          refine idxS_of hx (by rw [w64 (by omega) (by omega)]; omega) ?_
          rw [beq_iff_eq, beq_eq_false_iff_ne, Ne, hx1]
          refine ⟨fun g3 => ?_, fun g3 => ?_⟩
          · rw [if_pos g3] at k
            simp only [List.append_nil] at k
            unfold finC at k
            rw [hlen] at k
            rw [w64 (by omega) (by omega)]
            simp only [decide_eq_true_eq, decide_eq_false_iff_not]
            refine ⟨fun g4 => ?_, fun g4 => ⟨fun g5 => ?_, fun g5 => ⟨str.size + 1, ?_⟩⟩⟩
            · rw [if_pos (by omega)] at k; exact told_err k e0 hn2 b2
            · rw [if_neg (by omega), if_pos (by omega)] at k; exact told_err k e0 hn2 b2
            · rw [if_neg (by omega), if_neg (by omega)] at k
              rw [show (i : Int) + 2 = ((i + 2 : Nat) : Int) from by omega]
              exact cell_tail (by omega) hn2 hn4 hne k (str.size + 1) (i + 2) 0 h s zeroC e0 (by omega) (by omega) (Nat.pos_of_ne_zero (by exact Nat.pos_iff_ne_zero.1 (Nat.pow_pos (by omega)))) rfl (by omega) b2 b4 ow.reads
          · rw [if_neg g3] at k
            refine idxS_of hx (by rw [w64 (by omega) (by omega)]; omega) ?_
            rw [bne_iff_ne, bne_eq_false_iff_eq, Ne, hx2]
            refine ⟨fun g4 => ?_, fun g4 => ?_⟩
            · rw [if_pos g4] at k; exact told_err k e0 hn2 b2
            · have g4 : x = 255 := Classical.not_not.1 (by simpa using g4)
              rw [if_neg (by simpa using g4)] at k
              refine push_mine (f := cU) 0 e0 mi cU_len (by omega) el_Sluint8 ow cU_one (by omega) fun r h1 q1 q2 q3 q4 q5 => ?_
              have hrr : ∀ x, x < h.size -> s.blk ≠ some x -> r.blk ≠ some x := fun x hx hsx => by
                rcases q5 with q5 | ⟨y, q5, q6⟩
                · rw [q5]; exact hsx
                · rw [q5]; intro e; cases e; omega
              rw [show (i : Int) + 2 = ((i + 2 : Nat) : Int) from by omega]
              refine cell_loop hs hn2 hn4 hne m (i + 2) h1 r (acc ++ [0]) (fun h' e => ?_) q2 (by omega) (by simp; omega) (by omega) (q4.block b2 hne2) (q4.block b4 hne4) q1 q3 (hrr n2 hl2 hne2) (hrr n4 hl4 hne4) (by have := q4.size; omega) (by have := q4.size; omega)
              have k := k h' e
              cases hu : unesc (str.data.toList.drop (i + 2)) with
              | error x => rw [hu] at k; exact k
              | ok p => rw [hu] at k; simpa using k
theorem Cell_spec {h : H} {str : ByteArray} {Q : Cel -> Int -> H -> Prop} (hs : str.size < 140737488355328) (k : ∀ h', Ext h h' -> Q (cellM str.data.toList).1 (cellM str.data.toList).2 h') : F.xan str h Q := by
  unfold F.xan
  refine new_of fun n h1 e1 e2 e3 e4 => ?_
  have hs1 := e3.size
  rw [beq_iff_eq, beq_eq_false_iff_ne, toList_data, toList_data]
  refine ⟨fun g => ?_, fun g => ?_⟩
  · have g : str.data.toList = [] := g
    rw [g] at k
    exact told_err k e3 (by omega) (c := zeroC) e2
  · obtain ⟨v, r, hv⟩ : ∃ v r, str.data.toList = v :: r := by
      cases hh : str.data.toList with
      | nil => exact absurd hh g
      | cons v r => exact ⟨v, r, rfl⟩
    have hsz : 0 < str.size := by rw [size_data, hv]; simp
    refine idxS_of (i := 0) (b := v) (by rw [hv]; rfl) rfl ?_
    refine new_of fun n4 h2 f1 f2 f3 f4 => ?_
    have hs2 := f3.size
    refine st_cell (c := zeroC) (d := ⟨IntKind.wrap .i64 (v.toNat : Int), ⟨#[]⟩, 0⟩) f2 fun h3 q1 q2 q3 => ?_
    have hbl := v.toNat_lt
    rw [w64 (by omega) (by omega)] at q1
    refine ⟨str.size + 1, ?_⟩
    refine cell_loop (v := v) hs (n2 := n) (n4 := n4) (h0 := h) (by omega) (by omega) (by omega) _ 1 h3 _ [] (fun h' e => ?_) ((e3.trans f3).step q2 fun m hm e => by omega) (by omega) (by simp) (by omega) (q2.block (f3.block e2 (fun f => f)) (by omega)) q1 (Owns.nil _ _ _) (Mine.nil _ _ _) (by simp [Sl.blk]) (by simp [Sl.blk]) (by omega) (by omega)
    have k := k h' e
    rw [hv, cellM_cons] at k
    rw [show str.data.toList.drop 1 = r from by rw [hv]; rfl]
    cases hu : unesc r with
    | error x => rw [hu] at k; exact k
    | ok p => rw [hu] at k; simpa using k
theorem cmpB_eq : ∀ (a b : List UInt8), Lib.compareBytes a b = if a = b then 0 else if Op.bytesLess a b then -1 else 1
  | [], [] => rfl
  | [], _ :: _ => rfl
  | _ :: _, [] => rfl
  | a :: ra, b :: rb => by
    rw [Lib.compareBytes, cmpB_eq ra rb, Op.bytesLess]
    by_cases h1 : a < b
    · have : a ≠ b := fun e => by subst e; exact absurd h1 (by simp)
      simp [h1, this]
    · by_cases h2 : b < a
      · have : a ≠ b := fun e => by subst e; exact absurd h2 (by simp)
        simp [h1, h2, this]
      · have : a = b := UInt8.le_antisymm (UInt8.not_lt.1 h2) (UInt8.not_lt.1 h1)
        subst this
        simp
def cmpI (x y : Int) : Int := if x < y then -1 else if x > y then 1 else 0
def cmpC (a b : Cel) : Int := if cmpI a.View b.View ≠ 0 then cmpI a.View b.View else if cmpM a.Key b.Key ≠ 0 then cmpM a.Key b.Key else cmpI a.Start b.Start
theorem cmpInt_spec {x y : Int} {h : H} {Q : Int -> H -> Prop} (k : Q (cmpI x y) h) : F.xba x y h Q := by
  unfold F.xba F.xbb
  unfold cmpI at k
  simp only [bne_self_eq_false, Bool.false_eq_true, false_implies, true_implies, true_and, decide_eq_true_eq, decide_eq_false_iff_not]
  by_cases h1 : x < y
  · simp only [h1, if_true] at k; exact ⟨fun _ => k, fun g => absurd h1 g⟩
  · simp only [h1, if_false] at k
    by_cases h2 : x > y
    · simp only [h2, if_true] at k; exact ⟨fun g => absurd g h1, fun _ => ⟨fun _ => k, fun g => absurd h2 g⟩⟩
    · simp only [h2, if_false] at k; exact ⟨fun g => absurd g h1, fun _ => ⟨fun g => absurd g h2, fun _ => k⟩⟩
theorem cmpInt64_spec {x y : Int} {h : H} {Q : Int -> H -> Prop} (k : Q (cmpI x y) h) : F.xcs x y h Q := by
  unfold F.xcs F.xcf
  unfold cmpI at k
  simp only [bne_self_eq_false, Bool.false_eq_true, false_implies, true_implies, true_and, decide_eq_true_eq, decide_eq_false_iff_not]
  by_cases h1 : x < y
  · simp only [h1, if_true] at k; exact ⟨fun _ => k, fun g => absurd h1 g⟩
  · simp only [h1, if_false] at k
    by_cases h2 : x > y
    · simp only [h2, if_true] at k; exact ⟨fun g => absurd g h1, fun _ => ⟨fun _ => k, fun g => absurd h2 g⟩⟩
    · simp only [h2, if_false] at k; exact ⟨fun g => absurd g h1, fun _ => ⟨fun g => absurd g h2, fun _ => k⟩⟩
theorem or3_spec {n : Nat} {a b c : Int} {h : H} {Q : Int -> H -> Prop} (bl : Blk h n #[.int .i64 a, .int .i64 b, .int .i64 c] 3) (k : Q (if a ≠ 0 then a else if b ≠ 0 then b else c) h) : F.xam ⟨some ⟨n, 0, none⟩, 3, 3⟩ h Q := by
  unfold F.xam
  refine ⟨4, ?_⟩
  have c0 : cellH h ⟨n, 0, none⟩ = some (.int .i64 a) := bl.cell rfl
  have c1 : cellH h ⟨n, 1, none⟩ = some (.int .i64 b) := bl.cell rfl
  have c2 : cellH h ⟨n, 2, none⟩ = some (.int .i64 c) := bl.cell rfl
  unfold F.xam.l1
  refine ⟨fun _ => ?_, fun g => by simp at g⟩
  refine idxA_of (i := 0) rfl (by simp) rfl ?_
  rw [Nat.zero_mul, ldI_iff c0, bne_iff_ne, bne_eq_false_iff_eq]
  refine ⟨fun g => by rw [if_pos g] at k; exact k, fun g => ?_⟩
  rw [if_neg (by simpa using g)] at k
  rw [show IntKind.wrap .i64 (0 + 1) = ((1 : Nat) : Int) from by decide]
  unfold F.xam.l1
  refine ⟨fun _ => ?_, fun g => by simp at g⟩
  refine idxA_of (i := 1) rfl (by simp) rfl ?_
  rw [Nat.one_mul, ldI_iff c1, bne_iff_ne, bne_eq_false_iff_eq]
  refine ⟨fun g => by rw [if_pos g] at k; exact k, fun g => ?_⟩
  rw [if_neg (by simpa using g)] at k
  rw [show IntKind.wrap .i64 (((1 : Nat) : Int) + 1) = ((2 : Nat) : Int) from by decide]
  unfold F.xam.l1
  refine ⟨fun _ => ?_, fun g => by simp at g⟩
  refine idxA_of (i := 2) rfl (by simp) rfl ?_
  rw [show 2 * 1 = 2 from rfl, ldI_iff c2, bne_iff_ne, bne_eq_false_iff_eq]
  refine ⟨fun g => k, fun g => ?_⟩
  rw [show IntKind.wrap .i64 (((2 : Nat) : Int) + 1) = ((3 : Nat) : Int) from by decide]
  unfold F.xam.l1
  refine ⟨fun g => by simp at g, fun _ => ?_⟩
  rw [g] at k; exact k
theorem Compare_spec {a b : Cel} {h : H} {Q : Int -> H -> Prop} (k : ∀ h', Ext h h' -> Q (cmpC a b) h') : F.xbu a b h Q := by
  unfold F.xbu
  refine new_of fun n h1 e1 e2 e3 e4 => new_of fun m h3 f1 f2 f3 f4 => ?_
  have b1 : Blk h3 n a.cells.toArray tn_api_Cell := f3.block e2 (fun f => f)
  have b2 : Blk h3 m b.cells.toArray tn_api_Cell := f2
  have a0 : cellH h3 ⟨n, 0, none⟩ = some (.int .i64 a.View) := b1.cell rfl
  have a1 : cellH h3 ⟨n, 1, none⟩ = some (.string a.Key) := b1.cell rfl
  have a2 : cellH h3 ⟨n, 2, none⟩ = some (.int .i64 a.Start) := b1.cell rfl
  have c0 : cellH h3 ⟨m, 0, none⟩ = some (.int .i64 b.View) := b2.cell rfl
  have c1 : cellH h3 ⟨m, 1, none⟩ = some (.string b.Key) := b2.cell rfl
  have c2 : cellH h3 ⟨m, 2, none⟩ = some (.int .i64 b.Start) := b2.cell rfl
  simp only [add_lit, Nat.zero_add, ldI_iff a0, ldI_iff c0, ldS_iff a1, ldS_iff c1, ldI_iff a2, ldI_iff c2]
  refine cmpInt_spec ⟨c2, a2, c1, a1, ?_⟩
  unfold F.xcw F.xcv
  refine ⟨c2, a2, cmpInt64_spec ?_⟩
  refine newL_of fun q h5 g1 g2 g3 g4 => ?_
  exact or3_spec g2 (k h5 ((e3.trans f3).trans g3))
theorem cmpC_self (a : Cel) : cmpC a a = 0 := by
  unfold cmpC cmpI cmpM
  rw [cmpB_eq]; simp
theorem cB_zero {x y : List UInt8} : Lib.compareBytes x y = 0 ↔ x = y := by
  rw [cmpB_eq]
  split
  · rename_i h; simp [h]
  · rename_i h; split <;> simp [h]
theorem u8_tri (a b : UInt8) : a < b ∨ a = b ∨ b < a := by
  by_cases h1 : a < b
  · exact .inl h1
  · by_cases h2 : b < a
    · exact .inr (.inr h2)
    · exact .inr (.inl (UInt8.le_antisymm (UInt8.not_lt.1 h2) (UInt8.not_lt.1 h1)))
theorem u8_asym {a b : UInt8} (h : a < b) : ¬ b < a := fun h2 => by
  rw [UInt8.lt_iff_toNat_lt] at h h2; omega
theorem u8_irr (a : UInt8) : ¬ a < a := fun h => by
  rw [UInt8.lt_iff_toNat_lt] at h; omega
theorem cB_anti : ∀ (x y : List UInt8), Lib.compareBytes x y = - Lib.compareBytes y x
  | [], [] => rfl
  | [], _ :: _ => rfl
  | _ :: _, [] => rfl
  | a :: x, b :: y => by
    have ih := cB_anti x y
    simp only [Lib.compareBytes]
    rcases u8_tri a b with h | h | h
    · simp [h, u8_asym h]
    · subst h; simp [u8_irr, ih]
    · simp [h, u8_asym h]
theorem cB_range (x y : List UInt8) : Lib.compareBytes x y = -1 ∨ Lib.compareBytes x y = 0 ∨ Lib.compareBytes x y = 1 := by
  rw [cmpB_eq]; split
  · simp
  · split <;> simp
theorem cB_trans : ∀ (x y z : List UInt8), Lib.compareBytes x y = -1 -> Lib.compareBytes y z = -1 -> Lib.compareBytes x z = -1
  | [], [], z, h, _ => by simp [Lib.compareBytes] at h
  | [], b :: y, [], _, h => by simp [Lib.compareBytes] at h
  | [], b :: y, c :: z, _, _ => rfl
  | a :: x, [], z, h, _ => by simp [Lib.compareBytes] at h
  | a :: x, b :: y, [], _, h => by simp [Lib.compareBytes] at h
  | a :: x, b :: y, c :: z, h1, h2 => by
    simp only [Lib.compareBytes] at h1 h2 ⊢
    rcases u8_tri a b with g | g | g
    · rcases u8_tri b c with g2 | g2 | g2
      · have : a < c := by rw [UInt8.lt_iff_toNat_lt] at *; omega
        simp [this]
      · subst g2; simp [g]
      · simp [g2, u8_asym g2] at h2
    · subst g
      simp only [u8_irr, if_false] at h1
      rcases u8_tri a c with g2 | g2 | g2
      · simp [g2]
      · subst g2
        simp only [u8_irr, if_false] at h2 ⊢
        exact cB_trans x y z h1 h2
      · simp [g2, u8_asym g2] at h2
    · simp [g, u8_asym g] at h1
theorem cI_anti (x y : Int) : cmpI x y = - cmpI y x := by
  unfold cmpI
  rcases Int.lt_trichotomy x y with h | h | h
  · rw [if_pos h, if_neg (by omega), if_pos (by omega)]
  · subst h; simp
  · rw [if_neg (by omega), if_pos (by omega), if_pos (by omega)]; rfl
theorem cI_zero {x y : Int} : cmpI x y = 0 ↔ x = y := by
  unfold cmpI
  split
  · constructor <;> intro <;> omega
  · split
    · constructor <;> intro <;> omega
    · constructor <;> intro <;> omega
theorem cI_range (x y : Int) : cmpI x y = -1 ∨ cmpI x y = 0 ∨ cmpI x y = 1 := by
  unfold cmpI; split
  · simp
  · split <;> simp
theorem cI_lt {x y : Int} : cmpI x y = -1 ↔ x < y := by
  unfold cmpI
  split
  · constructor <;> intro <;> omega
  · split
    · constructor <;> intro <;> omega
    · constructor <;> intro <;> omega
theorem cC_anti (a b : Cel) : cmpC a b = - cmpC b a := by
  unfold cmpC cmpM
  rw [cI_anti a.View b.View, cB_anti a.Key.data.toList b.Key.data.toList, cI_anti a.Start b.Start]
  split <;> split <;> simp_all <;> omega
theorem cC_range (a b : Cel) : cmpC a b = -1 ∨ cmpC a b = 0 ∨ cmpC a b = 1 := by
  unfold cmpC cmpM
  split
  · exact cI_range _ _
  · split
    · exact cB_range _ _
    · exact cI_range _ _
theorem key_ext {a b : ByteArray} (h : a.data.toList = b.data.toList) : a = b := by
  obtain ⟨x⟩ := a
  obtain ⟨y⟩ := b
  congr 1
  exact Array.toList_inj.1 h
theorem cC_zero {a b : Cel} : cmpC a b = 0 ↔ a = b := by
  constructor
  · intro h
    unfold cmpC cmpM at h
    split at h
    · rename_i g; exact absurd h g
    · rename_i g
      split at h
      · rename_i g2; exact absurd h g2
      · rename_i g2
        have h1 := cI_zero.1 (Classical.not_not.1 g)
        have h2 := key_ext (cB_zero.1 (Classical.not_not.1 g2))
        have h3 := cI_zero.1 h
        obtain ⟨v, k, s⟩ := a
        obtain ⟨v', k', s'⟩ := b
        simp only at h1 h2 h3
        rw [h1, h2, h3]
  · rintro rfl; exact cmpC_self a
theorem cC_lt {a b : Cel} : cmpC a b = -1 ↔ cmpI a.View b.View = -1 ∨ (a.View = b.View ∧ (Lib.compareBytes a.Key.data.toList b.Key.data.toList = -1 ∨ (a.Key.data.toList = b.Key.data.toList ∧ a.Start < b.Start))) := by
  unfold cmpC cmpM
  have r1 := cI_range a.View b.View
  have r2 := cB_range a.Key.data.toList b.Key.data.toList
  have z1 := cI_zero (x := a.View) (y := b.View)
  have z2 := cB_zero (x := a.Key.data.toList) (y := b.Key.data.toList)
  have l3 := cI_lt (x := a.Start) (y := b.Start)
  by_cases h1 : cmpI a.View b.View = 0
  · rw [if_neg (by simp [h1])]
    have e1 := z1.1 h1
    by_cases h2 : Lib.compareBytes a.Key.data.toList b.Key.data.toList = 0
    · rw [if_neg (by simp [h2])]
      have e2 := z2.1 h2
      rw [l3]
      constructor
      · intro h; exact .inr ⟨e1, .inr ⟨e2, h⟩⟩
      · intro h
        rcases h with h | ⟨_, h | h⟩
        · omega
        · omega
        · exact h.2
    · rw [if_pos h2]
      constructor
      · intro h; exact .inr ⟨e1, .inl h⟩
      · intro h
        rcases h with h | ⟨_, h | h⟩
        · omega
        · exact h
        · exact absurd (z2.2 h.1) h2
  · rw [if_pos h1]
    constructor
    · intro h; exact .inl h
    · intro h
      rcases h with h | h
      · exact h
      · exact absurd (z1.2 h.1) h1
theorem cC_trans {a b c : Cel} (h1 : cmpC a b = -1) (h2 : cmpC b c = -1) : cmpC a c = -1 := by
  rw [cC_lt] at *
  rcases h1 with h1 | ⟨e1, h1⟩
  · rw [cI_lt] at h1
    rcases h2 with h2 | ⟨e2, _⟩
    · rw [cI_lt] at h2; exact .inl (cI_lt.2 (by omega))
    · exact .inl (cI_lt.2 (by omega))
  · rcases h2 with h2 | ⟨e2, h2⟩
    · rw [cI_lt] at h2; exact .inl (cI_lt.2 (by omega))
    · refine .inr ⟨by omega, ?_⟩
      rcases h1 with h1 | ⟨k1, h1⟩
      · rcases h2 with h2 | ⟨k2, h2⟩
        · exact .inl (cB_trans _ _ _ h1 h2)
        · rw [← k2]; exact .inl h1
      · rcases h2 with h2 | ⟨k2, h2⟩
        · rw [k1]; exact .inl h2
        · exact .inr ⟨k1.trans k2, by omega⟩
theorem cC_le_trans {a b c : Cel} (h1 : cmpC a b <= 0) (h2 : cmpC b c <= 0) : cmpC a c <= 0 := by
  rcases cC_range a b with r1 | r1 | r1
  · rcases cC_range b c with r2 | r2 | r2
    · rw [cC_trans r1 r2]; omega
    · rw [← cC_zero.1 r2, r1]; omega
    · omega
  · rw [cC_zero.1 r1]; exact h2
  · omega
theorem esc_cmp : ∀ (k1 k2 t1 t2 : List UInt8), Lib.compareBytes (escL k1 ++ 0 :: 1 :: t1) (escL k2 ++ 0 :: 1 :: t2) = if Lib.compareBytes k1 k2 ≠ 0 then Lib.compareBytes k1 k2 else Lib.compareBytes t1 t2
  | [], [], t1, t2 => by simp [escL, Lib.compareBytes, u8_irr]
  | [], b :: k2, t1, t2 => by
    simp only [escL]
    by_cases hb : b = 0
    · subst hb; simp [Lib.compareBytes, u8_irr, show (1 : UInt8) < 255 from by decide]
    · have : (0 : UInt8) < b := by
        rcases u8_tri 0 b with h | h | h
        · exact h
        · exact absurd h.symm hb
        · rw [UInt8.lt_iff_toNat_lt] at h; simp at h
      simp [hb, Lib.compareBytes, this]
  | a :: k1, [], t1, t2 => by
    simp only [escL]
    by_cases hb : a = 0
    · subst hb; simp [Lib.compareBytes, u8_irr, show (1 : UInt8) < 255 from by decide, show ¬ (255 : UInt8) < 1 from by decide]
    · have : (0 : UInt8) < a := by
        rcases u8_tri 0 a with h | h | h
        · exact h
        · exact absurd h.symm hb
        · rw [UInt8.lt_iff_toNat_lt] at h; simp at h
      simp [hb, Lib.compareBytes, this, u8_asym this]
  | a :: k1, b :: k2, t1, t2 => by
    have ih := esc_cmp k1 k2 t1 t2
    have pos : ∀ x : UInt8, x ≠ 0 -> (0 : UInt8) < x := fun x hx => by
      rcases u8_tri 0 x with h | h | h
      · exact h
      · exact absurd h.symm hx
      · rw [UInt8.lt_iff_toNat_lt] at h; simp at h
    rcases u8_tri a b with h | h | h
    · have hb0 : b ≠ 0 := fun e => by subst e; rw [UInt8.lt_iff_toNat_lt] at h; simp at h
      by_cases ha : a = 0
      · subst ha; simp [escL, hb0, Lib.compareBytes, h]
      · simp [escL, hb0, ha, Lib.compareBytes, h]
    · subst h
      by_cases ha : a = 0
      · subst ha; simp [escL, Lib.compareBytes, u8_irr, ih]
      · simp [escL, ha, Lib.compareBytes, u8_irr, ih]
    · have ha0 : a ≠ 0 := fun e => by subst e; rw [UInt8.lt_iff_toNat_lt] at h; simp at h
      by_cases hb : b = 0
      · subst hb; simp [escL, ha0, Lib.compareBytes, h, u8_asym h]
      · simp [escL, ha0, hb, Lib.compareBytes, h, u8_asym h]
def cmpN (u v : Nat) : Int := if u < v then -1 else if v < u then 1 else 0
theorem be_cmp : ∀ (j u v : Nat), Lib.compareBytes (beT u j) (beT v j) = cmpN (u % 2 ^ (8 * j)) (v % 2 ^ (8 * j))
  | 0, u, v => by simp [beT, Lib.compareBytes, cmpN, Nat.mod_one]
  | j + 1, u, v => by
    have ih := be_cmp j u v
    simp only [beT, Lib.compareBytes, ih]
    have e : 2 ^ (8 * (j + 1)) = 2 ^ (8 * j) * 256 := by rw [show 8 * (j + 1) = 8 * j + 8 from by omega, Nat.pow_add]
    have hu : u % 2 ^ (8 * (j + 1)) = u % 2 ^ (8 * j) + 2 ^ (8 * j) * (u / 2 ^ (8 * j) % 256) := by rw [e, Nat.mod_mul]
    have hv : v % 2 ^ (8 * (j + 1)) = v % 2 ^ (8 * j) + 2 ^ (8 * j) * (v / 2 ^ (8 * j) % 256) := by rw [e, Nat.mod_mul]
    rw [hu, hv]
    have pu := Nat.mod_lt u (Nat.two_pow_pos (8 * j))
    have pv := Nat.mod_lt v (Nat.two_pow_pos (8 * j))
    simp only [UInt8.lt_iff_toNat_lt, UInt8.toNat_ofNat']
    have e8 : (2 : Nat) ^ 8 = 256 := by decide
    rw [e8]
    generalize u / 2 ^ (8 * j) % 256 = x at *
    generalize v / 2 ^ (8 * j) % 256 = y at *
    generalize u % 2 ^ (8 * j) = p at *
    generalize v % 2 ^ (8 * j) = q at *
    generalize 2 ^ (8 * j) = B at *
    unfold cmpN
    rcases Nat.lt_trichotomy x y with h | h | h
    · have : B * (x + 1) <= B * y := Nat.mul_le_mul_left _ h
      rw [Nat.mul_add, Nat.mul_one] at this
      rw [if_pos h, if_pos (by omega)]
    · subst h
      rw [if_neg (by omega), if_neg (by omega)]
      by_cases h1 : p < q
      · rw [if_pos h1, if_pos (by omega)]
      · rw [if_neg h1, if_neg (show ¬ (p + B * x < q + B * x) by omega)]
        by_cases h2 : q < p
        · rw [if_pos h2, if_pos (by omega)]
        · rw [if_neg h2, if_neg (by omega)]
    · have : B * (y + 1) <= B * x := Nat.mul_le_mul_left _ h
      rw [Nat.mul_add, Nat.mul_one] at this
      rw [if_neg (by omega), if_pos h, if_neg (by omega), if_pos (by omega)]
abbrev I64n (n : Int) : Prop := -9223372036854775808 <= n ∧ n < 9223372036854775808
theorem upU_val {n : Int} (h : I64n n) : (upU n : Int) = n + 9223372036854775808 := by
  rw [upU_eq, wrap_u64, wrap_u64]; omega
theorem may_view {c : Cel} (h : mayC c = 0) : 0 <= c.View ∧ c.View <= 4 ∧ c.Key.size <= 32 := by
  unfold mayC at h
  split at h
  · omega
  · split at h
    · omega
    · omega
theorem key_cmp {a b : Cel} (ha : mayC a = 0) (hb : mayC b = 0) (ia : I64n a.Start) (ib : I64n b.Start) : Lib.compareBytes (keyL a) (keyL b) = cmpC a b := by
  obtain ⟨a1, a2, a3⟩ := may_view ha
  obtain ⟨b1, b2, b3⟩ := may_view hb
  unfold keyL cmpC cmpM
  simp only [Lib.compareBytes, List.append_assoc, List.cons_append, List.nil_append]
  rw [esc_cmp, be_cmp]
  have ua := upU_val ia
  have ub := upU_val ib
  have e8 : (2 : Nat) ^ (8 * 8) = 18446744073709551616 := by decide
  rw [e8, Nat.mod_eq_of_lt (by omega), Nat.mod_eq_of_lt (by omega)]
  have hN : cmpN (upU a.Start) (upU b.Start) = cmpI a.Start b.Start := by
    unfold cmpN cmpI
    by_cases h1 : a.Start < b.Start
    · rw [if_pos h1, if_pos (by omega)]
    · rw [if_neg h1, if_neg (by omega)]
      by_cases h2 : a.Start > b.Start
      · rw [if_pos h2, if_pos (by omega)]
      · rw [if_neg h2, if_neg (by omega)]
  rw [hN]
  have va : (UInt8.ofNat a.View.toNat).toNat = a.View.toNat := by rw [UInt8.toNat_ofNat']; omega
  have vb : (UInt8.ofNat b.View.toNat).toNat = b.View.toNat := by rw [UInt8.toNat_ofNat']; omega
  simp only [UInt8.lt_iff_toNat_lt, va, vb]
  unfold cmpI
  rcases Int.lt_trichotomy a.View b.View with h | h | h
  · rw [if_pos (by omega), if_pos (by rw [if_pos h]; omega), if_pos h]
  · rw [h, if_neg (by omega), if_neg (by omega)]; simp
  · rw [if_neg (by omega), if_pos (by omega), if_pos (by rw [if_neg (by omega), if_pos (by omega)]; omega), if_neg (by omega), if_pos (by omega)]
theorem unesc_esc : ∀ (k t : List UInt8), unesc (escL k ++ 0 :: 1 :: t) = .ok (k, t)
  | [], t => by
    show unesc (0 :: 1 :: t) = _
    rw [unesc.eq_def]; simp
  | b :: k, t => by
    have ih := unesc_esc k t
    by_cases hb : b = 0
    · subst hb
      simp only [escL, if_true, List.cons_append]
      rw [unesc.eq_def]
      simp [ih]
    · simp only [escL, if_neg hb, List.cons_append]
      rw [unesc_ne hb, ih]
theorem beV_beT : ∀ (j u w : Nat), beV w (beT u j) = w * 2 ^ (8 * j) + u % 2 ^ (8 * j)
  | 0, u, w => by simp [beT, beV, Nat.mod_one]
  | j + 1, u, w => by
    rw [beT, beV, beV_beT j, UInt8.toNat_ofNat']
    have e : 2 ^ (8 * (j + 1)) = 2 ^ (8 * j) * 256 := by rw [show 8 * (j + 1) = 8 * j + 8 from by omega, Nat.pow_add]
    have hu : u % 2 ^ (8 * (j + 1)) = u % 2 ^ (8 * j) + 2 ^ (8 * j) * (u / 2 ^ (8 * j) % 256) := by rw [e, Nat.mod_mul]
    have e8 : (2 : Nat) ^ 8 = 256 := by decide
    rw [hu, e, e8, Nat.add_mul, Nat.mul_comm (u / 2 ^ (8 * j) % 256), Nat.mul_assoc w 256, Nat.mul_comm 256 (2 ^ (8 * j))]
    omega
theorem cell_back {c : Cel} (h : mayC c = 0) (i : I64n c.Start) : cellM (keyL c) = (c, 0) := by
  obtain ⟨a1, a2, a3⟩ := may_view h
  have u := upU_val i
  unfold keyL
  rw [cellM_cons]
  simp only [List.append_assoc, List.cons_append, List.nil_append]
  rw [unesc_esc]
  simp only [finC, beT_len]
  rw [if_neg (by omega), if_neg (by omega), beV_beT]
  have e8 : (2 : Nat) ^ (8 * 8) = 18446744073709551616 := by decide
  have hs : startOf (0 * 2 ^ (8 * 8) + upU c.Start % 2 ^ (8 * 8)) = c.Start := by
    rw [e8, Nat.mod_eq_of_lt (by omega)]
    unfold startOf
    rw [wrap_u64, Nat.zero_mul, Nat.zero_add, u]
    unfold IntKind.wrap
    simp [IntKind.bits, IntKind.signed]
    omega
  rw [hs]
  have hv : (((UInt8.ofNat c.View.toNat).toNat : Nat) : Int) = c.View := by rw [UInt8.toNat_ofNat']; omega
  rw [hv]
  have hc : (⟨c.View, ⟨c.Key.data.toList.toArray⟩, c.Start⟩ : Cel) = c := by
    obtain ⟨v, ⟨k⟩, s⟩ := c
    simp
  rw [hc, if_neg (by simpa using h)]
section
variable {h0 h : H} {n m q : Nat} {a b c : Cel} {Q : Bool -> H -> Prop}
end
end Go.Proofs.YtjjchpaomgmmdaaGreat.V
