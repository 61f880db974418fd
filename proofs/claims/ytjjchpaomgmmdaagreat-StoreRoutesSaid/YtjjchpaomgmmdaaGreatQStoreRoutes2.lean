/- Parts of the proof of StoreRoutes; no condition. -/
import Derived.Test.YtjjchpaomgmmdaaGreatQStoreRoutes1
namespace Go.Proofs.YtjjchpaomgmmdaaGreat.V
open Go
set_option linter.unusedVariables false
set_option maxRecDepth 100000
def F.xcq (p0 : ByteArray) (p1 : ByteArray) (h : H) (Q : Int -> H -> Prop) : Prop :=
  F.xcu p0 p1 h fun r2 h1 =>
  Q r2 h1
theorem F.xcq_ok {p0 : ByteArray} {p1 : ByteArray} {h : H} {Q : Int -> H -> Prop} (H : F.xcq p0 p1 h Q) : Fn PP 49 ([(.string p0), (.string p1)] : List Value).toArray h fun r h' => ∃ r0, r = (.int .i64 r0) ∧ Q r0 h' := by
 unfold F.xcq at H;refine fn_of Tryz.func49 Tryz.ntmps49 rfl rfl fun w0 => (tr_sub [(0, (.string p0)), (1, (.string p1))] ⟨rfl, rfl, trivial⟩ (tr_seq (tr_region (tq (y_assign rfl) (tr_nil (tr_thenN (tr_seq (tr_region (tq (y_move rfl) (tq (y_move rfl) (tr_e (e_call Tryz.call90 rfl (F.xcu_ok H)) rfl rfl ?_)))))))))));rintro _ h1 ⟨r2, rfl, H⟩;refine tq (y_assign rfl) (tr_nil (tr_thenN (tr_ret ?_)));exact tr_ret1 rfl rfl ⟨_, rfl, H⟩
def F.xbx (p0 : Int) (h : H) (Q : Bool -> H -> Prop) : Prop :=
  Q ((p0 != p0)) h
theorem F.xbx_ok {p0 : Int} {h : H} {Q : Bool -> H -> Prop} (H : F.xbx p0 h Q) : Fn PP 91 ([(.int .i64 p0)] : List Value).toArray h fun r h' => ∃ r0, r = (.bool r0) ∧ Q r0 h' := by
 unfold F.xbx at H;refine fn_of Tryz.func91 Tryz.ntmps91 rfl rfl fun w0 => (tr_sub [(0, (.int .i64 p0))] ⟨rfl, trivial⟩ (tr_seq (tr_region (tq (y_assign rfl) (tr_nil (tr_thenN (tr_seq (tr_region (tq (y_move rfl) (tq (y_move rfl) (tq (y_neq rfl rfl) (tq (y_assign rfl) (tr_nil ?_)))))))))))));refine tr_thenN (tr_ret ?_);exact tr_ret1 rfl rfl ⟨_, rfl, H⟩
def F.xcc (p0 : Int) (p1 : Int) (h : H) (Q : Int -> H -> Prop) : Prop :=
  F.xbx p0 h fun r2 h1 =>
  F.xbx p1 h1 fun r4 h3 =>
  (r2 = true ->
  (r4 = true ->
  Q 0 h3) ∧
  (r4 = false ->
  Q (-1) h3)) ∧
  (r2 = false ->
  (r4 = true ->
  Q 1 h3) ∧
  (r4 = false ->
  ((decide (p0 < p1)) = true ->
  Q (-1) h3) ∧
  ((decide (p0 < p1)) = false ->
  ((decide (p0 > p1)) = true ->
  Q 1 h3) ∧
  ((decide (p0 > p1)) = false ->
  Q 0 h3))))
theorem F.xcc_ok {p0 : Int} {p1 : Int} {h : H} {Q : Int -> H -> Prop} (H : F.xcc p0 p1 h Q) : Fn PP 50 ([(.int .i64 p0), (.int .i64 p1)] : List Value).toArray h fun r h' => ∃ r0, r = (.int .i64 r0) ∧ Q r0 h' := by
 unfold F.xcc at H;refine fn_of Tryz.func50 Tryz.ntmps50 rfl rfl fun w0 => (tr_sub [(0, (.int .i64 p0)), (1, (.int .i64 p1))] ⟨rfl, rfl, trivial⟩ (tr_seq (tr_region (tq (y_assign rfl) (tr_nil (tr_thenN (tr_seq (tr_region (tq (y_move rfl) (tr_e (e_call Tryz.call91 rfl (F.xbx_ok H)) rfl rfl ?_))))))))));rintro _ h1 ⟨r2, rfl, H⟩;refine tq (y_assign rfl) (tr_nil (tr_thenN (tr_seq (tr_region (tq (y_move rfl) (tr_e (e_call Tryz.call91 rfl (F.xbx_ok H)) rfl rfl ?_))))));rintro _ h3 ⟨r4, rfl, H⟩;refine tq (y_assign rfl) (tr_nil (tr_thenN (tr_seq (tr_seq (tr_region (tq (y_move rfl) (tr_nil (tr_thenN ?_))))))));refine tr_cond rfl (fun g5 => ?_) (fun g5 => ?_)
 ·replace H := H.1 g5;refine tr_seq (tr_seq (tr_region (tq (y_move rfl) (tr_nil (tr_thenN ?_)))));refine tr_cond rfl (fun g6 => ?_) (fun g6 => ?_)
  ·replace H := H.1 g6;refine tr_seq (tr_region (tq (y_assign rfl) (tr_nil (tr_thenN (tr_ret (tr_thenR (tr_thenR ?_)))))));exact tr_ret1 rfl rfl ⟨_, rfl, H⟩
  ·replace H := H.2 g6;refine tr_skip (tr_thenN (tr_seq (tr_region (tq (y_assign rfl) (tr_nil (tr_thenN (tr_ret (tr_thenR ?_))))))));exact tr_ret1 rfl rfl ⟨_, rfl, H⟩
 ·replace H := H.2 g5;refine tr_skip (tr_thenN (tr_seq (tr_seq (tr_region (tq (y_move rfl) (tr_nil (tr_thenN ?_)))))));refine tr_cond rfl (fun g7 => ?_) (fun g7 => ?_)
  ·replace H := H.1 g7;refine tr_seq (tr_region (tq (y_assign rfl) (tr_nil (tr_thenN (tr_ret (tr_thenR ?_))))));exact tr_ret1 rfl rfl ⟨_, rfl, H⟩
  ·replace H := H.2 g7;refine tr_skip (tr_thenN (tr_seq (tr_seq (tr_region (tq (y_move rfl) (tq (y_move rfl) (tq (y_lss rfl rfl) (tr_nil (tr_thenN ?_)))))))));refine tr_cond rfl (fun g8 => ?_) (fun g8 => ?_)
   ·replace H := H.1 g8;refine tr_seq (tr_region (tq (y_assign rfl) (tr_nil (tr_thenN (tr_ret (tr_thenR ?_))))));exact tr_ret1 rfl rfl ⟨_, rfl, H⟩
   ·replace H := H.2 g8;refine tr_skip (tr_thenN (tr_seq (tr_seq (tr_region (tq (y_move rfl) (tq (y_move rfl) (tq (y_gtr rfl rfl) (tr_nil (tr_thenN ?_)))))))));refine tr_cond rfl (fun g9 => ?_) (fun g9 => ?_)
    ·replace H := H.1 g9;refine tr_seq (tr_region (tq (y_assign rfl) (tr_nil (tr_thenN (tr_ret (tr_thenR ?_))))));exact tr_ret1 rfl rfl ⟨_, rfl, H⟩
    ·replace H := H.2 g9;refine tr_skip (tr_thenN (tr_seq (tr_region (tq (y_assign rfl) (tr_nil (tr_thenN (tr_ret ?_)))))));exact tr_ret1 rfl rfl ⟨_, rfl, H⟩
def F.xan.l1 (Q : Int -> H -> Prop) : Nat -> Int -> Sl -> Int -> Int -> H -> Prop
  | 0, _, _, _, _, _ => False
  | q1 + 1, x3, x6, x7, x8, h =>
    ((decide (x8 < x7)) = true ->
    idxA x6 x8 1 fun a2 =>
    ldI .i64 h a2 fun y4 =>
    (((y4 != x3)) = true ->
    Q y4 h) ∧
    (((y4 != x3)) = false ->
    (F.xan.l1 Q q1) x3 x6 x7 (IntKind.wrap .i64 (x8 + 1)) h)) ∧
    ((decide (x8 < x7)) = false ->
    Q x3 h)
def F.xan (p0 : Sl) (h : H) (Q : Int -> H -> Prop) : Prop :=
  ∃ m, F.xan.l1 Q m 0 p0 (p0.len : Int) 0 h
theorem F.xan_ok {p0 : Sl} {h : H} {Q : Int -> H -> Prop} (H : F.xan p0 h Q) : Fn PP 47 ([p0.enc] : List Value).toArray h fun r h' => ∃ r0, r = (.int .i64 r0) ∧ Q r0 h' := by
 unfold F.xan at H;refine fn_of Tryz.func47 Tryz.ntmps47 rfl rfl fun w0 => (tr_sub [(0, p0.enc)] ⟨rfl, trivial⟩ (tr_seq (tr_region (tq (y_assign rfl) (tr_nil (tr_thenN (tr_seq (tr_region (tq (y_assign rfl) (tr_nil (tr_thenN (tr_seq (tr_seq ?_)))))))))))));refine tr_region (tq (y_move rfl) (tq (y_len (ts := #[]) Tryz.runUnderlying42 (o := p0.ptr) (n := p0.len) (cap := p0.cap) rfl) (tq (y_move rfl) (tr_nil (tr_thenN (tr_block ?_))))));obtain ⟨m7, H⟩ := H;refine tr_sub [(3, (.int .i64 0)), (6, p0.enc), (7, (.int .i64 (p0.len : Int))), (8, (.int .i64 0))] ⟨rfl, rfl, rfl, rfl, trivial⟩ ?_;refine tr_loop_j (fun m L' h => ∃ (x3 : Int) (x6 : Sl) (x7 : Int) (x8 : Int), L' = [(3, (.int .i64 x3)), (6, x6.enc), (7, (.int .i64 x7)), (8, (.int .i64 x8))] ∧ F.xan.l1 Q m x3 x6 x7 x8 h) ?_ ?_ m7 ⟨_, _, _, _, rfl, H⟩
 ·rintro L' h ⟨_, _, _, _, _, H⟩; exact H
 ·rintro q1 L' h ⟨x3, x6, x7, x8, rfl, H⟩;unfold F.xan.l1 at H;refine tr_seq (tr_region (tq (y_lss rfl rfl) (tr_nil (tr_thenN (tr_seq ?_)))));refine tr_cond rfl (fun g1 => ?_) (fun g1 => ?_)
  ·replace H := H.1 g1;refine tr_skip (tr_thenN (tr_seq (tr_block (tr_seq (tr_region ?_)))));obtain ⟨a2, e3, H⟩ := H;refine tq (f_idx (s := x6) Tryz.runUnderlying42 Tryz.sizeOf3 rfl rfl e3) ?_;obtain ⟨y4, k5, H⟩ := H;refine tr_h (y_ld Tryz.isAgg3 rfl) k5 rfl rfl (tq (y_assign rfl) (tr_nil (tr_thenN (tr_seq (tr_region (tq (y_move rfl) (tq (y_move rfl) (tq (y_neq rfl rfl) (tr_nil (tr_thenN ?_))))))))));refine tr_cond rfl (fun g6 => ?_) (fun g6 => ?_)
   ·replace H := H.1 g6;refine tr_seq (tr_region (tq (y_move rfl) (tq (y_assign rfl) (tr_nil (tr_thenN (tr_ret (tr_blockR (tr_thenR (tr_thenR (tr_blockR (tr_thenR ?_)))))))))));exact tr_ret1 rfl rfl ⟨_, rfl, H⟩
   ·replace H := H.2 g6;refine tr_skip (tr_blockN (tr_thenN (tr_region (tq (y_add rfl rfl) (tq (y_move rfl) (tr_nil (tr_thenN ?_)))))));exact tr_join [(3, (.int .i64 x3)), (6, x6.enc), (7, (.int .i64 x7)), (8, (.int .i64 (IntKind.wrap .i64 (x8 + 1))))] ⟨rfl, rfl, rfl, rfl, trivial⟩ ⟨_, _, _, _, rfl, H⟩
  ·replace H := H.2 g1;refine tr_exit (tr_thenE (tr_thenE (tr_hit (tr_thenN (tr_seq (tr_region (tq (y_move rfl) (tq (y_assign rfl) (tr_nil (tr_thenN (tr_ret ?_)))))))))));exact tr_ret1 rfl rfl ⟨_, rfl, H⟩
def F.xbp (p0 : S_api_Cell) (p1 : S_api_Cell) (h : H) (Q : Int -> H -> Prop) : Prop :=
  new h p0.cells.toArray ty_35 fun a2 h1 =>
  new h1 p1.cells.toArray ty_35 fun a4 h3 =>
  ldI .i64 h3 (a2.add 0) fun y5 =>
  ldI .i64 h3 (a4.add 0) fun y7 =>
  ldS h3 (a2.add 1) fun y9 =>
  ldS h3 (a4.add 1) fun y11 =>
  ldI .i64 h3 (a2.add 2) fun y13 =>
  ldI .i64 h3 (a4.add 2) fun y15 =>
  F.xba y5 y7 h3 fun r18 h17 =>
  cellH h17 (a4.add 2) = some (.int .i64 y15) ∧
  cellH h17 (a2.add 2) = some (.int .i64 y13) ∧
  cellH h17 (a4.add 1) = some (.string y11) ∧
  cellH h17 (a2.add 1) = some (.string y9) ∧
  F.xcq y9 y11 h17 fun r24 h23 =>
  cellH h23 (a4.add 2) = some (.int .i64 y15) ∧
  cellH h23 (a2.add 2) = some (.int .i64 y13) ∧
  F.xcc y13 y15 h23 fun r28 h27 =>
  newL h27 #[(.int .i64 r18), (.int .i64 r24), (.int .i64 r28)] ty_3 3 fun s30 h29 =>
  F.xan s30 h29 fun r32 h31 =>
  Q r32 h31
theorem F.xbp_ok {p0 : S_api_Cell} {p1 : S_api_Cell} {h : H} {Q : Int -> H -> Prop} (H : F.xbp p0 p1 h Q) : Fn PP 17 ([(.agg p0.cells.toArray), (.agg p1.cells.toArray)] : List Value).toArray h fun r h' => ∃ r0, r = (.int .i64 r0) ∧ Q r0 h' := by
 unfold F.xbp at H;refine fn_of Tryz.func17 Tryz.ntmps17 rfl rfl fun w0 => (tr_sub [(0, (.agg p0.cells.toArray)), (1, (.agg p1.cells.toArray))] ⟨rfl, rfl, trivial⟩ (tr_seq (tr_region (tr_e (f_box (cs := p0.cells.toArray) rfl rfl H) rfl rfl ?_))));rintro _ h1 ⟨a2, rfl, H⟩;refine tr_e (f_box (cs := p1.cells.toArray) rfl rfl H) rfl rfl ?_;rintro _ h3 ⟨a4, rfl, H⟩;refine tq (y_assign rfl) (tr_nil (tr_thenN (tr_seq (tr_draw mixed [0, 1, 0, 4, 15, 0, 32, 0, 128, 511, 0, 1024, 0, 4096, 16383, 32767, 65535, 131071] (by kernel_rfl) (g_p 0 1 rfl (by kernel_rfl) (y_fa (off := 0) Tryz.runUnderlying35 fo_35_0 rfl) rfl rfl ?_)))));obtain ⟨y5, k6, H⟩ := H;refine g_h 1 3 rfl (by kernel_rfl) (y_ld Tryz.isAgg3 rfl) k6 rfl rfl (g_p 2 7 rfl (by kernel_rfl) (y_fa (off := 0) Tryz.runUnderlying35 fo_35_0 rfl) rfl rfl ?_);obtain ⟨y7, k8, H⟩ := H;refine g_h 3 15 rfl (by kernel_rfl) (y_ld Tryz.isAgg3 rfl) k8 rfl rfl (g_p 5 47 rfl (by kernel_rfl) (y_fa (off := 1) Tryz.runUnderlying35 fo_35_1 rfl) rfl rfl ?_);obtain ⟨y9, k10, H⟩ := H;refine g_h 6 111 rfl (by kernel_rfl) (y_ld Tryz.isAgg9 rfl) k10 rfl rfl (g_p 7 239 rfl (by kernel_rfl) (y_fa (off := 1) Tryz.runUnderlying35 fo_35_1 rfl) rfl rfl ?_);obtain ⟨y11, k12, H⟩ := H;refine g_h 8 495 rfl (by kernel_rfl) (y_ld Tryz.isAgg9 rfl) k12 rfl rfl (g_p 10 1519 rfl (by kernel_rfl) (y_fa (off := 2) Tryz.runUnderlying35 fo_35_2 rfl) rfl rfl ?_);obtain ⟨y13, k14, H⟩ := H;refine g_h 11 3567 rfl (by kernel_rfl) (y_ld Tryz.isAgg2 rfl) k14 rfl rfl (g_p 12 7663 rfl (by kernel_rfl) (y_fa (off := 2) Tryz.runUnderlying35 fo_35_2 rfl) rfl rfl ?_);obtain ⟨y15, k16, H⟩ := H;refine g_h 13 15855 rfl (by kernel_rfl) (y_ld Tryz.isAgg2 rfl) k16 rfl rfl (g_e 4 15871 [(13, fun h => cellH h (a4.add 2) = some (.int .i64 y15)), (11, fun h => cellH h (a2.add 2) = some (.int .i64 y13)), (8, fun h => cellH h (a4.add 1) = some (.string y11)), (6, fun h => cellH h (a2.add 1) = some (.string y9))] (by kernel_rfl) rfl (by kernel_rfl) (e_call Tryz.call48 rfl (F.xba_ok H)) rfl rfl ?_);rintro _ h17 ⟨r18, rfl, H⟩;obtain ⟨k19, k20, k21, k22, H⟩ := H;refine ⟨And.intro k19 (And.intro k20 (And.intro k21 (And.intro k22 trivial))), ?_⟩;refine g_e 9 16383 [(13, fun h => cellH h (a4.add 2) = some (.int .i64 y15)), (11, fun h => cellH h (a2.add 2) = some (.int .i64 y13))] (by kernel_rfl) rfl (by kernel_rfl) (e_call Tryz.call49 rfl (F.xcq_ok H)) rfl rfl ?_;rintro _ h23 ⟨r24, rfl, H⟩;obtain ⟨k25, k26, H⟩ := H;refine ⟨And.intro k25 (And.intro k26 trivial), ?_⟩;refine g_e 14 32767 [] (by kernel_rfl) rfl (by kernel_rfl) (e_call Tryz.call50 rfl (F.xcc_ok H)) rfl rfl ?_;rintro _ h27 ⟨r28, rfl, H⟩;refine ⟨trivial, ?_⟩;refine g_e 15 65535 [] (by kernel_rfl) rfl (by kernel_rfl) (f_buildL (cs := #[(.int .i64 r18), (.int .i64 r24), (.int .i64 r28)]) rfl rfl (bl_42_3_0_1_2 r18 r24 r28) H) rfl rfl ?_;rintro _ h29 ⟨s30, rfl, H⟩;refine ⟨trivial, ?_⟩;refine g_e 16 131071 [] (by kernel_rfl) rfl (by kernel_rfl) (e_call Tryz.call47 rfl (F.xan_ok H)) rfl rfl ?_;rintro _ h31 ⟨r32, rfl, H⟩;refine ⟨trivial, ?_⟩;refine g_p 17 262143 rfl (by kernel_rfl) (y_assign rfl) rfl rfl (g_d (by kernel_rfl) (tr_thenN (tr_ret ?_)));exact tr_ret1 rfl rfl ⟨_, rfl, H⟩
def F.xcr (p0 : S_api_Cell) (p1 : Addr) (p2 : Addr) (h : H) (Q : Bool -> H -> Prop) : Prop :=
  new h p0.cells.toArray ty_35 fun a2 h1 =>
  ld_S_api_Cell h1 p1 fun y3 =>
  ld_S_api_Cell h1 a2 fun y5 =>
  F.xbp y3 y5 h1 fun r8 h7 =>
  ((decide (r8 <= 0)) = true ->
  ld_S_api_Cell h7 a2 fun y10 =>
  ld_S_api_Cell h7 p2 fun y12 =>
  F.xbp y10 y12 h7 fun r15 h14 =>
  Q (decide (r15 < 0)) h14) ∧
  ((decide (r8 <= 0)) = false ->
  Q false h7)
theorem F.xcr_ok {p0 : S_api_Cell} {p1 : Addr} {p2 : Addr} {h : H} {Q : Bool -> H -> Prop} (H : F.xcr p0 p1 p2 h Q) : Fn PP 72 ([(.agg p0.cells.toArray), (.pointer (some p1)), (.pointer (some p2))] : List Value).toArray h fun r h' => ∃ r0, r = (.bool r0) ∧ Q r0 h' := by
 unfold F.xcr at H;refine fn_of Tryz.func72 Tryz.ntmps72 rfl rfl fun w0 => (tr_sub [(0, (.agg p0.cells.toArray)), (1, (.pointer (some p1))), (2, (.pointer (some p2)))] ⟨rfl, rfl, rfl, trivial⟩ (tr_seq (tr_region (tr_e (f_box (cs := p0.cells.toArray) rfl rfl H) rfl rfl ?_))));rintro _ h1 ⟨a2, rfl, H⟩;refine tq (y_assign rfl) (tr_nil (tr_thenN (tr_seq (tr_region ?_))));obtain ⟨y3, k4, H⟩ := H;refine tr_h (y_ldS Tryz.isAgg35 Tryz.sizeOf35 rfl rfl) k4 rfl rfl ?_;obtain ⟨y5, k6, H⟩ := H;refine tr_h (y_ldS Tryz.isAgg35 Tryz.sizeOf35 rfl rfl) k6 rfl rfl (tr_e (e_call Tryz.call17 rfl (F.xbp_ok H)) rfl rfl ?_);rintro _ h7 ⟨r8, rfl, H⟩;refine tq (y_leq rfl rfl) (tq (y_move rfl) ?_);refine tr_split (t := 9) rfl (fun g9 => ?_) (fun g9 => ?_)
 ·replace H := H.1 g9;obtain ⟨y10, k11, H⟩ := H;refine tr_h (y_ldS Tryz.isAgg35 Tryz.sizeOf35 rfl rfl) k11 rfl rfl ?_;obtain ⟨y12, k13, H⟩ := H;refine tr_h (y_ldS Tryz.isAgg35 Tryz.sizeOf35 rfl rfl) k13 rfl rfl (tr_e (e_call Tryz.call17 rfl (F.xbp_ok H)) rfl rfl ?_);rintro _ h14 ⟨r15, rfl, H⟩;refine tq (y_lss rfl rfl) (tq (y_pick_t rfl rfl) (tq (y_assign rfl) (tr_nil (tr_thenN (tr_ret ?_)))));exact tr_ret1 rfl rfl ⟨_, rfl, H⟩
 ·replace H := H.2 g9;refine ts (ts (ts (ts (tq (y_pick_f rfl rfl) (tq (y_assign rfl) (tr_nil (tr_thenN (tr_ret ?_))))))));exact tr_ret1 rfl rfl ⟨_, rfl, H⟩
def F.xbl.l1 (Q : H -> Prop) : Nat -> Value -> Addr -> H -> Prop
  | 0, _, _, _ => False
  | q1 + 1, x0, x5, h =>
    RunS PP (Instr.next (.pointer (some x5)) false 0) h fun u h5 => ∃ (b6 : Bool) (t7 : Array Value), u = (.tuple (#[.bool b6] ++ t7)) ∧
    (b6 = true ->
    RunS PP (Instr.entry (.pointer (some x5))) h5 fun u h9 => ∃ (r10 : ByteArray) (r11 : Option Addr), u = (.tuple #[(.string r10), (.pointer r11)]) ∧
    CV PP x0 [(.string r10)] h9 fun u h12 => ∃ (r13 : Bool), u = (.bool r13) ∧
    ((!r13) = true ->
    Q h12) ∧
    ((!r13) = false ->
    (F.xbl.l1 Q q1) x0 x5 h12)) ∧
    (b6 = false ->
    Q h5)
def F.xbl (p0 : Value) (p1 : Addr) (h : H) (Q : H -> Prop) : Prop :=
  ldM h p1 fun y1 =>
  RunS PP (Instr.range 153 (.map y1)) h fun u h3 => ∃ a4 : Addr, u = (.pointer (some a4)) ∧
  ∃ m, F.xbl.l1 Q m p0 a4 h3
theorem F.xbl_ok {p0 : Value} {p1 : Addr} {h : H} {Q : H -> Prop} (H : F.xbl p0 p1 h Q) : Fn PP 125 ([p0, (.pointer (some p1))] : List Value).toArray h fun r h' => r = .tuple #[] ∧ Q  h' := by
 unfold F.xbl at H;refine fn_of Tryz.func125 Tryz.ntmps125 rfl rfl fun w0 => (tr_sub [(0, p0), (1, (.pointer (some p1)))] ⟨rfl, rfl, trivial⟩ (tr_seq (tr_region ?_)));obtain ⟨y1, k2, H⟩ := H;refine tr_h (y_ld Tryz.isAgg153 rfl) k2 rfl rfl (tr_e (f_rg rfl H) rfl rfl ?_);rintro _ h3 ⟨a4, rfl, H⟩;refine tr_nil (tr_thenN (tr_block ?_));obtain ⟨m15, H⟩ := H;refine tr_sub [(0, p0), (5, (.pointer (some a4)))] ⟨rfl, rfl, trivial⟩ ?_;refine tr_loop_j (fun m L' h => ∃ (x0 : Value) (x5 : Addr), L' = [(0, x0), (5, (.pointer (some x5)))] ∧ F.xbl.l1 Q m x0 x5 h) ?_ ?_ m15 ⟨_, _, rfl, H⟩
 ·rintro L' h ⟨_, _, _, H⟩; exact H
 ·rintro q1 L' h ⟨x0, x5, rfl, H⟩;unfold F.xbl.l1 at H;refine tr_seq (tr_region (tr_e (f_nx rfl H) rfl rfl ?_));rintro _ h5 ⟨b6, t7, rfl, H⟩;refine tq (y_ext0 (t := t7) rfl) (tr_nil (tr_thenN (tr_seq ?_)));refine tr_cond rfl (fun g8 => ?_) (fun g8 => ?_)
  ·replace H := H.1 g8;refine tr_skip (tr_thenN (tr_block (tr_seq (tr_region (tr_e (f_en rfl H) rfl rfl ?_)))));rintro _ h9 ⟨r10, r11, rfl, H⟩;refine tq (y_ext rfl rfl) (tq (y_assign rfl) (tr_nil (tr_thenN (tr_seq (tr_region (tq (y_move rfl) (tq (y_move rfl) (tr_e (e_callD rfl rfl H) rfl rfl ?_))))))));rintro _ h12 ⟨r13, rfl, H⟩;refine tq (y_not rfl) (tr_nil (tr_thenN ?_));refine tr_cond rfl (fun g14 => ?_) (fun g14 => ?_)
   ·replace H := H.1 g14;refine tr_ret (tr_blockR (tr_thenR (tr_blockR ?_)));exact tr_ret0 rfl ⟨rfl, H⟩
   ·replace H := H.2 g14;refine tr_skip (tr_blockN (tr_thenN ?_));exact tr_join [(0, x0), (5, (.pointer (some x5)))] ⟨rfl, rfl, trivial⟩ ⟨_, _, rfl, H⟩
  ·replace H := H.2 g8;refine tr_exit (tr_thenE (tr_thenE (tr_hit ?_)));exact tr_end0 rfl ⟨rfl, H⟩
def F.xar (p0 : Option Nat) (h : H) (Q : Value -> H -> Prop) : Prop :=
  new h #[(.map p0)] ty_153 fun a2 h1 =>
  Q (.func (.func 125) #[] #[(.pointer (some a2))]) h1
theorem F.xar_ok {p0 : Option Nat} {h : H} {Q : Value -> H -> Prop} (H : F.xar p0 h Q) : Fn PP 98 ([(.map p0)] : List Value).toArray h fun r h' => ∃ r0, r = r0 ∧ Q r0 h' := by
 unfold F.xar at H;refine fn_of Tryz.func98 Tryz.ntmps98 rfl rfl fun w0 => (tr_sub [(0, (.map p0))] ⟨rfl, trivial⟩ (tr_seq (tr_region (tr_e (f_box (cs := #[(.map p0)]) rfl rfl H) rfl rfl ?_))));rintro _ h1 ⟨a2, rfl, H⟩;refine tq (y_assign rfl) (tr_nil (tr_thenN (tr_seq (tr_region (tq (y_fn rfl rfl) (tq (y_assign rfl) (tr_nil (tr_thenN (tr_ret ?_)))))))));exact tr_ret1 rfl rfl ⟨_, rfl, H⟩
def F.xcp (p0 : Sl) (p1 : Value) (h : H) (Q : Sl -> H -> Prop) : Prop :=
  new h #[p0.enc] ty_22 fun a2 h1 =>
  rng PP p1 h1 [] (fun bg1 l1 args h K1 J1 => ∃ (y1_7 : ByteArray), args = [(.string y1_7)] ∧
    bg1 h fun h3 =>
    ldL h3 a2 fun y4 =>
    newL h3 #[(.string y1_7)] ty_9 1 fun s7 h6 =>
    runL PP (Builtin.append_ #[22, 22] 22 #[y4.enc, s7.enc]) h6 fun s9 h8 =>
    stH h8 a2 [s9.enc] fun h10 =>
    K1 h10) (fun h11 =>
    ldL h11 a2 fun y12 =>
    shuts (h1.size :: ([] : List Nat)) h11 fun h14 =>
    Q y12 h14) (fun jj h15 =>
    True)
theorem F.xcp_ok {p0 : Sl} {p1 : Value} {h : H} {Q : Sl -> H -> Prop} (H : F.xcp p0 p1 h Q) : Fn PP 143 ([p0.enc, p1] : List Value).toArray h fun r h' => ∃ r0, r = r0.enc ∧ Q r0 h' := by
 unfold F.xcp at H;refine fn_ofM Tryz.func143 Tryz.ntmps143 rfl rfl fun w0 => (tr_sub [(0, p0.enc), (1, p1)] ⟨rfl, rfl, trivial⟩ (tr_seq (tr_region (tr_e (f_box (cs := #[p0.enc]) rfl rfl H) rfl rfl ?_))));rintro _ h1 ⟨a2, rfl, H⟩;refine tq (y_assign rfl) (tr_nil (tr_thenN (tr_seq (tr_seq (tr_region (tq (y_move rfl) (tr_nil (tr_thenN (tr_block ?_)))))))));refine tr_range rfl (by kernel_rfl) H ?_ ?_ ?_
 ·intro bg1 l1 args h K1 J1 w1 hbg1 H;obtain ⟨y1_7, rfl, H⟩ := H;refine ⟨rfl, ?_⟩;refine tr_sub [(0, p0.enc), (1, p1), (2, (.pointer (some a2))), (4, (⟨none, 0, 0⟩ : Sl).enc), (6, p1), (7, (.string y1_7))] ⟨rfl, rfl, rfl, rfl, rfl, rfl, trivial⟩ (tr_region (tq (y_assign rfl) (tr_nil (tr_thenN (tr_bgn hbg1 H fun h3 H => (tr_block (tr_region ?_)))))));obtain ⟨y4, k5, H⟩ := H;refine tr_h (y_ld Tryz.isAgg22 rfl) k5 rfl rfl (tq (y_move rfl) (tr_e (f_buildL (cs := #[(.string y1_7)]) rfl rfl (bl_22_1_0 y1_7) H) rfl rfl ?_));rintro _ h6 ⟨s7, rfl, H⟩;refine tr_e (f_app rfl H) rfl rfl ?_;rintro _ h8 ⟨s9, rfl, H⟩;refine tr_e (f_store (vs := [s9.enc]) Tryz.sizeOf22 rfl rfl rfl rfl (one1 rfl) H) rfl rfl ?_;rintro _ h10 ⟨rfl, H⟩;refine tr_nil (tr_blockN ?_);exact tr_rN H
 ·intro h11 H;refine tr_blockN (tr_thenN (tr_seq (tr_region ?_)));obtain ⟨y12, k13, H⟩ := H;refine tr_h (y_ld Tryz.isAgg22 rfl) k13 rfl rfl (tq (y_assign rfl) (tr_nil (tr_thenN (tr_ret (tr_shut (h1.size :: ([] : List Nat)) rfl H fun h14 H => ?_)))));exact tr_ret1 rfl rfl ⟨_, rfl, H⟩
 ·intro jj c h15 hjc H;simp at hjc
def F.xct (p0 : Value) (h : H) (Q : Sl -> H -> Prop) : Prop :=
  F.xcp (⟨none, 0, 0⟩ : Sl) p0 h fun r2 h1 =>
  Q r2 h1
theorem F.xct_ok {p0 : Value} {h : H} {Q : Sl -> H -> Prop} (H : F.xct p0 h Q) : Fn PP 123 ([p0] : List Value).toArray h fun r h' => ∃ r0, r = r0.enc ∧ Q r0 h' := by
 unfold F.xct at H;refine fn_of Tryz.func123 Tryz.ntmps123 rfl rfl fun w0 => (tr_sub [(0, p0)] ⟨rfl, trivial⟩ (tr_seq (tr_region (tq (y_assign rfl) (tr_nil (tr_thenN (tr_seq (tr_region (tq (y_move rfl) (tr_e (e_call Tryz.call143 rfl (F.xcp_ok H)) rfl rfl ?_))))))))));rintro _ h1 ⟨r2, rfl, H⟩;refine tq (y_assign rfl) (tr_nil (tr_thenN (tr_ret ?_)));exact tr_ret1 rfl rfl ⟨_, rfl, H⟩
def F.xco (p0 : Value) (h : H) (Q : Sl -> H -> Prop) : Prop :=
  F.xct p0 h fun r2 h1 =>
  Fn PP 124 [r2.enc].toArray h1 fun u h3 => u = (.tuple #[]) ∧
  Q r2 h3
theorem F.xco_ok {p0 : Value} {h : H} {Q : Sl -> H -> Prop} (H : F.xco p0 h Q) : Fn PP 97 ([p0] : List Value).toArray h fun r h' => ∃ r0, r = r0.enc ∧ Q r0 h' := by
 unfold F.xco at H;refine fn_of Tryz.func97 Tryz.ntmps97 rfl rfl fun w0 => (tr_sub [(0, p0)] ⟨rfl, trivial⟩ (tr_seq (tr_region (tq (y_assign rfl) (tr_nil (tr_thenN (tr_seq (tr_region (tq (y_move rfl) (tr_e (e_call Tryz.call123 rfl (F.xct_ok H)) rfl rfl ?_))))))))));rintro _ h1 ⟨r2, rfl, H⟩;refine tq (y_assign rfl) (tr_nil (tr_thenN (tr_seq (tr_region (tq (y_move rfl) (tr_e (e_call Tryz.call124 rfl H) rfl rfl ?_))))));rintro _ h3 ⟨rfl, H⟩;refine tr_nil (tr_thenN (tr_seq (tr_region (tq (y_move rfl) (tq (y_assign rfl) (tr_nil (tr_thenN (tr_ret ?_))))))));exact tr_ret1 rfl rfl ⟨_, rfl, H⟩
def F.xbk.l1 (Q : H -> Prop) : Nat -> Value -> Addr -> Sl -> Int -> Int -> H -> Prop
  | 0, _, _, _, _, _, _ => False
  | q1 + 1, x0, x2, x6, x7, x8, h =>
    ((decide (x8 < x7)) = true ->
    idxA x6 x8 1 fun a4 =>
    ldS h a4 fun y6 =>
    ldM h x2 fun y8 =>
    RunS PP (Instr.lookup 153 (.map y8) (.string y6) false) h fun u h10 => ∃ r11 : Option Addr, u = (.pointer r11) ∧
    CV PP x0 [(.string y6), (.pointer r11)] h10 fun u h12 => ∃ (r13 : Bool), u = (.bool r13) ∧
    ((!r13) = true ->
    Q h12) ∧
    ((!r13) = false ->
    (F.xbk.l1 Q q1) x0 x2 x6 x7 (IntKind.wrap .i64 (x8 + 1)) h12)) ∧
    ((decide (x8 < x7)) = false ->
    Q h)
def F.xbk (p0 : Value) (p1 : Addr) (p2 : Addr) (h : H) (Q : H -> Prop) : Prop :=
  ldL h p1 fun y1 =>
  ∃ m, F.xbk.l1 Q m p0 p2 y1 (y1.len : Int) 0 h
theorem F.xbk_ok {p0 : Value} {p1 : Addr} {p2 : Addr} {h : H} {Q : H -> Prop} (H : F.xbk p0 p1 p2 h Q) : Fn PP 99 ([p0, (.pointer (some p1)), (.pointer (some p2))] : List Value).toArray h fun r h' => r = .tuple #[] ∧ Q  h' := by
 unfold F.xbk at H;refine fn_of Tryz.func99 Tryz.ntmps99 rfl rfl fun w0 => (tr_sub [(0, p0), (1, (.pointer (some p1))), (2, (.pointer (some p2)))] ⟨rfl, rfl, rfl, trivial⟩ (tr_seq (tr_region ?_)));obtain ⟨y1, k2, H⟩ := H;refine tr_h (y_ld Tryz.isAgg22 rfl) k2 rfl rfl (tq (y_len (ts := #[]) Tryz.runUnderlying22 (o := y1.ptr) (n := y1.len) (cap := y1.cap) rfl) (tq (y_move rfl) (tr_nil (tr_thenN (tr_block ?_)))));obtain ⟨m15, H⟩ := H;refine tr_sub [(0, p0), (2, (.pointer (some p2))), (6, y1.enc), (7, (.int .i64 (y1.len : Int))), (8, (.int .i64 0))] ⟨rfl, rfl, rfl, rfl, rfl, trivial⟩ ?_;refine tr_loop_j (fun m L' h => ∃ (x0 : Value) (x2 : Addr) (x6 : Sl) (x7 : Int) (x8 : Int), L' = [(0, x0), (2, (.pointer (some x2))), (6, x6.enc), (7, (.int .i64 x7)), (8, (.int .i64 x8))] ∧ F.xbk.l1 Q m x0 x2 x6 x7 x8 h) ?_ ?_ m15 ⟨_, _, _, _, _, rfl, H⟩
 ·rintro L' h ⟨_, _, _, _, _, _, H⟩; exact H
 ·rintro q1 L' h ⟨x0, x2, x6, x7, x8, rfl, H⟩;unfold F.xbk.l1 at H;refine tr_seq (tr_region (tq (y_lss rfl rfl) (tr_nil (tr_thenN (tr_seq ?_)))));refine tr_cond rfl (fun g3 => ?_) (fun g3 => ?_)
  ·replace H := H.1 g3;refine tr_skip (tr_thenN (tr_seq (tr_block (tr_seq (tr_region ?_)))));obtain ⟨a4, e5, H⟩ := H;refine tq (f_idx (s := x6) Tryz.runUnderlying22 Tryz.sizeOf9 rfl rfl e5) ?_;obtain ⟨y6, k7, H⟩ := H;refine tr_h (y_ld Tryz.isAgg9 rfl) k7 rfl rfl (tq (y_assign rfl) (tr_nil (tr_thenN (tr_seq (tr_region (tq (y_move rfl) (tq (y_move rfl) ?_)))))));obtain ⟨y8, k9, H⟩ := H;refine tr_h (y_ld Tryz.isAgg153 rfl) k9 rfl rfl (tq (y_move rfl) (tr_e (f_lk rfl rfl H) rfl rfl ?_));rintro _ h10 ⟨r11, rfl, H⟩;refine tr_e (e_callD rfl rfl H) rfl rfl ?_;rintro _ h12 ⟨r13, rfl, H⟩;refine tq (y_not rfl) (tr_nil (tr_thenN ?_));refine tr_cond rfl (fun g14 => ?_) (fun g14 => ?_)
   ·replace H := H.1 g14;refine tr_ret (tr_blockR (tr_thenR (tr_thenR (tr_blockR ?_))));exact tr_ret0 rfl ⟨rfl, H⟩
   ·replace H := H.2 g14;refine tr_skip (tr_blockN (tr_thenN (tr_region (tq (y_add rfl rfl) (tq (y_move rfl) (tr_nil (tr_thenN ?_)))))));exact tr_join [(0, x0), (2, (.pointer (some x2))), (6, x6.enc), (7, (.int .i64 x7)), (8, (.int .i64 (IntKind.wrap .i64 (x8 + 1))))] ⟨rfl, rfl, rfl, rfl, rfl, trivial⟩ ⟨_, _, _, _, _, rfl, H⟩
  ·replace H := H.2 g3;refine tr_exit (tr_thenE (tr_thenE (tr_hit ?_)));exact tr_end0 rfl ⟨rfl, H⟩
def F.xad.l2 (Q : Value -> H -> Prop) (C1 : Addr -> Sl -> Int -> Int -> H -> Prop) : Nat -> Addr -> Sl -> Int -> Int -> Sl -> Int -> Int -> H -> Prop
  | 0, _, _, _, _, _, _, _, _ => False
  | q2 + 1, x3, x22, x23, x24, x28, x29, x30, h =>
    ((decide (x30 < x29)) = true ->
    idxA x28 x30 3 fun a26 =>
    ld_S_table_place_chain_Chain_api_Agg h a26 fun y28 =>
    new h (((⟨0, (⟨#[]⟩ : ByteArray), none⟩ : S_table_place_chain_Chain_api_Agg) : S_table_place_chain_Chain_api_Agg).cells.toArray) ty_156 fun a31 h30 =>
    stH h30 a31 y28.cells fun h32 =>
    ldI .u8 h32 (a31.add 0) fun y33 =>
    (((y33 == 1)) = true ->
    ldM h32 x3 fun y36 =>
    ldS h32 (a31.add 1) fun y38 =>
    ldP h32 (a31.add 2) fun y40 =>
    RunS PP (Instr.mapUpdate 153 (.map y36) (.string y38) (.pointer y40)) h32 fun _ h42 =>
    (F.xad.l2 Q C1 q2) x3 x22 x23 x24 x28 x29 (IntKind.wrap .i64 (x30 + 1)) h42) ∧
    (((y33 == 1)) = false ->
    (F.xad.l2 Q C1 q2) x3 x22 x23 x24 x28 x29 (IntKind.wrap .i64 (x30 + 1)) h32)) ∧
    ((decide (x30 < x29)) = false ->
    C1 x3 x22 x23 (IntKind.wrap .i64 (x24 + 1)) h)
def F.xad.l1 (Q : Value -> H -> Prop) : Nat -> Addr -> Sl -> Int -> Int -> H -> Prop
  | 0, _, _, _, _, _ => False
  | q1 + 1, x3, x22, x23, x24, h =>
    ((decide (x24 < x23)) = true ->
    idxA x22 x24 1 fun a21 =>
    ldL h a21 fun y23 =>
    ∃ m, F.xad.l2 Q (F.xad.l1 Q q1) m x3 x22 x23 x24 y23 (y23.len : Int) 0 h) ∧
    ((decide (x24 < x23)) = false ->
    ldM h x3 fun y44 =>
    F.xar y44 h fun r47 h46 =>
    F.xco r47 h46 fun r49 h48 =>
    new h48 #[(⟨none, 0, 0⟩ : Sl).enc] ty_22 fun a51 h50 =>
    stH h50 a51 [r49.enc] fun h52 =>
    Q (.func (.func 99) #[] #[(.pointer (some a51)), (.pointer (some x3))]) h52)
def F.xad (p0 : Option Addr) (h : H) (Q : Value -> H -> Prop) : Prop :=
  nn p0 fun a1 =>
  ldI .i64 h (a1.add 3) fun y3 =>
  RunS PP (Instr.makeMap 153 (some (.int .i64 y3))) h fun u h5 => ∃ m6 : Option Nat, u = (.map m6) ∧
  new h5 #[(.map none)] ty_153 fun a8 h7 =>
  stH h7 a8 [(.map m6)] fun h9 =>
  nn p0 fun a10 =>
  ldL h9 (a10.add 0) fun y12 =>
  nn p0 fun a14 =>
  ldL h9 (a14.add 1) fun y16 =>
  newL h9 #[y12.enc, y16.enc] ty_146 2 fun s19 h18 =>
  ∃ m, F.xad.l1 Q m a8 s19 (s19.len : Int) 0 h18
theorem F.xad_ok {p0 : Option Addr} {h : H} {Q : Value -> H -> Prop} (H : F.xad p0 h Q) : Fn PP 59 ([(.pointer p0)] : List Value).toArray h fun r h' => ∃ r0, r = r0 ∧ Q r0 h' := by
 unfold F.xad at H;refine fn_of Tryz.func59 Tryz.ntmps59 rfl rfl fun w0 => (tr_sub [(0, (.pointer p0))] ⟨rfl, trivial⟩ (tr_seq (tr_region (tq (y_assign rfl) (tr_nil (tr_thenN (tr_seq (tr_region (tq (y_move rfl) ?_)))))))));obtain ⟨a1, e2, H⟩ := H;refine tq (f_nn rfl e2) (tq (y_fa (off := 3) Tryz.runUnderlying148 fo_148_3 rfl) ?_);obtain ⟨y3, k4, H⟩ := H;refine tr_h (y_ld Tryz.isAgg3 rfl) k4 rfl rfl (tr_e (f_mkS rfl H) rfl rfl ?_);rintro _ h5 ⟨m6, rfl, H⟩;refine tr_e (f_alloc (cs := #[(.map none)]) Tryz.zeroValue153 rfl H) rfl rfl ?_;rintro _ h7 ⟨a8, rfl, H⟩;refine tr_e (f_store (vs := [(.map m6)]) Tryz.sizeOf153 rfl rfl rfl rfl (one1 rfl) H) rfl rfl ?_;rintro _ h9 ⟨rfl, H⟩;refine tr_nil (tr_thenN (tr_seq (tr_seq (tr_draw mixed [0, 1, 3, 7, 0, 16, 48, 112, 255, 511, 0] (by kernel_rfl) (g_p 0 1 rfl (by kernel_rfl) (y_move rfl) rfl rfl ?_)))));obtain ⟨a10, e11, H⟩ := H;refine g_p 1 3 rfl (by kernel_rfl) (f_nn rfl e11) rfl rfl (g_p 2 7 rfl (by kernel_rfl) (y_fa (off := 0) Tryz.runUnderlying148 fo_148_0 rfl) rfl rfl ?_);obtain ⟨y12, k13, H⟩ := H;refine g_h 3 15 rfl (by kernel_rfl) (y_ld Tryz.isAgg146 rfl) k13 rfl rfl (g_p 4 31 rfl (by kernel_rfl) (y_move rfl) rfl rfl ?_);obtain ⟨a14, e15, H⟩ := H;refine g_p 5 63 rfl (by kernel_rfl) (f_nn rfl e15) rfl rfl (g_p 6 127 rfl (by kernel_rfl) (y_fa (off := 1) Tryz.runUnderlying148 fo_148_1 rfl) rfl rfl ?_);obtain ⟨y16, k17, H⟩ := H;refine g_h 7 255 rfl (by kernel_rfl) (y_ld Tryz.isAgg146 rfl) k17 rfl rfl (g_p 10 1279 rfl (by kernel_rfl) (y_move rfl) rfl rfl (g_e 8 1535 [] (by kernel_rfl) rfl (by kernel_rfl) (f_buildL (cs := #[y12.enc, y16.enc]) rfl rfl (bl_154_2_0_1 y12 y16) H) rfl rfl ?_));rintro _ h18 ⟨s19, rfl, H⟩;refine ⟨trivial, ?_⟩;refine g_p 9 2047 rfl (by kernel_rfl) (y_len (ts := #[]) Tryz.runUnderlying154 (o := s19.ptr) (n := s19.len) (cap := s19.cap) rfl) rfl rfl (g_d (by kernel_rfl) (tr_thenN (tr_block ?_)));obtain ⟨m53, H⟩ := H;refine tr_sub [(3, (.pointer (some a8))), (22, s19.enc), (23, (.int .i64 (s19.len : Int))), (24, (.int .i64 0))] ⟨rfl, rfl, rfl, rfl, trivial⟩ ?_;refine tr_loop_j (fun m L' h => ∃ (x3 : Addr) (x22 : Sl) (x23 : Int) (x24 : Int), L' = [(3, (.pointer (some x3))), (22, x22.enc), (23, (.int .i64 x23)), (24, (.int .i64 x24))] ∧ F.xad.l1 Q m x3 x22 x23 x24 h) ?_ ?_ m53 ⟨_, _, _, _, rfl, H⟩
 ·rintro L' h ⟨_, _, _, _, _, H⟩; exact H
 ·rintro q1 L' h ⟨x3, x22, x23, x24, rfl, H⟩;unfold F.xad.l1 at H;refine tr_seq (tr_region (tq (y_lss rfl rfl) (tr_nil (tr_thenN (tr_seq ?_)))));refine tr_cond rfl (fun g20 => ?_) (fun g20 => ?_)
  ·replace H := H.1 g20;refine tr_skip (tr_thenN (tr_seq (tr_block (tr_seq (tr_region ?_)))));obtain ⟨a21, e22, H⟩ := H;refine tq (f_idx (s := x22) Tryz.runUnderlying154 Tryz.sizeOf146 rfl rfl e22) ?_;obtain ⟨y23, k24, H⟩ := H;refine tr_h (y_ld Tryz.isAgg146 rfl) k24 rfl rfl (tq (y_assign rfl) (tr_nil (tr_thenN (tr_seq (tr_region (tq (y_move rfl) (tq (y_len (ts := #[]) Tryz.runUnderlying146 (o := y23.ptr) (n := y23.len) (cap := y23.cap) rfl) (tq (y_move rfl) (tr_nil (tr_thenN (tr_block ?_)))))))))));obtain ⟨m43, H⟩ := H;refine tr_sub [(3, (.pointer (some x3))), (22, x22.enc), (23, (.int .i64 x23)), (24, (.int .i64 x24)), (28, y23.enc), (29, (.int .i64 (y23.len : Int))), (30, (.int .i64 0))] ⟨rfl, rfl, rfl, rfl, rfl, rfl, rfl, trivial⟩ ?_;refine tr_loop_j (fun m L' h => ∃ (x3 : Addr) (x22 : Sl) (x23 : Int) (x24 : Int) (x28 : Sl) (x29 : Int) (x30 : Int), L' = [(3, (.pointer (some x3))), (22, x22.enc), (23, (.int .i64 x23)), (24, (.int .i64 x24)), (28, x28.enc), (29, (.int .i64 x29)), (30, (.int .i64 x30))] ∧ F.xad.l2 Q (F.xad.l1 Q q1) m x3 x22 x23 x24 x28 x29 x30 h) ?_ ?_ m43 ⟨_, _, _, _, _, _, _, rfl, H⟩
   ·rintro L' h ⟨_, _, _, _, _, _, _, _, H⟩; exact H
   ·rintro q2 L' h ⟨x3, x22, x23, x24, x28, x29, x30, rfl, H⟩;unfold F.xad.l2 at H;refine tr_seq (tr_region (tq (y_lss rfl rfl) (tr_nil (tr_thenN (tr_seq ?_)))));refine tr_cond rfl (fun g25 => ?_) (fun g25 => ?_)
    ·replace H := H.1 g25;refine tr_skip (tr_thenN (tr_seq (tr_block (tr_seq (tr_region ?_)))));obtain ⟨a26, e27, H⟩ := H;refine tq (f_idx (s := x28) Tryz.runUnderlying146 Tryz.sizeOf156 rfl rfl e27) ?_;obtain ⟨y28, k29, H⟩ := H;refine tr_h (y_ldS Tryz.isAgg156 Tryz.sizeOf156 rfl rfl) k29 rfl rfl (tr_e (f_alloc (cs := ((⟨0, (⟨#[]⟩ : ByteArray), none⟩ : S_table_place_chain_Chain_api_Agg) : S_table_place_chain_Chain_api_Agg).cells.toArray) Tryz.zeroValue156 rfl H) rfl rfl ?_);rintro _ h30 ⟨a31, rfl, H⟩;refine tr_e (f_store (vs := y28.cells) Tryz.sizeOf156 rfl rfl cellsOfStruct rfl (by intro v hv; exact ones_S_table_place_chain_Chain_api_Agg _ v hv) H) rfl rfl ?_;rintro _ h32 ⟨rfl, H⟩;refine tr_nil (tr_thenN (tr_seq (tr_region (tq (y_fa (off := 0) Tryz.runUnderlying156 fo_156_0 rfl) ?_))));obtain ⟨y33, k34, H⟩ := H;refine tr_h (y_ld Tryz.isAgg5 rfl) k34 rfl rfl (tq (y_eql rfl rfl) (tr_nil (tr_thenN ?_)));refine tr_cond rfl (fun g35 => ?_) (fun g35 => ?_)
     ·replace H := H.1 g35;refine tr_region ?_;obtain ⟨y36, k37, H⟩ := H;refine tr_h (y_ld Tryz.isAgg153 rfl) k37 rfl rfl (tq (y_fa (off := 1) Tryz.runUnderlying156 fo_156_1 rfl) ?_);obtain ⟨y38, k39, H⟩ := H;refine tr_h (y_ld Tryz.isAgg9 rfl) k39 rfl rfl (tq (y_fa (off := 2) Tryz.runUnderlying156 fo_156_2 rfl) ?_);obtain ⟨y40, k41, H⟩ := H;refine tr_h (y_ld Tryz.isAgg107 rfl) k41 rfl rfl (tr_e (f_mu rfl rfl rfl H) rfl rfl ?_);rintro _ h42 ⟨rfl, H⟩;refine tr_nil (tr_blockN (tr_thenN (tr_region (tq (y_add rfl rfl) (tq (y_move rfl) (tr_nil (tr_thenN ?_)))))));exact tr_join [(3, (.pointer (some x3))), (22, x22.enc), (23, (.int .i64 x23)), (24, (.int .i64 x24)), (28, x28.enc), (29, (.int .i64 x29)), (30, (.int .i64 (IntKind.wrap .i64 (x30 + 1))))] ⟨rfl, rfl, rfl, rfl, rfl, rfl, rfl, trivial⟩ ⟨_, _, _, _, _, _, _, rfl, H⟩
     ·replace H := H.2 g35;refine tr_skip (tr_blockN (tr_thenN (tr_region (tq (y_add rfl rfl) (tq (y_move rfl) (tr_nil (tr_thenN ?_)))))));exact tr_join [(3, (.pointer (some x3))), (22, x22.enc), (23, (.int .i64 x23)), (24, (.int .i64 x24)), (28, x28.enc), (29, (.int .i64 x29)), (30, (.int .i64 (IntKind.wrap .i64 (x30 + 1))))] ⟨rfl, rfl, rfl, rfl, rfl, rfl, rfl, trivial⟩ ⟨_, _, _, _, _, _, _, rfl, H⟩
    ·replace H := H.2 g25;refine tr_exit (tr_thenE (tr_thenE (tr_hit (tr_blockN (tr_thenN (tr_region (tq (y_add rfl rfl) (tq (y_move rfl) (tr_nil (tr_thenN ?_))))))))));exact tr_join [(3, (.pointer (some x3))), (22, x22.enc), (23, (.int .i64 x23)), (24, (.int .i64 (IntKind.wrap .i64 (x24 + 1))))] ⟨rfl, rfl, rfl, rfl, trivial⟩ ⟨_, _, _, _, rfl, H⟩
  ·replace H := H.2 g20;refine tr_exit (tr_thenE (tr_thenE (tr_hit (tr_thenN (tr_seq (tr_region ?_))))));obtain ⟨y44, k45, H⟩ := H;refine tr_h (y_ld Tryz.isAgg153 rfl) k45 rfl rfl (tr_e (e_call Tryz.call98 rfl (F.xar_ok H)) rfl rfl ?_);rintro r47 h46 ⟨_, rfl, H⟩;refine tr_e (e_call Tryz.call97 rfl (F.xco_ok H)) rfl rfl ?_;rintro _ h48 ⟨r49, rfl, H⟩;refine tr_e (f_alloc (cs := #[(⟨none, 0, 0⟩ : Sl).enc]) Tryz.zeroValue22 rfl H) rfl rfl ?_;rintro _ h50 ⟨a51, rfl, H⟩;refine tr_e (f_store (vs := [r49.enc]) Tryz.sizeOf22 rfl rfl rfl rfl (one1 rfl) H) rfl rfl ?_;rintro _ h52 ⟨rfl, H⟩;refine tr_nil (tr_thenN (tr_seq (tr_region (tq (y_fn rfl rfl) (tq (y_assign rfl) (tr_nil (tr_thenN (tr_ret ?_))))))));exact tr_ret1 rfl rfl ⟨_, rfl, H⟩
def F.xao.l2 (Q : S_api_Cell -> Int -> H -> Prop) : Nat -> ByteArray -> Addr -> Addr -> Int -> Sl -> Int -> H -> Prop
  | 0, _, _, _, _, _, _, _ => False
  | q2 + 1, x0, x2, x4, x5, x6, x8, h =>
    ((decide (x5 < (x0.size : Int))) = true ->
    0 <= (8 : Int) ∧
    idxS x0 x5 fun b42 =>
    (F.xao.l2 Q q2) x0 x2 x4 (IntKind.wrap .i64 (x5 + 1)) x6 (bitsOf .or .u64 (IntKind.wrap .u64 (x8 * (2 ^ (min (8 : Int).toNat (IntKind.bits .u64)) : Int))) (IntKind.wrap .u64 b42)) h) ∧
    ((decide (x5 < (x0.size : Int))) = false ->
    runT PP (convert 93 9 x6.enc) h fun s45 h44 =>
    stH h44 (x4.add 1) [(.string s45)] fun h46 =>
    stH h46 (x4.add 2) [(.int .i64 (IntKind.wrap .i64 (IntKind.wrap .u64 (x8 - 9223372036854775808))))] fun h47 =>
    ld_S_api_Cell h47 x4 fun y48 =>
    F.xaq y48 h47 fun r51 h50 =>
    (((r51 != 0)) = true ->
    stH h50 x2 ((⟨0, (⟨#[]⟩ : ByteArray), 0⟩ : S_api_Cell).cells) fun h53 =>
    ld_S_api_Cell h53 x2 fun y54 =>
    Q y54 r51 h53) ∧
    (((r51 != 0)) = false ->
    ld_S_api_Cell h50 x4 fun y56 =>
    stH h50 x2 y56.cells fun h58 =>
    ld_S_api_Cell h58 x2 fun y59 =>
    Q y59 0 h58))
def F.xao.l1 (Q : S_api_Cell -> Int -> H -> Prop) : Nat -> ByteArray -> Addr -> Addr -> Int -> Sl -> H -> Prop
  | 0, _, _, _, _, _, _ => False
  | q1 + 1, x0, x2, x4, x5, x6, h =>
    (((x5 == (x0.size : Int))) = true ->
    stH h x2 ((⟨0, (⟨#[]⟩ : ByteArray), 0⟩ : S_api_Cell).cells) fun h13 =>
    ld_S_api_Cell h13 x2 fun y14 =>
    Q y14 11 h13) ∧
    (((x5 == (x0.size : Int))) = false ->
    idxS x0 x5 fun b16 =>
    (((b16 != 0)) = true ->
    idxS x0 x5 fun b19 =>
    newL h #[(.int .u8 b19)] ty_5 1 fun s22 h21 =>
    runL PP (Builtin.append_ #[93, 93] 93 #[x6.enc, s22.enc]) h21 fun s24 h23 =>
    (F.xao.l1 Q q1) x0 x2 x4 (IntKind.wrap .i64 (x5 + 1)) s24 h23) ∧
    (((b16 != 0)) = false ->
    ((((IntKind.wrap .i64 (x5 + 1)) == (x0.size : Int))) = true ->
    stH h x2 ((⟨0, (⟨#[]⟩ : ByteArray), 0⟩ : S_api_Cell).cells) fun h26 =>
    ld_S_api_Cell h26 x2 fun y27 =>
    Q y27 11 h26) ∧
    ((((IntKind.wrap .i64 (x5 + 1)) == (x0.size : Int))) = false ->
    idxS x0 (IntKind.wrap .i64 ((IntKind.wrap .i64 (x5 + 2)) - 1)) fun b29 =>
    (((b29 == 1)) = true ->
    ((decide ((IntKind.wrap .i64 ((x0.size : Int) - (IntKind.wrap .i64 (x5 + 2)))) < 8)) = true ->
    stH h x2 ((⟨0, (⟨#[]⟩ : ByteArray), 0⟩ : S_api_Cell).cells) fun h33 =>
    ld_S_api_Cell h33 x2 fun y34 =>
    Q y34 11 h33) ∧
    ((decide ((IntKind.wrap .i64 ((x0.size : Int) - (IntKind.wrap .i64 (x5 + 2)))) < 8)) = false ->
    ((decide ((IntKind.wrap .i64 ((x0.size : Int) - (IntKind.wrap .i64 (x5 + 2)))) > 8)) = true ->
    stH h x2 ((⟨0, (⟨#[]⟩ : ByteArray), 0⟩ : S_api_Cell).cells) fun h37 =>
    ld_S_api_Cell h37 x2 fun y38 =>
    Q y38 13 h37) ∧
    ((decide ((IntKind.wrap .i64 ((x0.size : Int) - (IntKind.wrap .i64 (x5 + 2)))) > 8)) = false ->
    ∃ m, F.xao.l2 Q m x0 x2 x4 (IntKind.wrap .i64 (x5 + 2)) x6 0 h))) ∧
    (((b29 == 1)) = false ->
    idxS x0 (IntKind.wrap .i64 ((IntKind.wrap .i64 (x5 + 2)) - 1)) fun b62 =>
    (((b62 != 255)) = true ->
    stH h x2 ((⟨0, (⟨#[]⟩ : ByteArray), 0⟩ : S_api_Cell).cells) fun h65 =>
    ld_S_api_Cell h65 x2 fun y66 =>
    Q y66 12 h65) ∧
    (((b62 != 255)) = false ->
    newL h #[(.int .u8 0)] ty_5 1 fun s69 h68 =>
    runL PP (Builtin.append_ #[93, 93] 93 #[x6.enc, s69.enc]) h68 fun s71 h70 =>
    (F.xao.l1 Q q1) x0 x2 x4 (IntKind.wrap .i64 (x5 + 2)) s71 h70)))))
def F.xao (p0 : ByteArray) (h : H) (Q : S_api_Cell -> Int -> H -> Prop) : Prop :=
  new h (((⟨0, (⟨#[]⟩ : ByteArray), 0⟩ : S_api_Cell) : S_api_Cell).cells.toArray) ty_35 fun a2 h1 =>
  ((p0.toList == (⟨#[]⟩ : ByteArray).toList) = true ->
  stH h1 a2 ((⟨0, (⟨#[]⟩ : ByteArray), 0⟩ : S_api_Cell).cells) fun h4 =>
  ld_S_api_Cell h4 a2 fun y5 =>
  Q y5 11 h4) ∧
  ((p0.toList == (⟨#[]⟩ : ByteArray).toList) = false ->
  idxS p0 0 fun b7 =>
  new h1 (((⟨0, (⟨#[]⟩ : ByteArray), 0⟩ : S_api_Cell) : S_api_Cell).cells.toArray) ty_35 fun a10 h9 =>
  stH h9 a10 ((⟨(IntKind.wrap .i64 b7), (⟨#[]⟩ : ByteArray), 0⟩ : S_api_Cell).cells) fun h11 =>
  ∃ m, F.xao.l1 Q m p0 a2 a10 1 (⟨none, 0, 0⟩ : Sl) h11)
theorem F.xao_ok {p0 : ByteArray} {h : H} {Q : S_api_Cell -> Int -> H -> Prop} (H : F.xao p0 h Q) : Fn PP 73 ([(.string p0)] : List Value).toArray h fun r h' => ∃ r0 r1, r = .tuple #[(.agg r0.cells.toArray), (.int .i64 r1)] ∧ Q r0 r1 h' := by
 unfold F.xao at H;refine fn_of Tryz.func73 Tryz.ntmps73 rfl rfl fun w0 => (tr_sub [(0, (.string p0))] ⟨rfl, trivial⟩ (tr_seq (tr_region (tr_e (f_alloc (cs := ((⟨0, (⟨#[]⟩ : ByteArray), 0⟩ : S_api_Cell) : S_api_Cell).cells.toArray) Tryz.zeroValue35 rfl H) rfl rfl ?_))));rintro _ h1 ⟨a2, rfl, H⟩;refine tq (y_assign rfl) (tr_nil (tr_thenN (tr_seq (tr_seq (tr_region (tq (y_move rfl) (tq (y_seql rfl rfl) (tr_nil (tr_thenN ?_)))))))));refine tr_cond rfl (fun g3 => ?_) (fun g3 => ?_)
 ·replace H := H.1 g3;refine tr_seq (tr_region (tq (f_build rfl (bd_35_ )) (tr_e (f_store (vs := (⟨0, (⟨#[]⟩ : ByteArray), 0⟩ : S_api_Cell).cells) Tryz.sizeOf35 rfl rfl cellsOfStruct rfl (by intro v hv; exact ones_S_api_Cell _ v hv) H) rfl rfl ?_)));rintro _ h4 ⟨rfl, H⟩;refine tq (y_assign rfl) (tr_nil (tr_thenN (tr_ret (tr_thenR ?_))));obtain ⟨y5, k6, H⟩ := H;exact tr_rv2 rfl (rv_cellS Tryz.isAgg35 Tryz.sizeOf35 rfl rfl k6) (rv_tmp rfl) ⟨_, _, rfl, H⟩
 ·replace H := H.2 g3;refine tr_skip (tr_thenN (tr_seq (tr_region (tq (y_move rfl) ?_))));obtain ⟨b7, e8, H⟩ := H;refine tq (f_idxS Tryz.runUnderlying9 rfl rfl e8) (tq (y_cvt Tryz.runUnderlying5 Tryz.runUnderlying3 rfl) (tq (f_build rfl (bd_35_0 (IntKind.wrap .i64 b7))) (tr_e (f_alloc (cs := ((⟨0, (⟨#[]⟩ : ByteArray), 0⟩ : S_api_Cell) : S_api_Cell).cells.toArray) Tryz.zeroValue35 rfl H) rfl rfl ?_)));rintro _ h9 ⟨a10, rfl, H⟩;refine tr_e (f_store (vs := (⟨(IntKind.wrap .i64 b7), (⟨#[]⟩ : ByteArray), 0⟩ : S_api_Cell).cells) Tryz.sizeOf35 rfl rfl cellsOfStruct rfl (by intro v hv; exact ones_S_api_Cell _ v hv) H) rfl rfl ?_;rintro _ h11 ⟨rfl, H⟩;refine tr_nil (tr_thenN (tr_seq (tr_region (tq (y_assign rfl) (tr_nil (tr_thenN (tr_seq (tr_region (tq (y_assign rfl) (tr_nil (tr_thenN (tr_seq (tr_block ?_)))))))))))));obtain ⟨m72, H⟩ := H;refine tr_sub [(0, (.string p0)), (2, (.pointer (some a2))), (4, (.pointer (some a10))), (5, (.int .i64 1)), (6, (⟨none, 0, 0⟩ : Sl).enc)] ⟨rfl, rfl, rfl, rfl, rfl, trivial⟩ ?_;refine tr_loop_j (fun m L' h => ∃ (x0 : ByteArray) (x2 : Addr) (x4 : Addr) (x5 : Int) (x6 : Sl), L' = [(0, (.string x0)), (2, (.pointer (some x2))), (4, (.pointer (some x4))), (5, (.int .i64 x5)), (6, x6.enc)] ∧ F.xao.l1 Q m x0 x2 x4 x5 x6 h) ?_ ?_ m72 ⟨_, _, _, _, _, rfl, H⟩
  ·rintro L' h ⟨_, _, _, _, _, _, H⟩; exact H
  ·rintro q1 L' h ⟨x0, x2, x4, x5, x6, rfl, H⟩;unfold F.xao.l1 at H;refine tr_block (tr_seq (tr_seq (tr_region (tq (y_move rfl) (tq (y_move rfl) (tq (y_lenS Tryz.runUnderlying9 rfl) (tq (y_eql rfl rfl) (tr_nil (tr_thenN ?_)))))))));refine tr_cond rfl (fun g12 => ?_) (fun g12 => ?_)
   ·replace H := H.1 g12;refine tr_seq (tr_region (tq (f_build rfl (bd_35_ )) (tr_e (f_store (vs := (⟨0, (⟨#[]⟩ : ByteArray), 0⟩ : S_api_Cell).cells) Tryz.sizeOf35 rfl rfl cellsOfStruct rfl (by intro v hv; exact ones_S_api_Cell _ v hv) H) rfl rfl ?_)));rintro _ h13 ⟨rfl, H⟩;refine tq (y_assign rfl) (tr_nil (tr_thenN (tr_ret (tr_thenR (tr_blockR (tr_thenR (tr_blockR (tr_thenR ?_))))))));obtain ⟨y14, k15, H⟩ := H;exact tr_rv2 rfl (rv_cellS Tryz.isAgg35 Tryz.sizeOf35 rfl rfl k15) (rv_tmp rfl) ⟨_, _, rfl, H⟩
   ·replace H := H.2 g12;refine tr_skip (tr_thenN (tr_seq (tr_seq (tr_region (tq (y_move rfl) (tq (y_move rfl) ?_))))));obtain ⟨b16, e17, H⟩ := H;refine tq (f_idxS Tryz.runUnderlying9 rfl rfl e17) (tq (y_neq rfl rfl) (tr_nil (tr_thenN ?_)));refine tr_cond rfl (fun g18 => ?_) (fun g18 => ?_)
    ·replace H := H.1 g18;refine tr_seq (tr_region (tq (y_move rfl) (tq (y_move rfl) (tq (y_move rfl) ?_))));obtain ⟨b19, e20, H⟩ := H;refine tq (f_idxS Tryz.runUnderlying9 rfl rfl e20) (tr_e (f_buildL (cs := #[(.int .u8 b19)]) rfl rfl (bl_93_1_0 b19) H) rfl rfl ?_);rintro _ h21 ⟨s22, rfl, H⟩;refine tr_e (f_app rfl H) rfl rfl ?_;rintro _ h23 ⟨s24, rfl, H⟩;refine tq (y_assign rfl) (tr_nil (tr_thenN (tr_seq (tr_region (tq (y_move rfl) (tq (y_add rfl rfl) (tq (y_assign rfl) (tr_nil (tr_thenN (tr_exit (tr_thenE (tr_hit (tr_thenN ?_)))))))))))));exact tr_join [(0, (.string x0)), (2, (.pointer (some x2))), (4, (.pointer (some x4))), (5, (.int .i64 (IntKind.wrap .i64 (x5 + 1)))), (6, s24.enc)] ⟨rfl, rfl, rfl, rfl, rfl, trivial⟩ ⟨_, _, _, _, _, rfl, H⟩
    ·replace H := H.2 g18;refine tr_skip (tr_thenN (tr_seq (tr_seq (tr_region (tq (y_move rfl) (tq (y_add rfl rfl) (tq (y_move rfl) (tq (y_lenS Tryz.runUnderlying9 rfl) (tq (y_eql rfl rfl) (tr_nil (tr_thenN ?_)))))))))));refine tr_cond rfl (fun g25 => ?_) (fun g25 => ?_)
     ·replace H := H.1 g25;refine tr_seq (tr_region (tq (f_build rfl (bd_35_ )) (tr_e (f_store (vs := (⟨0, (⟨#[]⟩ : ByteArray), 0⟩ : S_api_Cell).cells) Tryz.sizeOf35 rfl rfl cellsOfStruct rfl (by intro v hv; exact ones_S_api_Cell _ v hv) H) rfl rfl ?_)));rintro _ h26 ⟨rfl, H⟩;refine tq (y_assign rfl) (tr_nil (tr_thenN (tr_ret (tr_thenR (tr_blockR (tr_thenR (tr_blockR (tr_thenR ?_))))))));obtain ⟨y27, k28, H⟩ := H;exact tr_rv2 rfl (rv_cellS Tryz.isAgg35 Tryz.sizeOf35 rfl rfl k28) (rv_tmp rfl) ⟨_, _, rfl, H⟩
     ·replace H := H.2 g25;refine tr_skip (tr_thenN (tr_seq (tr_region (tq (y_move rfl) (tq (y_add rfl rfl) (tq (y_assign rfl) (tr_nil (tr_thenN (tr_seq (tr_seq (tr_region (tq (y_move rfl) (tq (y_move rfl) ?_)))))))))))));refine tq (y_sub rfl rfl) ?_;obtain ⟨b29, e30, H⟩ := H;refine tq (f_idxS Tryz.runUnderlying9 rfl rfl e30) (tq (y_eql rfl rfl) (tr_nil (tr_thenN ?_)));refine tr_cond rfl (fun g31 => ?_) (fun g31 => ?_)
      ·replace H := H.1 g31;refine tr_exit (tr_thenE (tr_miss rfl (tr_thenE (tr_hit (tr_thenN (tr_seq (tr_seq (tr_region (tq (y_move rfl) (tq (y_lenS Tryz.runUnderlying9 rfl) (tq (y_move rfl) (tq (y_sub rfl rfl) (tq (y_assign rfl) ?_)))))))))))));refine tr_nil (tr_thenN (tr_block (tr_seq (tr_region (tq (y_move rfl) (tq (y_lss rfl rfl) (tq (y_assign rfl) (tr_nil (tr_thenN ?_)))))))));refine tr_cond rfl (fun g32 => ?_) (fun g32 => ?_)
       ·replace H := H.1 g32;refine tr_seq (tr_region (tq (f_build rfl (bd_35_ )) (tr_e (f_store (vs := (⟨0, (⟨#[]⟩ : ByteArray), 0⟩ : S_api_Cell).cells) Tryz.sizeOf35 rfl rfl cellsOfStruct rfl (by intro v hv; exact ones_S_api_Cell _ v hv) H) rfl rfl ?_)));rintro _ h33 ⟨rfl, H⟩;refine tq (y_assign rfl) (tr_nil (tr_thenN (tr_ret (tr_blockR (tr_thenR ?_)))));obtain ⟨y34, k35, H⟩ := H;exact tr_rv2 rfl (rv_cellS Tryz.isAgg35 Tryz.sizeOf35 rfl rfl k35) (rv_tmp rfl) ⟨_, _, rfl, H⟩
       ·replace H := H.2 g32;refine tr_seq (tr_region (tq (y_move rfl) (tq (y_gtr rfl rfl) (tq (y_assign rfl) (tr_nil (tr_thenN ?_))))));refine tr_cond rfl (fun g36 => ?_) (fun g36 => ?_)
        ·replace H := H.1 g36;refine tr_seq (tr_region (tq (f_build rfl (bd_35_ )) (tr_e (f_store (vs := (⟨0, (⟨#[]⟩ : ByteArray), 0⟩ : S_api_Cell).cells) Tryz.sizeOf35 rfl rfl cellsOfStruct rfl (by intro v hv; exact ones_S_api_Cell _ v hv) H) rfl rfl ?_)));rintro _ h37 ⟨rfl, H⟩;refine tq (y_assign rfl) (tr_nil (tr_thenN (tr_ret (tr_blockR (tr_thenR ?_)))));obtain ⟨y38, k39, H⟩ := H;exact tr_rv2 rfl (rv_cellS Tryz.isAgg35 Tryz.sizeOf35 rfl rfl k39) (rv_tmp rfl) ⟨_, _, rfl, H⟩
        ·replace H := H.2 g36;refine tr_skip (tr_blockN (tr_thenN (tr_seq (tr_region (tq (y_assign rfl) (tr_nil (tr_thenN (tr_seq (tr_block ?_)))))))));obtain ⟨m61, H⟩ := H;refine tr_sub [(0, (.string x0)), (2, (.pointer (some x2))), (4, (.pointer (some x4))), (5, (.int .i64 (IntKind.wrap .i64 (x5 + 2)))), (6, x6.enc), (8, (.int .u64 0))] ⟨rfl, rfl, rfl, rfl, rfl, rfl, trivial⟩ ?_;refine tr_loop_j (fun m L' h => ∃ (x0 : ByteArray) (x2 : Addr) (x4 : Addr) (x5 : Int) (x6 : Sl) (x8 : Int), L' = [(0, (.string x0)), (2, (.pointer (some x2))), (4, (.pointer (some x4))), (5, (.int .i64 x5)), (6, x6.enc), (8, (.int .u64 x8))] ∧ F.xao.l2 Q m x0 x2 x4 x5 x6 x8 h) ?_ ?_ m61 ⟨_, _, _, _, _, _, rfl, H⟩
         ·rintro L' h ⟨_, _, _, _, _, _, _, H⟩; exact H
         ·rintro q2 L' h ⟨x0, x2, x4, x5, x6, x8, rfl, H⟩;unfold F.xao.l2 at H;refine tr_seq (tr_seq (tr_region (tq (y_move rfl) (tq (y_move rfl) (tq (y_lenS Tryz.runUnderlying9 rfl) (tq (y_lss rfl rfl) (tr_nil (tr_thenN ?_))))))));refine tr_cond rfl (fun g40 => ?_) (fun g40 => ?_)
          ·replace H := H.1 g40;refine tr_skip (tr_thenN (tr_seq (tr_block (tr_region (tq (y_move rfl) ?_)))));obtain ⟨e41, H⟩ := H;refine tq (y_shl rfl rfl e41) (tq (y_move rfl) (tq (y_move rfl) ?_));obtain ⟨b42, e43, H⟩ := H;refine tq (f_idxS Tryz.runUnderlying9 rfl rfl e43) (tq (y_cvt Tryz.runUnderlying5 Tryz.runUnderlying90 rfl) (tq (y_or rfl rfl) (tq (y_assign rfl) (tr_nil (tr_blockN (tr_thenN (tr_region (tq (y_move rfl) (tq (y_add rfl rfl) (tq (y_assign rfl) (tr_nil (tr_thenN ?_))))))))))));exact tr_join [(0, (.string x0)), (2, (.pointer (some x2))), (4, (.pointer (some x4))), (5, (.int .i64 (IntKind.wrap .i64 (x5 + 1)))), (6, x6.enc), (8, (.int .u64 (bitsOf .or .u64 (IntKind.wrap .u64 (x8 * (2 ^ (min (8 : Int).toNat (IntKind.bits .u64)) : Int))) (IntKind.wrap .u64 b42))))] ⟨rfl, rfl, rfl, rfl, rfl, rfl, trivial⟩ ⟨_, _, _, _, _, _, rfl, H⟩
          ·replace H := H.2 g40;refine tr_exit (tr_thenE (tr_thenE (tr_hit (tr_thenN (tr_seq (tr_region (tq (y_move rfl) (tr_e (f_cvtT rfl H) rfl rfl ?_))))))));rintro _ h44 ⟨s45, rfl, H⟩;refine tq (y_move rfl) (tq (y_sub rfl rfl) (tq (y_cvt Tryz.runUnderlying90 Tryz.runUnderlying2 rfl) (tq (y_fa (off := 1) Tryz.runUnderlying35 fo_35_1 rfl) (tr_e (f_store (vs := [(.string s45)]) Tryz.sizeOf9 rfl rfl rfl rfl (one1 rfl) H) rfl rfl ?_))));rintro _ h46 ⟨rfl, H⟩;refine tq (y_fa (off := 2) Tryz.runUnderlying35 fo_35_2 rfl) (tr_e (f_store (vs := [(.int .i64 (IntKind.wrap .i64 (IntKind.wrap .u64 (x8 - 9223372036854775808))))]) Tryz.sizeOf2 rfl rfl rfl rfl (one1 rfl) H) rfl rfl ?_);rintro _ h47 ⟨rfl, H⟩;refine tr_nil (tr_thenN (tr_seq (tr_seq (tr_region ?_))));obtain ⟨y48, k49, H⟩ := H;refine tr_h (y_ldS Tryz.isAgg35 Tryz.sizeOf35 rfl rfl) k49 rfl rfl (tr_e (e_call Tryz.call109 rfl (F.xaq_ok H)) rfl rfl ?_);rintro _ h50 ⟨r51, rfl, H⟩;refine tq (y_assign rfl) (tr_nil (tr_thenN (tr_seq (tr_region (tq (y_move rfl) (tq (y_neq rfl rfl) (tr_nil (tr_thenN ?_))))))));refine tr_cond rfl (fun g52 => ?_) (fun g52 => ?_)
           ·replace H := H.1 g52;refine tr_seq (tr_region (tq (f_build rfl (bd_35_ )) (tq (y_move rfl) (tr_e (f_store (vs := (⟨0, (⟨#[]⟩ : ByteArray), 0⟩ : S_api_Cell).cells) Tryz.sizeOf35 rfl rfl cellsOfStruct rfl (by intro v hv; exact ones_S_api_Cell _ v hv) H) rfl rfl ?_))));rintro _ h53 ⟨rfl, H⟩;refine tq (y_assign rfl) (tr_nil (tr_thenN (tr_ret (tr_thenR ?_))));obtain ⟨y54, k55, H⟩ := H;exact tr_rv2 rfl (rv_cellS Tryz.isAgg35 Tryz.sizeOf35 rfl rfl k55) (rv_tmp rfl) ⟨_, _, rfl, H⟩
           ·replace H := H.2 g52;refine tr_skip (tr_thenN (tr_seq (tr_region ?_)));obtain ⟨y56, k57, H⟩ := H;refine tr_h (y_ldS Tryz.isAgg35 Tryz.sizeOf35 rfl rfl) k57 rfl rfl (tr_e (f_store (vs := y56.cells) Tryz.sizeOf35 rfl rfl cellsOfStruct rfl (by intro v hv; exact ones_S_api_Cell _ v hv) H) rfl rfl ?_);rintro _ h58 ⟨rfl, H⟩;refine tq (y_assign rfl) (tr_nil (tr_thenN (tr_ret ?_)));obtain ⟨y59, k60, H⟩ := H;exact tr_rv2 rfl (rv_cellS Tryz.isAgg35 Tryz.sizeOf35 rfl rfl k60) (rv_tmp rfl) ⟨_, _, rfl, H⟩
      ·replace H := H.2 g31;refine tr_skip (tr_thenN (tr_seq (tr_seq (tr_region (tq (y_move rfl) (tq (y_move rfl) (tq (y_sub rfl rfl) ?_)))))));obtain ⟨b62, e63, H⟩ := H;refine tq (f_idxS Tryz.runUnderlying9 rfl rfl e63) (tq (y_neq rfl rfl) (tr_nil (tr_thenN ?_)));refine tr_cond rfl (fun g64 => ?_) (fun g64 => ?_)
       ·replace H := H.1 g64;refine tr_seq (tr_region (tq (f_build rfl (bd_35_ )) (tr_e (f_store (vs := (⟨0, (⟨#[]⟩ : ByteArray), 0⟩ : S_api_Cell).cells) Tryz.sizeOf35 rfl rfl cellsOfStruct rfl (by intro v hv; exact ones_S_api_Cell _ v hv) H) rfl rfl ?_)));rintro _ h65 ⟨rfl, H⟩;refine tq (y_assign rfl) (tr_nil (tr_thenN (tr_ret (tr_thenR (tr_blockR (tr_thenR (tr_blockR (tr_thenR ?_))))))));obtain ⟨y66, k67, H⟩ := H;exact tr_rv2 rfl (rv_cellS Tryz.isAgg35 Tryz.sizeOf35 rfl rfl k67) (rv_tmp rfl) ⟨_, _, rfl, H⟩
       ·replace H := H.2 g64;refine tr_skip (tr_thenN (tr_region (tq (y_move rfl) (tr_e (f_buildL (cs := #[(.int .u8 0)]) rfl rfl (bl_93_1_0 0) H) rfl rfl ?_))));rintro _ h68 ⟨s69, rfl, H⟩;refine tr_e (f_app rfl H) rfl rfl ?_;rintro _ h70 ⟨s71, rfl, H⟩;refine tq (y_assign rfl) (tr_nil (tr_blockN (tr_thenN ?_)));exact tr_join [(0, (.string x0)), (2, (.pointer (some x2))), (4, (.pointer (some x4))), (5, (.int .i64 (IntKind.wrap .i64 (x5 + 2)))), (6, s71.enc)] ⟨rfl, rfl, rfl, rfl, rfl, trivial⟩ ⟨_, _, _, _, _, rfl, H⟩
def F.xbf.l1 (Q : Int -> Bool -> H -> Prop) : Nat -> Sl -> Int -> Value -> Int -> Int -> Int -> H -> Prop
  | 0, _, _, _, _, _, _, _ => False
  | q1 + 1, x0, x1, x2, x8, x9, x10, h =>
    ((decide (x9 < x10)) = true ->
    0 <= (1 : Int) ∧
    idxA x0 (IntKind.wrap .i64 (Int.fdiv (IntKind.wrap .u64 (IntKind.wrap .i64 (x9 + x10))) (2 ^ (min (1 : Int).toNat (IntKind.bits .u64)) : Int))) 6 fun a3 =>
    ld_S_chain_version_api_Agg h a3 fun y5 =>
    CV PP x2 [(.agg y5.cells.toArray), (.int .i64 x1)] h fun u h7 => ∃ (r8 : Int), u = (.int .i64 r8) ∧
    ((decide (r8 < 0)) = true ->
    (F.xbf.l1 Q q1) x0 x1 x2 x8 (IntKind.wrap .i64 ((IntKind.wrap .i64 (Int.fdiv (IntKind.wrap .u64 (IntKind.wrap .i64 (x9 + x10))) (2 ^ (min (1 : Int).toNat (IntKind.bits .u64)) : Int))) + 1)) x10 h7) ∧
    ((decide (r8 < 0)) = false ->
    (F.xbf.l1 Q q1) x0 x1 x2 x8 x9 (IntKind.wrap .i64 (Int.fdiv (IntKind.wrap .u64 (IntKind.wrap .i64 (x9 + x10))) (2 ^ (min (1 : Int).toNat (IntKind.bits .u64)) : Int))) h7)) ∧
    ((decide (x9 < x10)) = false ->
    ((decide (x9 < x8)) = true ->
    idxA x0 x9 6 fun a11 =>
    ld_S_chain_version_api_Agg h a11 fun y13 =>
    CV PP x2 [(.agg y13.cells.toArray), (.int .i64 x1)] h fun u h15 => ∃ (r16 : Int), u = (.int .i64 r16) ∧
    Q x9 ((r16 == 0)) h15) ∧
    ((decide (x9 < x8)) = false ->
    Q x9 false h))
def F.xbf (p0 : Sl) (p1 : Int) (p2 : Value) (h : H) (Q : Int -> Bool -> H -> Prop) : Prop :=
  ∃ m, F.xbf.l1 Q m p0 p1 p2 (p0.len : Int) 0 (p0.len : Int) h
theorem F.xbf_ok {p0 : Sl} {p1 : Int} {p2 : Value} {h : H} {Q : Int -> Bool -> H -> Prop} (H : F.xbf p0 p1 p2 h Q) : Fn PP 126 ([p0.enc, (.int .i64 p1), p2] : List Value).toArray h fun r h' => ∃ r0 r1, r = .tuple #[(.int .i64 r0), (.bool r1)] ∧ Q r0 r1 h' := by
 unfold F.xbf at H;refine fn_of Tryz.func126 Tryz.ntmps126 rfl rfl fun w0 => (tr_sub [(0, p0.enc), (1, (.int .i64 p1)), (2, p2)] ⟨rfl, rfl, rfl, trivial⟩ (tr_seq (tr_region (tq (y_assign rfl) (tq (y_assign rfl) (tr_nil (tr_thenN (tr_seq (tr_region (tq (y_move rfl) (tq (y_len (ts := #[]) Tryz.runUnderlying162 (o := p0.ptr) (n := p0.len) (cap := p0.cap) rfl) (tq (y_assign rfl) (tr_nil ?_)))))))))))));refine tr_thenN (tr_seq (tr_region (tq (y_move rfl) (tq (y_assign rfl) (tq (y_assign rfl) (tr_nil (tr_thenN (tr_seq (tr_block ?_)))))))));obtain ⟨m17, H⟩ := H;refine tr_sub [(0, p0.enc), (1, (.int .i64 p1)), (2, p2), (8, (.int .i64 (p0.len : Int))), (9, (.int .i64 0)), (10, (.int .i64 (p0.len : Int)))] ⟨rfl, rfl, rfl, rfl, rfl, rfl, trivial⟩ ?_;refine tr_loop_j (fun m L' h => ∃ (x0 : Sl) (x1 : Int) (x2 : Value) (x8 : Int) (x9 : Int) (x10 : Int), L' = [(0, x0.enc), (1, (.int .i64 x1)), (2, x2), (8, (.int .i64 x8)), (9, (.int .i64 x9)), (10, (.int .i64 x10))] ∧ F.xbf.l1 Q m x0 x1 x2 x8 x9 x10 h) ?_ ?_ m17 ⟨_, _, _, _, _, _, rfl, H⟩
 ·rintro L' h ⟨_, _, _, _, _, _, _, H⟩; exact H
 ·rintro q1 L' h ⟨x0, x1, x2, x8, x9, x10, rfl, H⟩;unfold F.xbf.l1 at H;refine tr_seq (tr_seq (tr_region (tq (y_move rfl) (tq (y_move rfl) (tq (y_lss rfl rfl) (tr_nil (tr_thenN ?_)))))));refine tr_cond rfl (fun g1 => ?_) (fun g1 => ?_)
  ·replace H := H.1 g1;refine tr_skip (tr_thenN (tr_block (tr_seq (tr_region (tq (y_move rfl) (tq (y_move rfl) (tq (y_add rfl rfl) (tq (y_cvt Tryz.runUnderlying3 Tryz.runUnderlying177 rfl) ?_))))))));obtain ⟨e2, H⟩ := H;refine tq (y_shr rfl rfl e2) (tq (y_cvt Tryz.runUnderlying177 Tryz.runUnderlying3 rfl) (tq (y_assign rfl) (tr_nil (tr_thenN (tr_seq (tr_region (tq (y_move rfl) (tq (y_move rfl) (tq (y_move rfl) ?_)))))))));obtain ⟨a3, e4, H⟩ := H;refine tq (f_idx (s := x0) Tryz.runUnderlying162 Tryz.sizeOf152 rfl rfl e4) ?_;obtain ⟨y5, k6, H⟩ := H;refine tr_h (y_ldS Tryz.isAgg152 Tryz.sizeOf152 rfl rfl) k6 rfl rfl (tq (y_move rfl) (tr_e (e_callD rfl rfl H) rfl rfl ?_));rintro _ h7 ⟨r8, rfl, H⟩;refine tq (y_lss rfl rfl) (tr_nil (tr_thenN ?_));refine tr_cond rfl (fun g9 => ?_) (fun g9 => ?_)
   ·replace H := H.1 g9;refine tr_region (tq (y_move rfl) (tq (y_add rfl rfl) (tq (y_assign rfl) (tr_nil (tr_blockN (tr_thenN ?_))))));exact tr_join [(0, x0.enc), (1, (.int .i64 x1)), (2, x2), (8, (.int .i64 x8)), (9, (.int .i64 (IntKind.wrap .i64 ((IntKind.wrap .i64 (Int.fdiv (IntKind.wrap .u64 (IntKind.wrap .i64 (x9 + x10))) (2 ^ (min (1 : Int).toNat (IntKind.bits .u64)) : Int))) + 1)))), (10, (.int .i64 x10))] ⟨rfl, rfl, rfl, rfl, rfl, rfl, trivial⟩ ⟨_, _, _, _, _, _, rfl, H⟩
   ·replace H := H.2 g9;refine tr_region (tq (y_move rfl) (tq (y_assign rfl) (tr_nil (tr_blockN (tr_thenN ?_)))));exact tr_join [(0, x0.enc), (1, (.int .i64 x1)), (2, x2), (8, (.int .i64 x8)), (9, (.int .i64 x9)), (10, (.int .i64 (IntKind.wrap .i64 (Int.fdiv (IntKind.wrap .u64 (IntKind.wrap .i64 (x9 + x10))) (2 ^ (min (1 : Int).toNat (IntKind.bits .u64)) : Int)))))] ⟨rfl, rfl, rfl, rfl, rfl, rfl, trivial⟩ ⟨_, _, _, _, _, _, rfl, H⟩
  ·replace H := H.2 g1;refine tr_exit (tr_thenE (tr_thenE (tr_hit (tr_thenN (tr_seq (tr_region (tq (y_move rfl) (tq (y_move rfl) (tq (y_move rfl) (tq (y_lss rfl rfl) (tq (y_move rfl) ?_)))))))))));refine tr_split (t := 39) rfl (fun g10 => ?_) (fun g10 => ?_)
   ·replace H := H.1 g10;refine tq (y_move rfl) (tq (y_move rfl) (tq (y_move rfl) ?_));obtain ⟨a11, e12, H⟩ := H;refine tq (f_idx (s := x0) Tryz.runUnderlying162 Tryz.sizeOf152 rfl rfl e12) ?_;obtain ⟨y13, k14, H⟩ := H;refine tr_h (y_ldS Tryz.isAgg152 Tryz.sizeOf152 rfl rfl) k14 rfl rfl (tq (y_move rfl) (tr_e (e_callD rfl rfl H) rfl rfl ?_));rintro _ h15 ⟨r16, rfl, H⟩;refine tq (y_eql rfl rfl) (tq (y_pick_t rfl rfl) (tq (y_assign rfl) (tq (y_assign rfl) (tr_nil (tr_thenN (tr_ret ?_))))));exact tr_ret2 rfl rfl rfl ⟨_, _, rfl, H⟩
   ·replace H := H.2 g10;refine ts (ts (ts (ts (ts (ts (ts (ts (tq (y_pick_f rfl rfl) (tq (y_assign rfl) (tq (y_assign rfl) (tr_nil (tr_thenN (tr_ret ?_)))))))))))));exact tr_ret2 rfl rfl rfl ⟨_, _, rfl, H⟩
def F.xcs (p0 : S_chain_version_api_Agg) (p1 : Int) (h : H) (Q : Int -> H -> Prop) : Prop :=
  new h p0.cells.toArray ty_152 fun a2 h1 =>
  ldI .i64 h1 (a2.add 0) fun y3 =>
  ((decide (y3 <= p1)) = true ->
  Q (-1) h1) ∧
  ((decide (y3 <= p1)) = false ->
  Q 1 h1)
theorem F.xcs_ok {p0 : S_chain_version_api_Agg} {p1 : Int} {h : H} {Q : Int -> H -> Prop} (H : F.xcs p0 p1 h Q) : Fn PP 127 ([(.agg p0.cells.toArray), (.int .i64 p1)] : List Value).toArray h fun r h' => ∃ r0, r = (.int .i64 r0) ∧ Q r0 h' := by
 unfold F.xcs at H;refine fn_of Tryz.func127 Tryz.ntmps127 rfl rfl fun w0 => (tr_sub [(0, (.agg p0.cells.toArray)), (1, (.int .i64 p1))] ⟨rfl, rfl, trivial⟩ (tr_seq (tr_region (tr_e (f_box (cs := p0.cells.toArray) rfl rfl H) rfl rfl ?_))));rintro _ h1 ⟨a2, rfl, H⟩;refine tq (y_assign rfl) (tr_nil (tr_thenN (tr_seq (tr_seq (tr_region (tq (y_fa (off := 0) Tryz.runUnderlying152 fo_152_0 rfl) ?_))))));obtain ⟨y3, k4, H⟩ := H;refine tr_h (y_ld Tryz.isAgg3 rfl) k4 rfl rfl (tq (y_move rfl) (tq (y_leq rfl rfl) (tr_nil (tr_thenN ?_))));refine tr_cond rfl (fun g5 => ?_) (fun g5 => ?_)
 ·replace H := H.1 g5;refine tr_seq (tr_region (tq (y_assign rfl) (tr_nil (tr_thenN (tr_ret (tr_thenR ?_))))));exact tr_ret1 rfl rfl ⟨_, rfl, H⟩
 ·replace H := H.2 g5;refine tr_skip (tr_thenN (tr_seq (tr_region (tq (y_assign rfl) (tr_nil (tr_thenN (tr_ret ?_)))))));exact tr_ret1 rfl rfl ⟨_, rfl, H⟩
def F.xbh (p0 : Option Addr) (p1 : Int) (h : H) (Q : Int -> H -> Prop) : Prop :=
  nn p0 fun a1 =>
  ldL h (a1.add 0) fun y3 =>
  F.xbf y3 p1 (.func (.func 127) #[] #[]) h fun r6 r7 h5 =>
  Q (IntKind.wrap .i64 (r6 - 1)) h5
theorem F.xbh_ok {p0 : Option Addr} {p1 : Int} {h : H} {Q : Int -> H -> Prop} (H : F.xbh p0 p1 h Q) : Fn PP 100 ([(.pointer p0), (.int .i64 p1)] : List Value).toArray h fun r h' => ∃ r0, r = (.int .i64 r0) ∧ Q r0 h' := by
 unfold F.xbh at H;refine fn_of Tryz.func100 Tryz.ntmps100 rfl rfl fun w0 => (tr_sub [(0, (.pointer p0)), (1, (.int .i64 p1))] ⟨rfl, rfl, trivial⟩ (tr_seq (tr_region (tq (y_assign rfl) (tr_nil (tr_thenN (tr_seq (tr_region (tq (y_move rfl) ?_)))))))));obtain ⟨a1, e2, H⟩ := H;refine tq (f_nn rfl e2) (tq (y_fa (off := 0) Tryz.runUnderlying164 fo_164_0 rfl) ?_);obtain ⟨y3, k4, H⟩ := H;refine tr_h (y_ld Tryz.isAgg162 rfl) k4 rfl rfl (tq (y_move rfl) (tr_e (e_call Tryz.call126 rfl (F.xbf_ok H)) rfl rfl ?_));rintro _ h5 ⟨r6, r7, rfl, H⟩;refine tq (y_move rfl) (tq (y_ext rfl rfl) (tq (y_ext rfl rfl) (tq (y_assign rfl) (tq (y_assign rfl) (tr_nil (tr_thenN (tr_seq (tr_region (tq (y_move rfl) (tq (y_sub rfl rfl) (tq (y_assign rfl) (tr_nil (tr_thenN ?_)))))))))))));refine tr_ret ?_;exact tr_ret1 rfl rfl ⟨_, rfl, H⟩
def F.xau.j1 (Q : S_api_Agg -> Bool -> H -> Prop) (x4 : Addr) (h : H) : Prop :=
  ld_S_api_Agg h x4 fun y3 =>
  stH h x4 y3.cells fun h5 =>
  ld_S_api_Agg h5 x4 fun y6 =>
  Q y6 false h5
def F.xau.j2 (Q : S_api_Agg -> Bool -> H -> Prop) (x0 : Option Addr) (x4 : Addr) (x6 : Int) (x22 : Bool) (h : H) : Prop :=
  (x22 = true ->
  nn x0 fun a11 =>
  ldL h (a11.add 0) fun y13 =>
  idxA y13 x6 6 fun a15 =>
  ld_S_api_Agg h (a15.add 1) fun y17 =>
  stH h x4 y17.cells fun h19 =>
  ld_S_api_Agg h19 x4 fun y20 =>
  Q y20 true h19) ∧
  (x22 = false ->
  F.xau.j1 Q x4 h)
def F.xau (p0 : Option Addr) (p1 : Int) (h : H) (Q : S_api_Agg -> Bool -> H -> Prop) : Prop :=
  new h (((⟨0, 0, 0, 0⟩ : S_api_Agg) : S_api_Agg).cells.toArray) ty_40 fun a2 h1 =>
  F.xbh p0 p1 h1 fun r9 h8 =>
  ((decide (r9 >= 0)) = true ->
  nn p0 fun a23 =>
  ldL h8 (a23.add 0) fun y25 =>
  idxA y25 r9 6 fun a27 =>
  ldB h8 (a27.add 5) fun y29 =>
  F.xau.j2 Q p0 a2 r9 (!y29) h8) ∧
  ((decide (r9 >= 0)) = false ->
  F.xau.j2 Q p0 a2 r9 false h8)
theorem F.xau_ok {p0 : Option Addr} {p1 : Int} {h : H} {Q : S_api_Agg -> Bool -> H -> Prop} (H : F.xau p0 p1 h Q) : Fn PP 108 ([(.pointer p0), (.int .i64 p1)] : List Value).toArray h fun r h' => ∃ r0 r1, r = .tuple #[(.agg r0.cells.toArray), (.bool r1)] ∧ Q r0 r1 h' := by
 unfold F.xau at H;refine fn_of Tryz.func108 Tryz.ntmps108 rfl rfl fun w0 => (tr_sub [(0, (.pointer p0)), (1, (.int .i64 p1))] ⟨rfl, rfl, trivial⟩ (tr_seq (tr_region (tr_e (f_alloc (cs := ((⟨0, 0, 0, 0⟩ : S_api_Agg) : S_api_Agg).cells.toArray) Tryz.zeroValue40 rfl H) rfl rfl ?_))));rintro _ h1 ⟨a2, rfl, H⟩;refine tq (y_assign rfl) (tr_nil (tr_thenN ?_));refine tr_seq_j (fun L' h => ∃ (x4 : Addr), L' = [(4, (.pointer (some x4)))] ∧ F.xau.j1 Q x4 h) ?_ ?_
 ·rintro L' h ⟨x4, rfl, H⟩;unfold F.xau.j1 at H;refine tr_seq (tr_region ?_);obtain ⟨y3, k4, H⟩ := H;refine tr_h (y_ldS Tryz.isAgg40 Tryz.sizeOf40 rfl rfl) k4 rfl rfl (tr_e (f_store (vs := y3.cells) Tryz.sizeOf40 rfl rfl cellsOfStruct rfl (by intro v hv; exact ones_S_api_Agg _ v hv) H) rfl rfl ?_);rintro _ h5 ⟨rfl, H⟩;refine tq (y_assign rfl) (tr_nil (tr_thenN (tr_ret ?_)));obtain ⟨y6, k7, H⟩ := H;exact tr_rv2 rfl (rv_cellS Tryz.isAgg40 Tryz.sizeOf40 rfl rfl k7) (rv_tmp rfl) ⟨_, _, rfl, H⟩
 ·refine tr_seq (tr_region (tq (y_move rfl) (tq (y_move rfl) (tr_e (e_call Tryz.call100 rfl (F.xbh_ok H)) rfl rfl ?_))));rintro _ h8 ⟨r9, rfl, H⟩;refine tq (y_assign rfl) (tr_nil (tr_thenN ?_));refine tr_seq_j (fun L' h => ∃ (x0 : Option Addr) (x4 : Addr) (x6 : Int) (x22 : Bool), L' = [(0, (.pointer x0)), (4, (.pointer (some x4))), (6, (.int .i64 x6)), (22, (.bool x22))] ∧ F.xau.j2 Q x0 x4 x6 x22 h) ?_ ?_
  ·rintro L' h ⟨x0, x4, x6, x22, rfl, H⟩;unfold F.xau.j2 at H;refine tr_cond rfl (fun g10 => ?_) (fun g10 => ?_)
   ·replace H := H.1 g10;refine tr_seq (tr_region (tq (y_move rfl) ?_));obtain ⟨a11, e12, H⟩ := H;refine tq (f_nn rfl e12) (tq (y_fa (off := 0) Tryz.runUnderlying164 fo_164_0 rfl) ?_);obtain ⟨y13, k14, H⟩ := H;refine tr_h (y_ld Tryz.isAgg162 rfl) k14 rfl rfl (tq (y_move rfl) ?_);obtain ⟨a15, e16, H⟩ := H;refine tq (f_idx (s := y13) Tryz.runUnderlying162 Tryz.sizeOf152 rfl rfl e16) (tq (y_fa (off := 1) Tryz.runUnderlying152 fo_152_1 rfl) ?_);obtain ⟨y17, k18, H⟩ := H;refine tr_h (y_ldS Tryz.isAgg40 Tryz.sizeOf40 rfl rfl) k18 rfl rfl (tr_e (f_store (vs := y17.cells) Tryz.sizeOf40 rfl rfl cellsOfStruct rfl (by intro v hv; exact ones_S_api_Agg _ v hv) H) rfl rfl ?_);rintro _ h19 ⟨rfl, H⟩;refine tq (y_assign rfl) (tr_nil (tr_thenN (tr_ret (tr_thenR ?_))));obtain ⟨y20, k21, H⟩ := H;exact tr_rv2 rfl (rv_cellS Tryz.isAgg40 Tryz.sizeOf40 rfl rfl k21) (rv_tmp rfl) ⟨_, _, rfl, H⟩
   ·replace H := H.2 g10;refine tr_skip (tr_thenN ?_);exact tr_join [(4, (.pointer (some x4)))] ⟨rfl, trivial⟩ ⟨_, rfl, H⟩
  ·refine tr_region (tq (y_move rfl) (tq (y_geq rfl rfl) (tq (y_move rfl) ?_)));refine tr_split (t := 12) rfl (fun g22 => ?_) (fun g22 => ?_)
   ·replace H := H.1 g22;refine tq (y_move rfl) ?_;obtain ⟨a23, e24, H⟩ := H;refine tq (f_nn rfl e24) (tq (y_fa (off := 0) Tryz.runUnderlying164 fo_164_0 rfl) ?_);obtain ⟨y25, k26, H⟩ := H;refine tr_h (y_ld Tryz.isAgg162 rfl) k26 rfl rfl (tq (y_move rfl) ?_);obtain ⟨a27, e28, H⟩ := H;refine tq (f_idx (s := y25) Tryz.runUnderlying162 Tryz.sizeOf152 rfl rfl e28) (tq (y_fa (off := 5) Tryz.runUnderlying152 fo_152_2 rfl) ?_);obtain ⟨y29, k30, H⟩ := H;refine tr_h (y_ld Tryz.isAgg4 rfl) k30 rfl rfl (tq (y_not rfl) (tq (y_pick_t rfl rfl) (tr_nil (tr_thenN ?_))));exact tr_join [(0, (.pointer p0)), (4, (.pointer (some a2))), (6, (.int .i64 r9)), (22, (.bool (!y29)))] ⟨rfl, rfl, rfl, rfl, trivial⟩ ⟨_, _, _, _, rfl, H⟩
   ·replace H := H.2 g22;refine ts (ts (ts (ts (ts (ts (ts (ts (ts (tq (y_pick_f rfl rfl) (tr_nil (tr_thenN ?_)))))))))));exact tr_join [(0, (.pointer p0)), (4, (.pointer (some a2))), (6, (.int .i64 r9)), (22, (.bool false))] ⟨rfl, rfl, rfl, rfl, trivial⟩ ⟨_, _, _, _, rfl, H⟩
def F.xci (p0 : Option Addr) (p1 : Int) (h : H) (Q : S_api_Agg -> Bool -> H -> Prop) : Prop :=
  new h (((⟨0, 0, 0, 0⟩ : S_api_Agg) : S_api_Agg).cells.toArray) ty_40 fun a2 h1 =>
  (p0.isNone = true ->
  stH h1 a2 ((⟨0, 0, 0, 0⟩ : S_api_Agg).cells) fun h4 =>
  ld_S_api_Agg h4 a2 fun y5 =>
  Q y5 false h4) ∧
  (p0.isNone = false ->
  (((p1 == 0)) = true ->
  F.xbr p0 h1 fun r9 r10 r11 h8 =>
  new h8 (((⟨0, 0, 0, 0⟩ : S_api_Agg) : S_api_Agg).cells.toArray) ty_40 fun a13 h12 =>
  stH h12 a13 r9.cells fun h14 =>
  ld_S_api_Agg h14 a13 fun y15 =>
  stH h14 a2 y15.cells fun h17 =>
  ld_S_api_Agg h17 a2 fun y18 =>
  Q y18 r11 h17) ∧
  (((p1 == 0)) = false ->
  F.xau p0 p1 h1 fun r21 r22 h20 =>
  stH h20 a2 r21.cells fun h23 =>
  ld_S_api_Agg h23 a2 fun y24 =>
  Q y24 r22 h23))
theorem F.xci_ok {p0 : Option Addr} {p1 : Int} {h : H} {Q : S_api_Agg -> Bool -> H -> Prop} (H : F.xci p0 p1 h Q) : Fn PP 71 ([(.pointer p0), (.int .i64 p1)] : List Value).toArray h fun r h' => ∃ r0 r1, r = .tuple #[(.agg r0.cells.toArray), (.bool r1)] ∧ Q r0 r1 h' := by
 unfold F.xci at H;refine fn_of Tryz.func71 Tryz.ntmps71 rfl rfl fun w0 => (tr_sub [(0, (.pointer p0)), (1, (.int .i64 p1))] ⟨rfl, rfl, trivial⟩ (tr_seq (tr_region (tr_e (f_alloc (cs := ((⟨0, 0, 0, 0⟩ : S_api_Agg) : S_api_Agg).cells.toArray) Tryz.zeroValue40 rfl H) rfl rfl ?_))));rintro _ h1 ⟨a2, rfl, H⟩;refine tq (y_assign rfl) (tr_nil (tr_thenN (tr_seq (tr_seq (tr_region (tq (y_move rfl) (tq (y_pnil_eql Tryz.runUnderlying107 rfl rfl) (tr_nil (tr_thenN ?_)))))))));refine tr_cond rfl (fun g3 => ?_) (fun g3 => ?_)
 ·replace H := H.1 g3;refine tr_seq (tr_region (tq (f_build rfl (bd_40_ )) (tr_e (f_store (vs := (⟨0, 0, 0, 0⟩ : S_api_Agg).cells) Tryz.sizeOf40 rfl rfl cellsOfStruct rfl (by intro v hv; exact ones_S_api_Agg _ v hv) H) rfl rfl ?_)));rintro _ h4 ⟨rfl, H⟩;refine tq (y_assign rfl) (tr_nil (tr_thenN (tr_ret (tr_thenR ?_))));obtain ⟨y5, k6, H⟩ := H;exact tr_rv2 rfl (rv_cellS Tryz.isAgg40 Tryz.sizeOf40 rfl rfl k6) (rv_tmp rfl) ⟨_, _, rfl, H⟩
 ·replace H := H.2 g3;refine tr_skip (tr_thenN (tr_seq (tr_seq (tr_region (tq (y_move rfl) (tq (y_eql rfl rfl) (tr_nil (tr_thenN ?_))))))));refine tr_cond rfl (fun g7 => ?_) (fun g7 => ?_)
  ·replace H := H.1 g7;refine tr_seq (tr_region (tq (y_move rfl) (tr_e (e_call Tryz.call65 rfl (F.xbr_ok H)) rfl rfl ?_)));rintro _ h8 ⟨r9, r10, r11, rfl, H⟩;refine tq (y_move rfl) (tq (y_ext rfl rfl) (tq (y_ext rfl rfl) (tq (y_ext rfl rfl) (tr_e (f_alloc (cs := ((⟨0, 0, 0, 0⟩ : S_api_Agg) : S_api_Agg).cells.toArray) Tryz.zeroValue40 rfl H) rfl rfl ?_))));rintro _ h12 ⟨a13, rfl, H⟩;refine tr_e (f_store (vs := r9.cells) Tryz.sizeOf40 rfl rfl cellsOfStruct rfl (by intro v hv; exact ones_S_api_Agg _ v hv) H) rfl rfl ?_;rintro _ h14 ⟨rfl, H⟩;refine tq (y_assign rfl) (tq (y_assign rfl) (tr_nil (tr_thenN (tr_seq (tr_region ?_)))));obtain ⟨y15, k16, H⟩ := H;refine tr_h (y_ldS Tryz.isAgg40 Tryz.sizeOf40 rfl rfl) k16 rfl rfl (tq (y_move rfl) (tr_e (f_store (vs := y15.cells) Tryz.sizeOf40 rfl rfl cellsOfStruct rfl (by intro v hv; exact ones_S_api_Agg _ v hv) H) rfl rfl ?_));rintro _ h17 ⟨rfl, H⟩;refine tq (y_assign rfl) (tr_nil (tr_thenN (tr_ret (tr_thenR ?_))));obtain ⟨y18, k19, H⟩ := H;exact tr_rv2 rfl (rv_cellS Tryz.isAgg40 Tryz.sizeOf40 rfl rfl k19) (rv_tmp rfl) ⟨_, _, rfl, H⟩
  ·replace H := H.2 g7;refine tr_skip (tr_thenN (tr_seq (tr_region (tq (y_move rfl) (tq (y_move rfl) (tr_e (e_call Tryz.call108 rfl (F.xau_ok H)) rfl rfl ?_))))));rintro _ h20 ⟨r21, r22, rfl, H⟩;refine tq (y_ext rfl rfl) (tq (y_ext rfl rfl) (tr_e (f_store (vs := r21.cells) Tryz.sizeOf40 rfl rfl cellsOfStruct rfl (by intro v hv; exact ones_S_api_Agg _ v hv) H) rfl rfl ?_));rintro _ h23 ⟨rfl, H⟩;refine tq (y_assign rfl) (tr_nil (tr_thenN (tr_ret ?_)));obtain ⟨y24, k25, H⟩ := H;exact tr_rv2 rfl (rv_cellS Tryz.isAgg40 Tryz.sizeOf40 rfl rfl k25) (rv_tmp rfl) ⟨_, _, rfl, H⟩
def F.xaj.j1 (Q : Sl -> H -> Prop) (ds : List Nat) (x11 : Addr) (h : H) : Prop :=
  ldL h x11 fun y14 =>
  shuts ds h fun h16 =>
  Q y14 h16
def F.xaj.j2 (Q : Sl -> H -> Prop) (K1 : H -> Prop) (J1 : Nat -> H -> Prop) (l1 : Nat) (x11 : Addr) (x15 : Addr) (x17 : Addr) (x47 : Bool) (h : H) : Prop :=
  (x47 = true ->
  ldL h x11 fun y44 =>
  ld_S_api_Cell h x15 fun y46 =>
  ld_S_api_Agg h x17 fun y48 =>
  newL h (((⟨y46, y48⟩ : S_api_Row).cells).toArray) ty_49 1 fun s51 h50 =>
  runL PP (Builtin.append_ #[51, 51] 51 #[y44.enc, s51.enc]) h50 fun s53 h52 =>
  stH h52 x11 [s53.enc] fun h54 =>
  K1 h54) ∧
  (x47 = false ->
  K1 h)
def F.xaj (p0 : Option Addr) (p1 : Int) (p2 : S_api_Cell) (p3 : S_api_Cell) (p4 : Int) (h : H) (Q : Sl -> H -> Prop) : Prop :=
  new h #[(.int .i64 p1)] ty_3 fun a2 h1 =>
  new h1 p2.cells.toArray ty_35 fun a4 h3 =>
  new h3 p3.cells.toArray ty_35 fun a6 h5 =>
  new h5 #[(.int .i64 p4)] ty_3 fun a8 h7 =>
  new h7 #[(⟨none, 0, 0⟩ : Sl).enc] ty_51 fun a10 h9 =>
  new h9 #[.nilFunc] ty_128 fun a12 h11 =>
  stH h11 a12 [(.func (.func 72) #[] #[(.pointer (some a4)), (.pointer (some a6))])] fun h13 =>
  nn p0 fun a17 =>
  ldP h13 (a17.add 3) fun y19 =>
  F.xad y19 h13 fun r22 h21 =>
  rng PP r22 h21 [Code.exit 0] (fun bg1 l1 args h K1 J1 => ∃ (y1_25 : ByteArray), ∃ (y1_26 : Option Addr), args = [(.string y1_25), (.pointer y1_26)] ∧
    bg1 h fun h23 =>
    ldL h23 a10 fun y24 =>
    ldI .i64 h23 a8 fun y26 =>
    ((decide ((y24.len : Int) >= y26)) = true ->
    J1 0 h23) ∧
    ((decide ((y24.len : Int) >= y26)) = false ->
    F.xao y1_25 h23 fun r30 r31 h29 =>
    new h29 (((⟨0, (⟨#[]⟩ : ByteArray), 0⟩ : S_api_Cell) : S_api_Cell).cells.toArray) ty_35 fun a33 h32 =>
    stH h32 a33 r30.cells fun h34 =>
    ldI .i64 h34 a2 fun y35 =>
    F.xci y1_26 y35 h34 fun r38 r39 h37 =>
    new h37 (((⟨0, 0, 0, 0⟩ : S_api_Agg) : S_api_Agg).cells.toArray) ty_40 fun a41 h40 =>
    stH h40 a41 r38.cells fun h42 =>
    (r39 = true ->
    ldV h42 a12 fun y56 =>
    ld_S_api_Cell h42 a33 fun y58 =>
    CV PP y56 [(.agg y58.cells.toArray)] h42 fun u h60 => ∃ (r61 : Bool), u = (.bool r61) ∧
    F.xaj.j2 Q K1 J1 l1 a10 a33 a41 r61 h60) ∧
    (r39 = false ->
    F.xaj.j2 Q K1 J1 l1 a10 a33 a41 false h42))) (fun h62 =>
    F.xaj.j1 Q (h21.size :: ([] : List Nat)) a10 h62) (fun jj h63 =>
    (jj = 0 ->
      F.xaj.j1 Q (h21.size :: ([] : List Nat)) a10 h63))
theorem F.xaj_ok {p0 : Option Addr} {p1 : Int} {p2 : S_api_Cell} {p3 : S_api_Cell} {p4 : Int} {h : H} {Q : Sl -> H -> Prop} (H : F.xaj p0 p1 p2 p3 p4 h Q) : Fn PP 39 ([(.pointer p0), (.int .i64 p1), (.agg p2.cells.toArray), (.agg p3.cells.toArray), (.int .i64 p4)] : List Value).toArray h fun r h' => ∃ r0, r = r0.enc ∧ Q r0 h' := by
  unfold F.xaj at H
  refine fn_ofM Tryz.func39 Tryz.ntmps39 rfl rfl fun w0 => ?_
  refine tr_sub [(0, (.pointer p0)), (1, (.int .i64 p1)), (2, (.agg p2.cells.toArray)), (3, (.agg p3.cells.toArray)), (4, (.int .i64 p4))] ⟨rfl, rfl, rfl, rfl, rfl, trivial⟩ ?_
  refine tr_seq ?_
  refine tr_region ?_
  refine tr_e (f_box (cs := #[(.int .i64 p1)]) rfl rfl H) rfl rfl ?_
  rintro _ h1 ⟨a2, rfl, H⟩
  refine tr_e (f_box (cs := p2.cells.toArray) rfl rfl H) rfl rfl ?_
  rintro _ h3 ⟨a4, rfl, H⟩
  refine tr_e (f_box (cs := p3.cells.toArray) rfl rfl H) rfl rfl ?_
  rintro _ h5 ⟨a6, rfl, H⟩
  refine tr_e (f_box (cs := #[(.int .i64 p4)]) rfl rfl H) rfl rfl ?_
  rintro _ h7 ⟨a8, rfl, H⟩
  refine tr_p (y_assign rfl) rfl rfl ?_
  refine tr_nil ?_
  refine tr_thenN ?_
  refine tr_seq ?_
  refine tr_region ?_
  refine tr_e (f_alloc (cs := #[(⟨none, 0, 0⟩ : Sl).enc]) Tryz.zeroValue51 rfl H) rfl rfl ?_
  rintro _ h9 ⟨a10, rfl, H⟩
  refine tr_nil ?_
  refine tr_thenN ?_
  refine tr_seq ?_
  refine tr_region ?_
  refine tr_p (y_fn rfl rfl) rfl rfl ?_
  refine tr_e (f_alloc (cs := #[.nilFunc]) Tryz.zeroValue128 rfl H) rfl rfl ?_
  rintro _ h11 ⟨a12, rfl, H⟩
  refine tr_e (f_store (vs := [(.func (.func 72) #[] #[(.pointer (some a4)), (.pointer (some a6))])]) Tryz.sizeOf128 rfl rfl rfl rfl (one1 (by rfl)) H) rfl rfl ?_
  rintro _ h13 ⟨rfl, H⟩
  refine tr_nil ?_
  refine tr_thenN ?_
  refine tr_seq_jD (fun ds L' h => ∃ (x11 : Addr), L' = [(11, (.pointer (some x11)))] ∧ F.xaj.j1 Q ds x11 h) ?_ ?_
  · rintro ds L' h ⟨x11, rfl, H⟩
    unfold F.xaj.j1 at H
    refine tr_seq ?_
    refine tr_region ?_
    obtain ⟨y14, k15, H⟩ := H
    refine tr_h (y_ld Tryz.isAgg51 rfl) k15 rfl rfl ?_
    refine tr_p (y_assign rfl) rfl rfl ?_
    refine tr_nil ?_
    refine tr_thenN ?_
    refine tr_ret ?_
    refine tr_shut ds rfl H fun h16 H => ?_
    exact tr_ret1 rfl rfl ⟨_, rfl, H⟩
  · refine tr_seq ?_
    refine tr_region ?_
    refine tr_p (y_move rfl) rfl rfl ?_
    obtain ⟨a17, e18, H⟩ := H
    refine tr_p (f_nn rfl e18) rfl rfl ?_
    refine tr_p (y_fa (off := 3) Tryz.runUnderlying74 fo_74_1 rfl) rfl rfl ?_
    obtain ⟨y19, k20, H⟩ := H
    refine tr_h (y_ld Tryz.isAgg72 rfl) k20 rfl rfl ?_
    refine tr_e (e_call Tryz.call59 rfl (F.xad_ok H)) rfl rfl ?_
    rintro r22 h21 ⟨_, rfl, H⟩
    refine tr_nil ?_
    refine tr_thenN ?_
    refine tr_block ?_
    refine tr_range rfl (by kernel_rfl) H ?_ ?_ ?_
    · intro bg1 l1 args h K1 J1 w1 hbg1 H
      obtain ⟨y1_25, y1_26, rfl, H⟩ := H
      refine ⟨rfl, ?_⟩
      refine tr_sub [(0, (.pointer p0)), (1, (.int .i64 p1)), (2, (.agg p2.cells.toArray)), (3, (.agg p3.cells.toArray)), (4, (.int .i64 p4)), (6, (.pointer (some a2))), (7, (.pointer (some a4))), (8, (.pointer (some a6))), (9, (.pointer (some a8))), (10, (⟨none, 0, 0⟩ : Sl).enc), (11, (.pointer (some a10))), (19, (.func (.func 72) #[] #[(.pointer (some a4)), (.pointer (some a6))])), (12, (.pointer (some a12))), (20, (.pointer p0)), (21, (.pointer (some a17))), (22, (.pointer (some (a17.add 3)))), (23, (.pointer y19)), (24, r22), (25, (.string y1_25)), (26, (.pointer y1_26))] ⟨rfl, rfl, rfl, rfl, rfl, rfl, rfl, rfl, rfl, rfl, rfl, rfl, rfl, rfl, rfl, rfl, rfl, rfl, rfl, rfl, trivial⟩ ?_
      refine tr_seq ?_
      refine tr_region ?_
      refine tr_p (y_assign rfl) rfl rfl ?_
      refine tr_nil ?_
      refine tr_thenN ?_
      refine tr_region ?_
      refine tr_p (y_assign rfl) rfl rfl ?_
      refine tr_nil ?_
      refine tr_thenN ?_
      refine tr_bgn hbg1 H fun h23 H => ?_
      refine tr_block ?_
      refine tr_seq ?_
      refine tr_seq ?_
      refine tr_region ?_
      obtain ⟨y24, k25, H⟩ := H
      refine tr_h (y_ld Tryz.isAgg51 rfl) k25 rfl rfl ?_
      refine tr_p (y_len (ts := #[]) Tryz.runUnderlying51 (o := y24.ptr) (n := y24.len) (cap := y24.cap) rfl) rfl rfl ?_
      obtain ⟨y26, k27, H⟩ := H
      refine tr_h (y_ld Tryz.isAgg3 rfl) k27 rfl rfl ?_
      refine tr_p (y_geq rfl rfl) rfl rfl ?_
      refine tr_nil ?_
      refine tr_thenN ?_
      refine tr_cond rfl (fun g28 => ?_) (fun g28 => ?_)
      · replace H := H.1 g28
        refine tr_exit ?_
        refine tr_thenE ?_
        refine tr_miss rfl ?_
        exact tr_rE 0 rfl H
      · replace H := H.2 g28
        refine tr_skip ?_
        refine tr_thenN ?_
        refine tr_seq ?_
        refine tr_region ?_
        refine tr_p (y_move rfl) rfl rfl ?_
        refine tr_e (e_call Tryz.call73 rfl (F.xao_ok H)) rfl rfl ?_
        rintro _ h29 ⟨r30, r31, rfl, H⟩
        refine tr_p (y_move rfl) rfl rfl ?_
        refine tr_p (y_ext rfl rfl) rfl rfl ?_
        refine tr_p (y_ext rfl rfl) rfl rfl ?_
        refine tr_e (f_alloc (cs := ((⟨0, (⟨#[]⟩ : ByteArray), 0⟩ : S_api_Cell) : S_api_Cell).cells.toArray) Tryz.zeroValue35 rfl H) rfl rfl ?_
        rintro _ h32 ⟨a33, rfl, H⟩
        refine tr_e (f_store (vs := r30.cells) Tryz.sizeOf35 rfl rfl cellsOfStruct rfl (by intro v hv; exact ones_S_api_Cell _ v hv) H) rfl rfl ?_
        rintro _ h34 ⟨rfl, H⟩
        refine tr_p (y_assign rfl) rfl rfl ?_
        refine tr_nil ?_
        refine tr_thenN ?_
        refine tr_seq ?_
        refine tr_region ?_
        refine tr_p (y_move rfl) rfl rfl ?_
        obtain ⟨y35, k36, H⟩ := H
        refine tr_h (y_ld Tryz.isAgg3 rfl) k36 rfl rfl ?_
        refine tr_e (e_call Tryz.call71 rfl (F.xci_ok H)) rfl rfl ?_
        rintro _ h37 ⟨r38, r39, rfl, H⟩
        refine tr_p (y_move rfl) rfl rfl ?_
        refine tr_p (y_ext rfl rfl) rfl rfl ?_
        refine tr_p (y_ext rfl rfl) rfl rfl ?_
        refine tr_e (f_alloc (cs := ((⟨0, 0, 0, 0⟩ : S_api_Agg) : S_api_Agg).cells.toArray) Tryz.zeroValue40 rfl H) rfl rfl ?_
        rintro _ h40 ⟨a41, rfl, H⟩
        refine tr_e (f_store (vs := r38.cells) Tryz.sizeOf40 rfl rfl cellsOfStruct rfl (by intro v hv; exact ones_S_api_Agg _ v hv) H) rfl rfl ?_
        rintro _ h42 ⟨rfl, H⟩
        refine tr_p (y_assign rfl) rfl rfl ?_
        refine tr_nil ?_
        refine tr_thenN ?_
        refine tr_seq_j (fun L' h => ∃ (x11 : Addr) (x15 : Addr) (x17 : Addr) (x47 : Bool), L' = [(11, (.pointer (some x11))), (15, (.pointer (some x15))), (17, (.pointer (some x17))), (47, (.bool x47))] ∧ F.xaj.j2 Q K1 J1 l1 x11 x15 x17 x47 h) ?_ ?_
        · rintro L' h ⟨x11, x15, x17, x47, rfl, H⟩
          unfold F.xaj.j2 at H
          refine tr_cond rfl (fun g43 => ?_) (fun g43 => ?_)
          · replace H := H.1 g43
            refine tr_region ?_
            obtain ⟨y44, k45, H⟩ := H
            refine tr_h (y_ld Tryz.isAgg51 rfl) k45 rfl rfl ?_
            obtain ⟨y46, k47, H⟩ := H
            refine tr_h (y_ldS Tryz.isAgg35 Tryz.sizeOf35 rfl rfl) k47 rfl rfl ?_
            obtain ⟨y48, k49, H⟩ := H
            refine tr_h (y_ldS Tryz.isAgg40 Tryz.sizeOf40 rfl rfl) k49 rfl rfl ?_
            refine tr_p (f_build rfl (bd_49_0_1 y46 y48)) rfl rfl ?_
            refine tr_e (f_buildL (cs := ((⟨y46, y48⟩ : S_api_Row).cells).toArray) rfl rfl (bl_51_1_0 (⟨y46, y48⟩ : S_api_Row)) H) rfl rfl ?_
            rintro _ h50 ⟨s51, rfl, H⟩
            refine tr_e (f_app rfl H) rfl rfl ?_
            rintro _ h52 ⟨s53, rfl, H⟩
            refine tr_e (f_store (vs := [s53.enc]) Tryz.sizeOf51 rfl rfl rfl rfl (one1 rfl) H) rfl rfl ?_
            rintro _ h54 ⟨rfl, H⟩
            refine tr_nil ?_
            refine tr_blockN ?_
            exact tr_rN H
          · replace H := H.2 g43
            refine tr_skip ?_
            refine tr_blockN ?_
            exact tr_rN H
        · refine tr_region ?_
          refine tr_p (y_move rfl) rfl rfl ?_
          refine tr_p (y_move rfl) rfl rfl ?_
          refine tr_split (t := 43) rfl (fun g55 => ?_) (fun g55 => ?_)
          · replace H := H.1 g55
            obtain ⟨y56, k57, H⟩ := H
            refine tr_h (y_ld Tryz.isAgg128 rfl) k57 rfl rfl ?_
            obtain ⟨y58, k59, H⟩ := H
            refine tr_h (y_ldS Tryz.isAgg35 Tryz.sizeOf35 rfl rfl) k59 rfl rfl ?_
            refine tr_e (e_callD rfl rfl H) rfl rfl ?_
            rintro _ h60 ⟨r61, rfl, H⟩
            refine tr_p (y_pick_t rfl rfl) rfl rfl ?_
            refine tr_nil ?_
            refine tr_thenN ?_
            exact tr_join [(11, (.pointer (some a10))), (15, (.pointer (some a33))), (17, (.pointer (some a41))), (47, (.bool r61))] ⟨rfl, rfl, rfl, rfl, trivial⟩ ⟨_, _, _, _, rfl, H⟩
          · replace H := H.2 g55
            refine tr_s rfl rfl ?_
            refine tr_s rfl rfl ?_
            refine tr_s rfl rfl ?_
            refine tr_p (y_pick_f rfl rfl) rfl rfl ?_
            refine tr_nil ?_
            refine tr_thenN ?_
            exact tr_join [(11, (.pointer (some a10))), (15, (.pointer (some a33))), (17, (.pointer (some a41))), (47, (.bool false))] ⟨rfl, rfl, rfl, rfl, trivial⟩ ⟨_, _, _, _, rfl, H⟩
    · intro h62 H
      refine tr_blockN ?_
      refine tr_thenN ?_
      exact tr_joinD (h21.size :: ([] : List Nat)) [(11, (.pointer (some a10)))] rfl ⟨rfl, trivial⟩ ⟨_, rfl, H⟩
    · intro jj c h63 hjc H
      rcases jj with _ | jj
      · obtain rfl : Code.exit 0 = c := by simpa using hjc
        replace H := H rfl
        refine tr_exit ?_
        refine tr_hit ?_
        refine tr_thenN ?_
        exact tr_joinD (h21.size :: ([] : List Nat)) [(11, (.pointer (some a10)))] rfl ⟨rfl, trivial⟩ ⟨_, rfl, H⟩
      · simp at hjc
def F.xbn (p0 : Sl) (h : H) (Q : Int -> H -> Prop) : Prop :=
  Q (p0.len : Int) h
theorem F.xbn_ok {p0 : Sl} {h : H} {Q : Int -> H -> Prop} (H : F.xbn p0 h Q) : Fn PP 204 ([p0.enc] : List Value).toArray h fun r h' => ∃ r0, r = (.int .i64 r0) ∧ Q r0 h' := by
 unfold F.xbn at H;refine fn_of Tryz.func204 Tryz.ntmps204 rfl rfl fun w0 => (tr_sub [(0, p0.enc)] ⟨rfl, trivial⟩ (tr_seq (tr_region (tq (y_assign rfl) (tr_nil (tr_thenN (tr_seq (tr_region (tq (y_move rfl) (tq (y_len (ts := #[]) Tryz.runUnderlying99 (o := p0.ptr) (n := p0.len) (cap := p0.cap) rfl) (tq (y_assign rfl) (tr_nil (tr_thenN ?_)))))))))))));refine tr_ret ?_;exact tr_ret1 rfl rfl ⟨_, rfl, H⟩
def F.xbo (p0 : Sl) (p1 : Int) (p2 : Int) (h : H) (Q : Bool -> H -> Prop) : Prop :=
  idxA p0 p1 2 fun a1 =>
  ldL h (a1.add 0) fun y3 =>
  idxA y3 0 7 fun a5 =>
  ld_S_api_Cell h (a5.add 0) fun y7 =>
  idxA p0 p2 2 fun a9 =>
  ldL h (a9.add 0) fun y11 =>
  idxA y11 0 7 fun a13 =>
  ld_S_api_Cell h (a13.add 0) fun y15 =>
  idxA p0 p1 2 fun a17 =>
  ldI .i64 h (a17.add 1) fun y19 =>
  idxA p0 p2 2 fun a21 =>
  ldI .i64 h (a21.add 1) fun y23 =>
  F.xbp y7 y15 h fun r26 h25 =>
  cellH h25 (a21.add 1) = some (.int .i64 y23) ∧
  cellH h25 (a17.add 1) = some (.int .i64 y19) ∧
  F.xba y19 y23 h25 fun r30 h29 =>
  newL h29 #[(.int .i64 r26), (.int .i64 r30)] ty_3 2 fun s32 h31 =>
  F.xan s32 h31 fun r34 h33 =>
  Q (decide (r34 < 0)) h33
theorem F.xbo_ok {p0 : Sl} {p1 : Int} {p2 : Int} {h : H} {Q : Bool -> H -> Prop} (H : F.xbo p0 p1 p2 h Q) : Fn PP 205 ([p0.enc, (.int .i64 p1), (.int .i64 p2)] : List Value).toArray h fun r h' => ∃ r0, r = (.bool r0) ∧ Q r0 h' := by
 unfold F.xbo at H;refine fn_of Tryz.func205 Tryz.ntmps205 rfl rfl fun w0 => (tr_sub [(0, p0.enc), (1, (.int .i64 p1)), (2, (.int .i64 p2))] ⟨rfl, rfl, rfl, trivial⟩ (tr_seq (tr_region (tq (y_assign rfl) (tr_nil (tr_thenN (tr_seq (tr_draw mixed [0, 0, 3, 7, 15, 31, 63, 127, 0, 0, 768, 1792, 3840, 7936, 16128, 32512, 65535, 0, 0, 393216, 917504, 1966080, 0, 0, 12582912, 29360128, 62914560, 134217727, 268435455, 536870911, 1073741823, 2147483647] (by kernel_rfl) (g_p 0 1 rfl (by kernel_rfl) (y_move rfl) rfl rfl (g_p 1 3 rfl (by kernel_rfl) (y_move rfl) rfl rfl ?_))))))))));obtain ⟨a1, e2, H⟩ := H;refine g_p 2 7 rfl (by kernel_rfl) (f_idx (s := p0) Tryz.runUnderlying99 Tryz.sizeOf101 rfl rfl e2) rfl rfl (g_p 3 15 rfl (by kernel_rfl) (y_fa (off := 0) Tryz.runUnderlying101 fo_101_0 rfl) rfl rfl ?_);obtain ⟨y3, k4, H⟩ := H;refine g_h 4 31 rfl (by kernel_rfl) (y_ld Tryz.isAgg51 rfl) k4 rfl rfl ?_;obtain ⟨a5, e6, H⟩ := H;refine g_p 5 63 rfl (by kernel_rfl) (f_idx (s := y3) Tryz.runUnderlying51 Tryz.sizeOf49 rfl rfl e6) rfl rfl (g_p 6 127 rfl (by kernel_rfl) (y_fa (off := 0) Tryz.runUnderlying49 fo_49_0 rfl) rfl rfl ?_);obtain ⟨y7, k8, H⟩ := H;refine g_h 7 255 rfl (by kernel_rfl) (y_ldS Tryz.isAgg35 Tryz.sizeOf35 rfl rfl) k8 rfl rfl (g_p 8 511 rfl (by kernel_rfl) (y_move rfl) rfl rfl (g_p 9 1023 rfl (by kernel_rfl) (y_move rfl) rfl rfl ?_));obtain ⟨a9, e10, H⟩ := H;refine g_p 10 2047 rfl (by kernel_rfl) (f_idx (s := p0) Tryz.runUnderlying99 Tryz.sizeOf101 rfl rfl e10) rfl rfl (g_p 11 4095 rfl (by kernel_rfl) (y_fa (off := 0) Tryz.runUnderlying101 fo_101_0 rfl) rfl rfl ?_);obtain ⟨y11, k12, H⟩ := H;refine g_h 12 8191 rfl (by kernel_rfl) (y_ld Tryz.isAgg51 rfl) k12 rfl rfl ?_;obtain ⟨a13, e14, H⟩ := H;refine g_p 13 16383 rfl (by kernel_rfl) (f_idx (s := y11) Tryz.runUnderlying51 Tryz.sizeOf49 rfl rfl e14) rfl rfl (g_p 14 32767 rfl (by kernel_rfl) (y_fa (off := 0) Tryz.runUnderlying49 fo_49_0 rfl) rfl rfl ?_);obtain ⟨y15, k16, H⟩ := H;refine g_h 15 65535 rfl (by kernel_rfl) (y_ldS Tryz.isAgg35 Tryz.sizeOf35 rfl rfl) k16 rfl rfl (g_p 17 196607 rfl (by kernel_rfl) (y_move rfl) rfl rfl (g_p 18 458751 rfl (by kernel_rfl) (y_move rfl) rfl rfl ?_));obtain ⟨a17, e18, H⟩ := H;refine g_p 19 983039 rfl (by kernel_rfl) (f_idx (s := p0) Tryz.runUnderlying99 Tryz.sizeOf101 rfl rfl e18) rfl rfl (g_p 20 2031615 rfl (by kernel_rfl) (y_fa (off := 1) Tryz.runUnderlying101 fo_101_1 rfl) rfl rfl ?_);obtain ⟨y19, k20, H⟩ := H;refine g_h 21 4128767 rfl (by kernel_rfl) (y_ld Tryz.isAgg3 rfl) k20 rfl rfl (g_p 22 8323071 rfl (by kernel_rfl) (y_move rfl) rfl rfl (g_p 23 16711679 rfl (by kernel_rfl) (y_move rfl) rfl rfl ?_));obtain ⟨a21, e22, H⟩ := H;refine g_p 24 33488895 rfl (by kernel_rfl) (f_idx (s := p0) Tryz.runUnderlying99 Tryz.sizeOf101 rfl rfl e22) rfl rfl (g_p 25 67043327 rfl (by kernel_rfl) (y_fa (off := 1) Tryz.runUnderlying101 fo_101_1 rfl) rfl rfl ?_);obtain ⟨y23, k24, H⟩ := H;refine g_h 26 134152191 rfl (by kernel_rfl) (y_ld Tryz.isAgg3 rfl) k24 rfl rfl (g_e 16 134217727 [(26, fun h => cellH h (a21.add 1) = some (.int .i64 y23)), (21, fun h => cellH h (a17.add 1) = some (.int .i64 y19))] (by kernel_rfl) rfl (by kernel_rfl) (e_call Tryz.call17 rfl (F.xbp_ok H)) rfl rfl ?_);rintro _ h25 ⟨r26, rfl, H⟩;obtain ⟨k27, k28, H⟩ := H;refine ⟨And.intro k27 (And.intro k28 trivial), ?_⟩;refine g_e 27 268435455 [] (by kernel_rfl) rfl (by kernel_rfl) (e_call Tryz.call48 rfl (F.xba_ok H)) rfl rfl ?_;rintro _ h29 ⟨r30, rfl, H⟩;refine ⟨trivial, ?_⟩;refine g_e 28 536870911 [] (by kernel_rfl) rfl (by kernel_rfl) (f_buildL (cs := #[(.int .i64 r26), (.int .i64 r30)]) rfl rfl (bl_42_2_0_1 r26 r30) H) rfl rfl ?_;rintro _ h31 ⟨s32, rfl, H⟩;refine ⟨trivial, ?_⟩;refine g_e 29 1073741823 [] (by kernel_rfl) rfl (by kernel_rfl) (e_call Tryz.call47 rfl (F.xan_ok H)) rfl rfl ?_;rintro _ h33 ⟨r34, rfl, H⟩;refine ⟨trivial, ?_⟩;refine g_p 30 2147483647 rfl (by kernel_rfl) (y_lss rfl rfl) rfl rfl (g_p 31 4294967295 rfl (by kernel_rfl) (y_assign rfl) rfl rfl (g_d (by kernel_rfl) (tr_thenN (tr_ret ?_))));exact tr_ret1 rfl rfl ⟨_, rfl, H⟩
def F.xbq (p0 : Sl) (p1 : Int) (p2 : Int) (h : H) (Q : H -> Prop) : Prop :=
  idxA p0 p2 2 fun a1 =>
  ld_S_merge_front h a1 fun y3 =>
  idxA p0 p1 2 fun a5 =>
  ld_S_merge_front h a5 fun y7 =>
  idxA p0 p1 2 fun a9 =>
  stH h a9 y3.cells fun h11 =>
  idxA p0 p2 2 fun a12 =>
  stH h11 a12 y7.cells fun h14 =>
  Q h14
theorem F.xbq_ok {p0 : Sl} {p1 : Int} {p2 : Int} {h : H} {Q : H -> Prop} (H : F.xbq p0 p1 p2 h Q) : Fn PP 206 ([p0.enc, (.int .i64 p1), (.int .i64 p2)] : List Value).toArray h fun r h' => r = .tuple #[] ∧ Q  h' := by
 unfold F.xbq at H;refine fn_of Tryz.func206 Tryz.ntmps206 rfl rfl fun w0 => (tr_sub [(0, p0.enc), (1, (.int .i64 p1)), (2, (.int .i64 p2))] ⟨rfl, rfl, rfl, trivial⟩ (tr_draw mixed [0, 0, 0, 0, 0, 0, 48, 112, 0, 0, 768, 1792, 4083, 8179, 16383, 32767] (by kernel_rfl) (g_p 0 1 rfl (by kernel_rfl) (y_move rfl) rfl rfl (g_p 1 3 rfl (by kernel_rfl) (y_move rfl) rfl rfl (g_p 2 7 rfl (by kernel_rfl) (y_move rfl) rfl rfl (g_p 3 15 rfl (by kernel_rfl) (y_move rfl) rfl rfl (g_p 4 31 rfl (by kernel_rfl) (y_move rfl) rfl rfl (g_p 5 63 rfl (by kernel_rfl) (y_move rfl) rfl rfl ?_))))))));obtain ⟨a1, e2, H⟩ := H;refine g_p 6 127 rfl (by kernel_rfl) (f_idx (s := p0) Tryz.runUnderlying99 Tryz.sizeOf101 rfl rfl e2) rfl rfl ?_;obtain ⟨y3, k4, H⟩ := H;refine g_h 7 255 rfl (by kernel_rfl) (y_ldS Tryz.isAgg101 Tryz.sizeOf101 rfl rfl) k4 rfl rfl (g_p 8 511 rfl (by kernel_rfl) (y_move rfl) rfl rfl (g_p 9 1023 rfl (by kernel_rfl) (y_move rfl) rfl rfl ?_));obtain ⟨a5, e6, H⟩ := H;refine g_p 10 2047 rfl (by kernel_rfl) (f_idx (s := p0) Tryz.runUnderlying99 Tryz.sizeOf101 rfl rfl e6) rfl rfl ?_;obtain ⟨y7, k8, H⟩ := H;refine g_h 11 4095 rfl (by kernel_rfl) (y_ldS Tryz.isAgg101 Tryz.sizeOf101 rfl rfl) k8 rfl rfl ?_;obtain ⟨a9, e10, H⟩ := H;refine g_p 12 8191 rfl (by kernel_rfl) (f_idx (s := p0) Tryz.runUnderlying99 Tryz.sizeOf101 rfl rfl e10) rfl rfl (g_e 13 16383 [] (by kernel_rfl) rfl (by kernel_rfl) (f_store (vs := y3.cells) Tryz.sizeOf101 rfl rfl cellsOfStruct rfl (by intro v hv; exact ones_S_merge_front _ v hv) H) rfl rfl ?_);rintro _ h11 ⟨rfl, H⟩;refine ⟨trivial, ?_⟩;obtain ⟨a12, e13, H⟩ := H;refine g_p 14 32767 rfl (by kernel_rfl) (f_idx (s := p0) Tryz.runUnderlying99 Tryz.sizeOf101 rfl rfl e13) rfl rfl (g_e 15 65535 [] (by kernel_rfl) rfl (by kernel_rfl) (f_store (vs := y7.cells) Tryz.sizeOf101 rfl rfl cellsOfStruct rfl (by intro v hv; exact ones_S_merge_front _ v hv) H) rfl rfl ?_);rintro _ h14 ⟨rfl, H⟩;refine ⟨trivial, ?_⟩;refine g_d (by kernel_rfl) ?_;exact tr_end0 rfl ⟨rfl, H⟩
def F.xaa.j1 (Q : Bool -> H -> Prop) (x1 : Int) (x7 : Int) (h : H) : Prop :=
  Q (decide (x7 > x1)) h
def F.xaa.j4 (Q : Bool -> H -> Prop) (C1 : (Option Addr) -> Int -> Int -> Int -> H -> Prop) (x0 : Option Addr) (x1 : Int) (x2 : Int) (x7 : Int) (x9 : Int) (h : H) : Prop :=
  nn x0 fun a2 =>
  ldL h a2 fun y3 =>
  F.xbo y3 x9 x7 h fun r4 h1 =>
  ((!r4) = true ->
  F.xaa.j1 Q x1 x7 h1) ∧
  ((!r4) = false ->
  nn x0 fun a7 =>
  ldL h1 a7 fun y8 =>
  F.xbq y8 x7 x9 h1 fun h6 =>
  C1 x0 x1 x2 x9 h6)
def F.xaa.j5 (Q : Bool -> H -> Prop) (C1 : (Option Addr) -> Int -> Int -> Int -> H -> Prop) (x0 : Option Addr) (x1 : Int) (x2 : Int) (x7 : Int) (x9 : Int) (x10 : Int) (x33 : Bool) (h : H) : Prop :=
  (x33 = true ->
  F.xaa.j4 Q C1 x0 x1 x2 x7 x10 h) ∧
  (x33 = false ->
  F.xaa.j4 Q C1 x0 x1 x2 x7 x9 h)
def F.xaa.j3 (Q : Bool -> H -> Prop) (C1 : (Option Addr) -> Int -> Int -> Int -> H -> Prop) (x0 : Option Addr) (x1 : Int) (x2 : Int) (x7 : Int) (x8 : Int) (h : H) : Prop :=
  ((decide ((IntKind.wrap .i64 (x8 + 1)) < x2)) = true ->
  nn x0 fun a12 =>
  ldL h a12 fun y13 =>
  F.xbo y13 (IntKind.wrap .i64 (x8 + 1)) x8 h fun r14 h11 =>
  F.xaa.j5 Q C1 x0 x1 x2 x7 x8 (IntKind.wrap .i64 (x8 + 1)) r14 h11) ∧
  ((decide ((IntKind.wrap .i64 (x8 + 1)) < x2)) = false ->
  F.xaa.j5 Q C1 x0 x1 x2 x7 x8 (IntKind.wrap .i64 (x8 + 1)) false h)
def F.xaa.j6 (Q : Bool -> H -> Prop) (C1 : (Option Addr) -> Int -> Int -> Int -> H -> Prop) (x0 : Option Addr) (x1 : Int) (x2 : Int) (x7 : Int) (x8 : Int) (x21 : Bool) (h : H) : Prop :=
  (x21 = true ->
  F.xaa.j1 Q x1 x7 h) ∧
  (x21 = false ->
  F.xaa.j3 Q C1 x0 x1 x2 x7 x8 h)
def F.xaa.l2 (Q : Bool -> H -> Prop) : Nat -> (Option Addr) -> Int -> Int -> Int -> H -> Prop
  | 0, _, _, _, _, _ => False
  | q2 + 1, x0, x1, x2, x7, h =>
    ((decide ((IntKind.wrap .i64 ((IntKind.wrap .i64 (2 * x7)) + 1)) >= x2)) = true ->
    F.xaa.j6 Q (F.xaa.l2 Q q2) x0 x1 x2 x7 (IntKind.wrap .i64 ((IntKind.wrap .i64 (2 * x7)) + 1)) true h) ∧
    ((decide ((IntKind.wrap .i64 ((IntKind.wrap .i64 (2 * x7)) + 1)) >= x2)) = false ->
    F.xaa.j6 Q (F.xaa.l2 Q q2) x0 x1 x2 x7 (IntKind.wrap .i64 ((IntKind.wrap .i64 (2 * x7)) + 1)) (decide ((IntKind.wrap .i64 ((IntKind.wrap .i64 (2 * x7)) + 1)) < 0)) h)
def F.xaa (p0 : Option Addr) (p1 : Int) (p2 : Int) (h : H) (Q : Bool -> H -> Prop) : Prop :=
  ∃ m, F.xaa.l2 Q m p0 p1 p2 p1 h
theorem F.xaa_ok {p0 : Option Addr} {p1 : Int} {p2 : Int} {h : H} {Q : Bool -> H -> Prop} (H : F.xaa p0 p1 p2 h Q) : Fn PP 92 ([(.iface 103 (.pointer p0)), (.int .i64 p1), (.int .i64 p2)] : List Value).toArray h fun r h' => ∃ r0, r = (.bool r0) ∧ Q r0 h' := by
 unfold F.xaa at H;refine fn_of Tryz.func92 Tryz.ntmps92 rfl rfl fun w0 => (tr_sub [(0, (.iface 103 (.pointer p0))), (1, (.int .i64 p1)), (2, (.int .i64 p2))] ⟨rfl, rfl, rfl, trivial⟩ (tr_seq (tr_region (tq (y_assign rfl) (tr_nil (tr_thenN (tr_seq (tr_region (tq (y_move rfl) (tq (y_assign rfl) (tr_nil (tr_thenN ?_))))))))))));refine tr_seq_j (fun L' h => ∃ (x1 : Int) (x7 : Int), L' = [(1, (.int .i64 x1)), (7, (.int .i64 x7))] ∧ F.xaa.j1 Q x1 x7 h) ?_ ?_
 ·rintro L' h ⟨x1, x7, rfl, H⟩;unfold F.xaa.j1 at H;refine tr_seq (tr_region (tq (y_move rfl) (tq (y_move rfl) (tq (y_gtr rfl rfl) (tq (y_assign rfl) (tr_nil (tr_thenN (tr_ret ?_))))))));exact tr_ret1 rfl rfl ⟨_, rfl, H⟩
 ·refine tr_block ?_;obtain ⟨m17, H⟩ := H;refine tr_sub [(0, (.iface 103 (.pointer p0))), (1, (.int .i64 p1)), (2, (.int .i64 p2)), (7, (.int .i64 p1))] ⟨rfl, rfl, rfl, rfl, trivial⟩ ?_;refine tr_loop_j (fun m L' h => ∃ (x0 : Option Addr) (x1 : Int) (x2 : Int) (x7 : Int), L' = [(0, (.iface 103 (.pointer x0))), (1, (.int .i64 x1)), (2, (.int .i64 x2)), (7, (.int .i64 x7))] ∧ F.xaa.l2 Q m x0 x1 x2 x7 h) ?_ ?_ m17 ⟨_, _, _, _, rfl, H⟩
  ·rintro L' h ⟨_, _, _, _, _, H⟩; exact H
  ·rintro q2 L' h ⟨x0, x1, x2, x7, rfl, H⟩;unfold F.xaa.l2 at H;refine tr_block (tr_seq (tr_region (tq (y_move rfl) (tq (y_mul rfl rfl) (tq (y_add rfl rfl) (tq (y_assign rfl) (tr_nil (tr_thenN ?_))))))));refine tr_seq_j (fun L' h => ∃ (x0 : Option Addr) (x1 : Int) (x2 : Int) (x7 : Int) (x8 : Int), L' = [(0, (.iface 103 (.pointer x0))), (1, (.int .i64 x1)), (2, (.int .i64 x2)), (7, (.int .i64 x7)), (8, (.int .i64 x8))] ∧ F.xaa.j3 Q (F.xaa.l2 Q q2) x0 x1 x2 x7 x8 h) ?_ ?_
   ·rintro L' h ⟨x0, x1, x2, x7, x8, rfl, H⟩;unfold F.xaa.j3 at H;refine tr_seq (tr_region (tq (y_move rfl) (tq (y_assign rfl) (tr_nil (tr_thenN ?_)))));refine tr_seq_j (fun L' h => ∃ (x0 : Option Addr) (x1 : Int) (x2 : Int) (x7 : Int) (x9 : Int), L' = [(0, (.iface 103 (.pointer x0))), (1, (.int .i64 x1)), (2, (.int .i64 x2)), (7, (.int .i64 x7)), (9, (.int .i64 x9))] ∧ F.xaa.j4 Q (F.xaa.l2 Q q2) x0 x1 x2 x7 x9 h) ?_ ?_
    ·rintro L' h ⟨x0, x1, x2, x7, x9, rfl, H⟩;unfold F.xaa.j4 at H;refine tr_seq (tr_seq (tr_region (tq (y_move rfl) (tq (y_move rfl) (tq (y_move rfl) (tr_e (e_invL mt_103_Less Tryz.isAgg99 Tryz.call205 rfl rfl (inv_map (fun y3 H => (F.xbo_ok H)) H)) rfl rfl ?_))))));rintro _ h1 ⟨r4, rfl, H⟩;refine tq (y_not rfl) (tr_nil (tr_thenN ?_));refine tr_cond rfl (fun g5 => ?_) (fun g5 => ?_)
     ·replace H := H.1 g5;refine tr_exit (tr_thenE (tr_miss rfl (tr_thenE (tr_hit (tr_thenN ?_)))));exact tr_join [(1, (.int .i64 x1)), (7, (.int .i64 x7))] ⟨rfl, rfl, trivial⟩ ⟨_, _, rfl, H⟩
     ·replace H := H.2 g5;refine tr_skip (tr_thenN (tr_seq (tr_region (tq (y_move rfl) (tq (y_move rfl) (tq (y_move rfl) (tr_e (e_invL mt_103_Swap Tryz.isAgg99 Tryz.call206 rfl rfl (inv_map (fun y8 H => (F.xbq_ok H)) H)) rfl rfl ?_)))))));rintro _ h6 ⟨rfl, H⟩;refine tr_nil (tr_thenN (tr_region (tq (y_move rfl) (tq (y_assign rfl) (tr_nil (tr_blockN (tr_thenN ?_)))))));exact tr_join [(0, (.iface 103 (.pointer x0))), (1, (.int .i64 x1)), (2, (.int .i64 x2)), (7, (.int .i64 x9))] ⟨rfl, rfl, rfl, rfl, trivial⟩ ⟨_, _, _, _, rfl, H⟩
    ·refine tr_seq (tr_region (tq (y_move rfl) (tq (y_add rfl rfl) (tq (y_assign rfl) (tr_nil (tr_thenN ?_))))));refine tr_seq_j (fun L' h => ∃ (x0 : Option Addr) (x1 : Int) (x2 : Int) (x7 : Int) (x9 : Int) (x10 : Int) (x33 : Bool), L' = [(0, (.iface 103 (.pointer x0))), (1, (.int .i64 x1)), (2, (.int .i64 x2)), (7, (.int .i64 x7)), (9, (.int .i64 x9)), (10, (.int .i64 x10)), (33, (.bool x33))] ∧ F.xaa.j5 Q (F.xaa.l2 Q q2) x0 x1 x2 x7 x9 x10 x33 h) ?_ ?_
     ·rintro L' h ⟨x0, x1, x2, x7, x9, x10, x33, rfl, H⟩;unfold F.xaa.j5 at H;refine tr_cond rfl (fun g9 => ?_) (fun g9 => ?_)
      ·replace H := H.1 g9;refine tr_region (tq (y_move rfl) (tq (y_assign rfl) (tr_nil (tr_thenN ?_))));exact tr_join [(0, (.iface 103 (.pointer x0))), (1, (.int .i64 x1)), (2, (.int .i64 x2)), (7, (.int .i64 x7)), (9, (.int .i64 x10))] ⟨rfl, rfl, rfl, rfl, rfl, trivial⟩ ⟨_, _, _, _, _, rfl, H⟩
      ·replace H := H.2 g9;refine tr_skip (tr_thenN ?_);exact tr_join [(0, (.iface 103 (.pointer x0))), (1, (.int .i64 x1)), (2, (.int .i64 x2)), (7, (.int .i64 x7)), (9, (.int .i64 x9))] ⟨rfl, rfl, rfl, rfl, rfl, trivial⟩ ⟨_, _, _, _, _, rfl, H⟩
     ·refine tr_region (tq (y_move rfl) (tq (y_move rfl) (tq (y_lss rfl rfl) (tq (y_move rfl) ?_))));refine tr_split (t := 28) rfl (fun g10 => ?_) (fun g10 => ?_)
      ·replace H := H.1 g10;refine tq (y_move rfl) (tq (y_move rfl) (tq (y_move rfl) (tr_e (e_invL mt_103_Less Tryz.isAgg99 Tryz.call205 rfl rfl (inv_map (fun y13 H => (F.xbo_ok H)) H)) rfl rfl ?_)));rintro _ h11 ⟨r14, rfl, H⟩;refine tq (y_pick_t rfl rfl) (tr_nil (tr_thenN ?_));exact tr_join [(0, (.iface 103 (.pointer x0))), (1, (.int .i64 x1)), (2, (.int .i64 x2)), (7, (.int .i64 x7)), (9, (.int .i64 x8)), (10, (.int .i64 (IntKind.wrap .i64 (x8 + 1)))), (33, (.bool r14))] ⟨rfl, rfl, rfl, rfl, rfl, rfl, rfl, trivial⟩ ⟨_, _, _, _, _, _, _, rfl, H⟩
      ·replace H := H.2 g10;refine ts (ts (ts (ts (tq (y_pick_f rfl rfl) (tr_nil (tr_thenN ?_))))));exact tr_join [(0, (.iface 103 (.pointer x0))), (1, (.int .i64 x1)), (2, (.int .i64 x2)), (7, (.int .i64 x7)), (9, (.int .i64 x8)), (10, (.int .i64 (IntKind.wrap .i64 (x8 + 1)))), (33, (.bool false))] ⟨rfl, rfl, rfl, rfl, rfl, rfl, rfl, trivial⟩ ⟨_, _, _, _, _, _, _, rfl, H⟩
   ·refine tr_seq_j (fun L' h => ∃ (x0 : Option Addr) (x1 : Int) (x2 : Int) (x7 : Int) (x8 : Int) (x21 : Bool), L' = [(0, (.iface 103 (.pointer x0))), (1, (.int .i64 x1)), (2, (.int .i64 x2)), (7, (.int .i64 x7)), (8, (.int .i64 x8)), (21, (.bool x21))] ∧ F.xaa.j6 Q (F.xaa.l2 Q q2) x0 x1 x2 x7 x8 x21 h) ?_ ?_
    ·rintro L' h ⟨x0, x1, x2, x7, x8, x21, rfl, H⟩;unfold F.xaa.j6 at H;refine tr_cond rfl (fun g15 => ?_) (fun g15 => ?_)
     ·replace H := H.1 g15;refine tr_exit (tr_thenE (tr_miss rfl (tr_thenE (tr_hit (tr_thenN ?_)))));exact tr_join [(1, (.int .i64 x1)), (7, (.int .i64 x7))] ⟨rfl, rfl, trivial⟩ ⟨_, _, rfl, H⟩
     ·replace H := H.2 g15;refine tr_skip (tr_thenN ?_);exact tr_join [(0, (.iface 103 (.pointer x0))), (1, (.int .i64 x1)), (2, (.int .i64 x2)), (7, (.int .i64 x7)), (8, (.int .i64 x8))] ⟨rfl, rfl, rfl, rfl, rfl, trivial⟩ ⟨_, _, _, _, _, rfl, H⟩
    ·refine tr_region (tq (y_move rfl) (tq (y_move rfl) (tq (y_geq rfl rfl) (tq (y_move rfl) ?_))));refine tr_split (t := 18) rfl (fun g16 => ?_) (fun g16 => ?_)
     ·replace H := H.1 g16;refine ts (ts (tq (y_pick_t rfl rfl) (tr_nil (tr_thenN ?_))));exact tr_join [(0, (.iface 103 (.pointer x0))), (1, (.int .i64 x1)), (2, (.int .i64 x2)), (7, (.int .i64 x7)), (8, (.int .i64 (IntKind.wrap .i64 ((IntKind.wrap .i64 (2 * x7)) + 1)))), (21, (.bool true))] ⟨rfl, rfl, rfl, rfl, rfl, rfl, trivial⟩ ⟨_, _, _, _, _, _, rfl, H⟩
     ·replace H := H.2 g16;refine tq (y_move rfl) (tq (y_lss rfl rfl) (tq (y_pick_f rfl rfl) (tr_nil (tr_thenN ?_))));exact tr_join [(0, (.iface 103 (.pointer x0))), (1, (.int .i64 x1)), (2, (.int .i64 x2)), (7, (.int .i64 x7)), (8, (.int .i64 (IntKind.wrap .i64 ((IntKind.wrap .i64 (2 * x7)) + 1)))), (21, (.bool (decide ((IntKind.wrap .i64 ((IntKind.wrap .i64 (2 * x7)) + 1)) < 0))))] ⟨rfl, rfl, rfl, rfl, rfl, rfl, trivial⟩ ⟨_, _, _, _, _, _, rfl, H⟩
def F.xbg.l1 (Q : H -> Prop) : Nat -> (Option Addr) -> Int -> Int -> H -> Prop
  | 0, _, _, _, _ => False
  | q1 + 1, x0, x2, x3, h =>
    ((decide (x3 >= 0)) = true ->
    F.xaa x0 x3 x2 h fun r8 h7 =>
    (F.xbg.l1 Q q1) x0 x2 (IntKind.wrap .i64 (x3 - 1)) h7) ∧
    ((decide (x3 >= 0)) = false ->
    Q h)
def F.xbg (p0 : Option Addr) (h : H) (Q : H -> Prop) : Prop :=
  nn p0 fun a2 =>
  ldL h a2 fun y3 =>
  F.xbn y3 h fun r4 h1 =>
  (2 : Int) ≠ 0 ∧
  ∃ m, F.xbg.l1 Q m p0 r4 (IntKind.wrap .i64 ((IntKind.wrap .i64 (Int.tdiv r4 2)) - 1)) h1
theorem F.xbg_ok {p0 : Option Addr} {h : H} {Q : H -> Prop} (H : F.xbg p0 h Q) : Fn PP 52 ([(.iface 103 (.pointer p0))] : List Value).toArray h fun r h' => r = .tuple #[] ∧ Q  h' := by
 unfold F.xbg at H;refine fn_of Tryz.func52 Tryz.ntmps52 rfl rfl fun w0 => (tr_sub [(0, (.iface 103 (.pointer p0)))] ⟨rfl, trivial⟩ (tr_seq (tr_region (tq (y_move rfl) (tr_e (e_invL mt_103_Len Tryz.isAgg99 Tryz.call204 rfl rfl (inv_map (fun y3 H => (F.xbn_ok H)) H)) rfl rfl ?_)))));rintro _ h1 ⟨r4, rfl, H⟩;refine tq (y_assign rfl) (tr_nil (tr_thenN (tr_seq (tr_region (tq (y_move rfl) ?_)))));obtain ⟨e5, H⟩ := H;refine tq (y_quo rfl rfl e5) (tq (y_sub rfl rfl) (tq (y_assign rfl) (tr_nil (tr_thenN (tr_block ?_)))));obtain ⟨m9, H⟩ := H;refine tr_sub [(0, (.iface 103 (.pointer p0))), (2, (.int .i64 r4)), (3, (.int .i64 (IntKind.wrap .i64 ((IntKind.wrap .i64 (Int.tdiv r4 2)) - 1))))] ⟨rfl, rfl, rfl, trivial⟩ ?_;refine tr_loop_j (fun m L' h => ∃ (x0 : Option Addr) (x2 : Int) (x3 : Int), L' = [(0, (.iface 103 (.pointer x0))), (2, (.int .i64 x2)), (3, (.int .i64 x3))] ∧ F.xbg.l1 Q m x0 x2 x3 h) ?_ ?_ m9 ⟨_, _, _, rfl, H⟩
 ·rintro L' h ⟨_, _, _, _, H⟩; exact H
 ·rintro q1 L' h ⟨x0, x2, x3, rfl, H⟩;unfold F.xbg.l1 at H;refine tr_seq (tr_seq (tr_region (tq (y_move rfl) (tq (y_geq rfl rfl) (tr_nil (tr_thenN ?_))))));refine tr_cond rfl (fun g6 => ?_) (fun g6 => ?_)
  ·replace H := H.1 g6;refine tr_skip (tr_thenN (tr_seq (tr_block (tr_region (tq (y_move rfl) (tq (y_move rfl) (tq (y_move rfl) (tr_e (e_call Tryz.call92 rfl (F.xaa_ok H)) rfl rfl ?_))))))));rintro _ h7 ⟨r8, rfl, H⟩;refine tr_nil (tr_blockN (tr_thenN (tr_region (tq (y_move rfl) (tq (y_sub rfl rfl) (tq (y_assign rfl) (tr_nil (tr_thenN ?_))))))));exact tr_join [(0, (.iface 103 (.pointer x0))), (2, (.int .i64 x2)), (3, (.int .i64 (IntKind.wrap .i64 (x3 - 1))))] ⟨rfl, rfl, rfl, trivial⟩ ⟨_, _, _, rfl, H⟩
  ·replace H := H.2 g6;refine tr_exit (tr_thenE (tr_thenE (tr_hit ?_)));exact tr_end0 rfl ⟨rfl, H⟩
def F.xcm (p0 : Option Addr) (h : H) (Q : Value -> H -> Prop) : Prop :=
  nn p0 fun a1 =>
  ldL h a1 fun y3 =>
  idxA y3 (IntKind.wrap .i64 ((y3.len : Int) - 1)) 2 fun a5 =>
  ld_S_merge_front h a5 fun y7 =>
  new h (((⟨(⟨none, 0, 0⟩ : Sl), 0⟩ : S_merge_front) : S_merge_front).cells.toArray) ty_101 fun a10 h9 =>
  stH h9 a10 y7.cells fun h11 =>
  cutL y3 0 (IntKind.wrap .i64 ((y3.len : Int) - 1)) 2 fun s13 =>
  nn p0 fun a14 =>
  stH h11 a14 [s13.enc] fun h16 =>
  ld_S_merge_front h16 a10 fun y17 =>
  Q (.iface 101 (.agg y17.cells.toArray)) h16
theorem F.xcm_ok {p0 : Option Addr} {h : H} {Q : Value -> H -> Prop} (H : F.xcm p0 h Q) : Fn PP 207 ([(.pointer p0)] : List Value).toArray h fun r h' => ∃ r0, r = r0 ∧ Q r0 h' := by
 unfold F.xcm at H;refine fn_of Tryz.func207 Tryz.ntmps207 rfl rfl fun w0 => (tr_sub [(0, (.pointer p0))] ⟨rfl, trivial⟩ (tr_seq (tr_region (tq (y_assign rfl) (tr_nil (tr_thenN (tr_seq (tr_region (tq (y_move rfl) ?_)))))))));obtain ⟨a1, e2, H⟩ := H;refine tq (f_nn rfl e2) ?_;obtain ⟨y3, k4, H⟩ := H;refine tr_h (y_ld Tryz.isAgg99 rfl) k4 rfl rfl (tq (y_assign rfl) (tr_nil (tr_thenN (tr_seq (tr_region (tq (y_move rfl) (tq (y_move rfl) (tq (y_len (ts := #[]) Tryz.runUnderlying99 (o := y3.ptr) (n := y3.len) (cap := y3.cap) rfl) (tq (y_sub rfl rfl) ?_)))))))));obtain ⟨a5, e6, H⟩ := H;refine tq (f_idx (s := y3) Tryz.runUnderlying99 Tryz.sizeOf101 rfl rfl e6) ?_;obtain ⟨y7, k8, H⟩ := H;refine tr_h (y_ldS Tryz.isAgg101 Tryz.sizeOf101 rfl rfl) k8 rfl rfl (tr_e (f_alloc (cs := ((⟨(⟨none, 0, 0⟩ : Sl), 0⟩ : S_merge_front) : S_merge_front).cells.toArray) Tryz.zeroValue101 rfl H) rfl rfl ?_);rintro _ h9 ⟨a10, rfl, H⟩;refine tr_e (f_store (vs := y7.cells) Tryz.sizeOf101 rfl rfl cellsOfStruct rfl (by intro v hv; exact ones_S_merge_front _ v hv) H) rfl rfl ?_;rintro _ h11 ⟨rfl, H⟩;refine tr_nil (tr_thenN (tr_seq (tr_region (tq (y_move rfl) (tq (y_move rfl) (tq (y_move rfl) (tq (y_len (ts := #[]) Tryz.runUnderlying99 (o := y3.ptr) (n := y3.len) (cap := y3.cap) rfl) (tq (y_sub rfl rfl) ?_))))))));obtain ⟨s13, e12, H⟩ := H;refine tq (f_cutL (s := y3) none (some (.i64, (IntKind.wrap .i64 ((y3.len : Int) - 1)))) Tryz.runUnderlying99 Tryz.sizeOf101 rfl rfl rfl e12) ?_;obtain ⟨a14, e15, H⟩ := H;refine tq (f_nn rfl e15) (tr_e (f_store (vs := [s13.enc]) Tryz.sizeOf99 rfl rfl rfl rfl (one1 rfl) H) rfl rfl ?_);rintro _ h16 ⟨rfl, H⟩;refine tr_nil (tr_thenN (tr_seq (tr_region ?_)));obtain ⟨y17, k18, H⟩ := H;refine tr_h (y_ldS Tryz.isAgg101 Tryz.sizeOf101 rfl rfl) k18 rfl rfl (tq (y_mkif Tryz.runUnderlying101 rfl rfl) (tq (y_assign rfl) (tr_nil (tr_thenN (tr_ret ?_)))));exact tr_ret1 rfl rfl ⟨_, rfl, H⟩
def F.xck (p0 : Option Addr) (h : H) (Q : Value -> H -> Prop) : Prop :=
  nn p0 fun a2 =>
  ldL h a2 fun y3 =>
  F.xbn y3 h fun r4 h1 =>
  nn p0 fun a6 =>
  ldL h1 a6 fun y7 =>
  F.xbq y7 0 (IntKind.wrap .i64 (r4 - 1)) h1 fun h5 =>
  F.xaa p0 0 (IntKind.wrap .i64 (r4 - 1)) h5 fun r9 h8 =>
  F.xcm p0 h8 fun r11 h10 =>
  Q r11 h10
theorem F.xck_ok {p0 : Option Addr} {h : H} {Q : Value -> H -> Prop} (H : F.xck p0 h Q) : Fn PP 53 ([(.iface 103 (.pointer p0))] : List Value).toArray h fun r h' => ∃ r0, r = r0 ∧ Q r0 h' := by
 unfold F.xck at H;refine fn_of Tryz.func53 Tryz.ntmps53 rfl rfl fun w0 => (tr_sub [(0, (.iface 103 (.pointer p0)))] ⟨rfl, trivial⟩ (tr_seq (tr_region (tq (y_assign rfl) (tr_nil (tr_thenN (tr_seq (tr_region (tq (y_move rfl) (tr_e (e_invL mt_103_Len Tryz.isAgg99 Tryz.call204 rfl rfl (inv_map (fun y3 H => (F.xbn_ok H)) H)) rfl rfl ?_))))))))));rintro _ h1 ⟨r4, rfl, H⟩;refine tq (y_sub rfl rfl) (tq (y_assign rfl) (tr_nil (tr_thenN (tr_seq (tr_region (tq (y_move rfl) (tq (y_move rfl) (tr_e (e_invL mt_103_Swap Tryz.isAgg99 Tryz.call206 rfl rfl (inv_map (fun y7 H => (F.xbq_ok H)) H)) rfl rfl ?_))))))));rintro _ h5 ⟨rfl, H⟩;refine tr_nil (tr_thenN (tr_seq (tr_region (tq (y_move rfl) (tq (y_move rfl) (tr_e (e_call Tryz.call92 rfl (F.xaa_ok H)) rfl rfl ?_))))));rintro _ h8 ⟨r9, rfl, H⟩;refine tr_nil (tr_thenN (tr_seq (tr_region (tq (y_move rfl) (tr_e (e_invP mt_103_Pop Tryz.call207 rfl rfl (F.xcm_ok H)) rfl rfl ?_)))));rintro r11 h10 ⟨_, rfl, H⟩;refine tq (y_assign rfl) (tr_nil (tr_thenN (tr_ret ?_)));exact tr_ret1 rfl rfl ⟨_, rfl, H⟩
def F.xal.j2 (Q : H -> Prop) (C1 : (Option Addr) -> Int -> H -> Prop) (x0 : Option Addr) (x1 : Int) (x4 : Int) (h : H) : Prop :=
  nn x0 fun a3 =>
  ldL h a3 fun y4 =>
  F.xbq y4 x4 x1 h fun h2 =>
  C1 x0 x4 h2
def F.xal.j3 (Q : H -> Prop) (C1 : (Option Addr) -> Int -> H -> Prop) (x0 : Option Addr) (x1 : Int) (x4 : Int) (x17 : Bool) (h : H) : Prop :=
  (x17 = true ->
  Q h) ∧
  (x17 = false ->
  F.xal.j2 Q C1 x0 x1 x4 h)
def F.xal.l1 (Q : H -> Prop) : Nat -> (Option Addr) -> Int -> H -> Prop
  | 0, _, _, _ => False
  | q1 + 1, x0, x1, h =>
    (2 : Int) ≠ 0 ∧
    ((((IntKind.wrap .i64 (Int.tdiv (IntKind.wrap .i64 (x1 - 1)) 2)) == x1)) = true ->
    F.xal.j3 Q (F.xal.l1 Q q1) x0 x1 (IntKind.wrap .i64 (Int.tdiv (IntKind.wrap .i64 (x1 - 1)) 2)) true h) ∧
    ((((IntKind.wrap .i64 (Int.tdiv (IntKind.wrap .i64 (x1 - 1)) 2)) == x1)) = false ->
    nn x0 fun a8 =>
    ldL h a8 fun y9 =>
    F.xbo y9 x1 (IntKind.wrap .i64 (Int.tdiv (IntKind.wrap .i64 (x1 - 1)) 2)) h fun r10 h7 =>
    F.xal.j3 Q (F.xal.l1 Q q1) x0 x1 (IntKind.wrap .i64 (Int.tdiv (IntKind.wrap .i64 (x1 - 1)) 2)) (!r10) h7)
def F.xal (p0 : Option Addr) (p1 : Int) (h : H) (Q : H -> Prop) : Prop :=
  ∃ m, F.xal.l1 Q m p0 p1 h
theorem F.xal_ok {p0 : Option Addr} {p1 : Int} {h : H} {Q : H -> Prop} (H : F.xal p0 p1 h Q) : Fn PP 93 ([(.iface 103 (.pointer p0)), (.int .i64 p1)] : List Value).toArray h fun r h' => r = .tuple #[] ∧ Q  h' := by
 unfold F.xal at H;refine fn_of Tryz.func93 Tryz.ntmps93 rfl rfl fun w0 => (tr_sub [(0, (.iface 103 (.pointer p0))), (1, (.int .i64 p1))] ⟨rfl, rfl, trivial⟩ (tr_block ?_));obtain ⟨m11, H⟩ := H;refine tr_sub [(0, (.iface 103 (.pointer p0))), (1, (.int .i64 p1))] ⟨rfl, rfl, trivial⟩ ?_;refine tr_loop_j (fun m L' h => ∃ (x0 : Option Addr) (x1 : Int), L' = [(0, (.iface 103 (.pointer x0))), (1, (.int .i64 x1))] ∧ F.xal.l1 Q m x0 x1 h) ?_ ?_ m11 ⟨_, _, rfl, H⟩
 ·rintro L' h ⟨_, _, _, H⟩; exact H
 ·rintro q1 L' h ⟨x0, x1, rfl, H⟩;unfold F.xal.l1 at H;refine tr_block (tr_seq (tr_region (tq (y_move rfl) (tq (y_sub rfl rfl) ?_))));obtain ⟨e1, H⟩ := H;refine tq (y_quo rfl rfl e1) (tq (y_assign rfl) (tr_nil (tr_thenN ?_)));refine tr_seq_j (fun L' h => ∃ (x0 : Option Addr) (x1 : Int) (x4 : Int), L' = [(0, (.iface 103 (.pointer x0))), (1, (.int .i64 x1)), (4, (.int .i64 x4))] ∧ F.xal.j2 Q (F.xal.l1 Q q1) x0 x1 x4 h) ?_ ?_
  ·rintro L' h ⟨x0, x1, x4, rfl, H⟩;unfold F.xal.j2 at H;refine tr_seq (tr_region (tq (y_move rfl) (tq (y_move rfl) (tq (y_move rfl) (tr_e (e_invL mt_103_Swap Tryz.isAgg99 Tryz.call206 rfl rfl (inv_map (fun y4 H => (F.xbq_ok H)) H)) rfl rfl ?_)))));rintro _ h2 ⟨rfl, H⟩;refine tr_nil (tr_thenN (tr_region (tq (y_move rfl) (tq (y_assign rfl) (tr_nil (tr_blockN (tr_thenN ?_)))))));exact tr_join [(0, (.iface 103 (.pointer x0))), (1, (.int .i64 x4))] ⟨rfl, rfl, trivial⟩ ⟨_, _, rfl, H⟩
  ·refine tr_seq_j (fun L' h => ∃ (x0 : Option Addr) (x1 : Int) (x4 : Int) (x17 : Bool), L' = [(0, (.iface 103 (.pointer x0))), (1, (.int .i64 x1)), (4, (.int .i64 x4)), (17, (.bool x17))] ∧ F.xal.j3 Q (F.xal.l1 Q q1) x0 x1 x4 x17 h) ?_ ?_
   ·rintro L' h ⟨x0, x1, x4, x17, rfl, H⟩;unfold F.xal.j3 at H;refine tr_cond rfl (fun g5 => ?_) (fun g5 => ?_)
    ·replace H := H.1 g5;refine tr_exit (tr_thenE (tr_miss rfl (tr_thenE (tr_hit ?_))));exact tr_end0 rfl ⟨rfl, H⟩
    ·replace H := H.2 g5;refine tr_skip (tr_thenN ?_);exact tr_join [(0, (.iface 103 (.pointer x0))), (1, (.int .i64 x1)), (4, (.int .i64 x4))] ⟨rfl, rfl, rfl, trivial⟩ ⟨_, _, _, rfl, H⟩
   ·refine tr_region (tq (y_move rfl) (tq (y_move rfl) (tq (y_eql rfl rfl) (tq (y_move rfl) ?_))));refine tr_split (t := 11) rfl (fun g6 => ?_) (fun g6 => ?_)
    ·replace H := H.1 g6;refine ts (ts (ts (ts (ts (tq (y_pick_t rfl rfl) (tr_nil (tr_thenN ?_)))))));exact tr_join [(0, (.iface 103 (.pointer x0))), (1, (.int .i64 x1)), (4, (.int .i64 (IntKind.wrap .i64 (Int.tdiv (IntKind.wrap .i64 (x1 - 1)) 2)))), (17, (.bool true))] ⟨rfl, rfl, rfl, rfl, trivial⟩ ⟨_, _, _, _, rfl, H⟩
    ·replace H := H.2 g6;refine tq (y_move rfl) (tq (y_move rfl) (tq (y_move rfl) (tr_e (e_invL mt_103_Less Tryz.isAgg99 Tryz.call205 rfl rfl (inv_map (fun y9 H => (F.xbo_ok H)) H)) rfl rfl ?_)));rintro _ h7 ⟨r10, rfl, H⟩;refine tq (y_not rfl) (tq (y_pick_f rfl rfl) (tr_nil (tr_thenN ?_)));exact tr_join [(0, (.iface 103 (.pointer x0))), (1, (.int .i64 x1)), (4, (.int .i64 (IntKind.wrap .i64 (Int.tdiv (IntKind.wrap .i64 (x1 - 1)) 2)))), (17, (.bool (!r10)))] ⟨rfl, rfl, rfl, rfl, trivial⟩ ⟨_, _, _, _, rfl, H⟩
def F.xca (p0 : Option Addr) (p1 : Int) (h : H) (Q : H -> Prop) : Prop :=
  nn p0 fun a2 =>
  ldL h a2 fun y3 =>
  F.xbn y3 h fun r4 h1 =>
  F.xaa p0 p1 r4 h1 fun r6 h5 =>
  ((!r6) = true ->
  F.xal p0 p1 h5 fun h8 =>
  Q h8) ∧
  ((!r6) = false ->
  Q h5)
theorem F.xca_ok {p0 : Option Addr} {p1 : Int} {h : H} {Q : H -> Prop} (H : F.xca p0 p1 h Q) : Fn PP 54 ([(.iface 103 (.pointer p0)), (.int .i64 p1)] : List Value).toArray h fun r h' => r = .tuple #[] ∧ Q  h' := by
 unfold F.xca at H;refine fn_of Tryz.func54 Tryz.ntmps54 rfl rfl fun w0 => (tr_sub [(0, (.iface 103 (.pointer p0))), (1, (.int .i64 p1))] ⟨rfl, rfl, trivial⟩ (tr_seq (tr_region (tq (y_move rfl) (tq (y_move rfl) (tq (y_move rfl) (tr_e (e_invL mt_103_Len Tryz.isAgg99 Tryz.call204 rfl rfl (inv_map (fun y3 H => (F.xbn_ok H)) H)) rfl rfl ?_)))))));rintro _ h1 ⟨r4, rfl, H⟩;refine tr_e (e_call Tryz.call92 rfl (F.xaa_ok H)) rfl rfl ?_;rintro _ h5 ⟨r6, rfl, H⟩;refine tq (y_not rfl) (tr_nil (tr_thenN ?_));refine tr_cond rfl (fun g7 => ?_) (fun g7 => ?_)
 ·replace H := H.1 g7;refine tr_region (tq (y_move rfl) (tq (y_move rfl) (tr_e (e_call Tryz.call93 rfl (F.xal_ok H)) rfl rfl ?_)));rintro _ h8 ⟨rfl, H⟩;refine tr_nil ?_;exact tr_end0 rfl ⟨rfl, H⟩
 ·replace H := H.2 g7;refine tr_skip ?_;exact tr_end0 rfl ⟨rfl, H⟩
def F.xag.j3 (Q : Sl -> H -> Prop) (C1 : Int -> Addr -> Sl -> H -> Prop) (x0 : Int) (x5 : Addr) (x8 : Sl) (h : H) : Prop :=
  ldL h x5 fun y17 =>
  idxA y17 0 2 fun a19 =>
  ldL h (a19.add 0) fun y21 =>
  idxA y21 0 7 fun a23 =>
  ld_S_api_Row h a23 fun y25 =>
  newL h ((y25.cells).toArray) ty_49 1 fun s28 h27 =>
  runL PP (Builtin.append_ #[51, 51] 51 #[x8.enc, s28.enc]) h27 fun s30 h29 =>
  ldL h29 x5 fun y31 =>
  ldL h29 x5 fun y33 =>
  idxA y33 0 2 fun a35 =>
  ldL h29 (a35.add 0) fun y37 =>
  cutL y37 1 (y37.len : Int) 7 fun s40 =>
  idxA y31 0 2 fun a41 =>
  stH h29 (a41.add 0) [s40.enc] fun h43 =>
  ldL h43 x5 fun y44 =>
  idxA y44 0 2 fun a46 =>
  ldL h43 (a46.add 0) fun y48 =>
  ((((y48.len : Int) == 0)) = true ->
  F.xck (some x5) h43 fun r52 h51 =>
  C1 x0 x5 s30 h51) ∧
  ((((y48.len : Int) == 0)) = false ->
  F.xca (some x5) 0 h43 fun h53 =>
  C1 x0 x5 s30 h53)
def F.xag.j4 (Q : Sl -> H -> Prop) (C1 : Int -> Addr -> Sl -> H -> Prop) (x0 : Int) (x5 : Addr) (x8 : Sl) (x36 : Bool) (h : H) : Prop :=
  (x36 = true ->
  F.xag.j3 Q C1 x0 x5 x8 h) ∧
  (x36 = false ->
  Q x8 h)
def F.xag.l2 (Q : Sl -> H -> Prop) : Nat -> Int -> Addr -> Sl -> H -> Prop
  | 0, _, _, _, _ => False
  | q2 + 1, x0, x5, x8, h =>
    ldL h x5 fun y55 =>
    ((decide ((y55.len : Int) > 0)) = true ->
    F.xag.j4 Q (F.xag.l2 Q q2) x0 x5 x8 (decide ((x8.len : Int) < x0)) h) ∧
    ((decide ((y55.len : Int) > 0)) = false ->
    F.xag.j4 Q (F.xag.l2 Q q2) x0 x5 x8 false h)
def F.xag.l1 (Q : Sl -> H -> Prop) : Nat -> Int -> Addr -> Sl -> Int -> Int -> H -> Prop
  | 0, _, _, _, _, _, _ => False
  | q1 + 1, x0, x5, x9, x10, x11, h =>
    ((decide (x11 < x10)) = true ->
    idxA x9 x11 1 fun a4 =>
    ldL h a4 fun y6 =>
    ((decide ((y6.len : Int) > 0)) = true ->
    ldL h x5 fun y9 =>
    newL h (((⟨y6, x11⟩ : S_merge_front).cells).toArray) ty_101 1 fun s12 h11 =>
    runL PP (Builtin.append_ #[99, 99] 99 #[y9.enc, s12.enc]) h11 fun s14 h13 =>
    stH h13 x5 [s14.enc] fun h15 =>
    (F.xag.l1 Q q1) x0 x5 x9 x10 (IntKind.wrap .i64 (x11 + 1)) h15) ∧
    ((decide ((y6.len : Int) > 0)) = false ->
    (F.xag.l1 Q q1) x0 x5 x9 x10 (IntKind.wrap .i64 (x11 + 1)) h)) ∧
    ((decide (x11 < x10)) = false ->
    F.xbg (some x5) h fun h16 =>
    ∃ m, F.xag.l2 Q m x0 x5 (⟨none, 0, 0⟩ : Sl) h16)
def F.xag (p0 : Int) (p1 : Sl) (h : H) (Q : Sl -> H -> Prop) : Prop :=
  new h #[(⟨none, 0, 0⟩ : Sl).enc] ty_99 fun a2 h1 =>
  ∃ m, F.xag.l1 Q m p0 a2 p1 (p1.len : Int) 0 h1
theorem F.xag_ok {p0 : Int} {p1 : Sl} {h : H} {Q : Sl -> H -> Prop} (H : F.xag p0 p1 h Q) : Fn PP 22 ([(.int .i64 p0), p1.enc] : List Value).toArray h fun r h' => ∃ r0, r = r0.enc ∧ Q r0 h' := by
 unfold F.xag at H;refine fn_of Tryz.func22 Tryz.ntmps22 rfl rfl fun w0 => (tr_sub [(0, (.int .i64 p0)), (1, p1.enc)] ⟨rfl, rfl, trivial⟩ (tr_seq (tr_region (tq (y_assign rfl) (tr_nil (tr_thenN (tr_seq (tr_region (tr_e (f_alloc (cs := #[(⟨none, 0, 0⟩ : Sl).enc]) Tryz.zeroValue99 rfl H) rfl rfl ?_)))))))));rintro _ h1 ⟨a2, rfl, H⟩;refine tr_nil (tr_thenN (tr_seq (tr_seq (tr_region (tq (y_move rfl) (tq (y_len (ts := #[]) Tryz.runUnderlying55 (o := p1.ptr) (n := p1.len) (cap := p1.cap) rfl) (tq (y_move rfl) (tr_nil (tr_thenN (tr_block ?_))))))))));obtain ⟨m59, H⟩ := H;refine tr_sub [(0, (.int .i64 p0)), (5, (.pointer (some a2))), (9, p1.enc), (10, (.int .i64 (p1.len : Int))), (11, (.int .i64 0))] ⟨rfl, rfl, rfl, rfl, rfl, trivial⟩ ?_;refine tr_loop_j (fun m L' h => ∃ (x0 : Int) (x5 : Addr) (x9 : Sl) (x10 : Int) (x11 : Int), L' = [(0, (.int .i64 x0)), (5, (.pointer (some x5))), (9, x9.enc), (10, (.int .i64 x10)), (11, (.int .i64 x11))] ∧ F.xag.l1 Q m x0 x5 x9 x10 x11 h) ?_ ?_ m59 ⟨_, _, _, _, _, rfl, H⟩
 ·rintro L' h ⟨_, _, _, _, _, _, H⟩; exact H
 ·rintro q1 L' h ⟨x0, x5, x9, x10, x11, rfl, H⟩;unfold F.xag.l1 at H;refine tr_seq (tr_region (tq (y_lss rfl rfl) (tr_nil (tr_thenN (tr_seq ?_)))));refine tr_cond rfl (fun g3 => ?_) (fun g3 => ?_)
  ·replace H := H.1 g3;refine tr_skip (tr_thenN (tr_seq (tr_block (tr_seq (tr_region (tq (y_move rfl) ?_))))));obtain ⟨a4, e5, H⟩ := H;refine tq (f_idx (s := x9) Tryz.runUnderlying55 Tryz.sizeOf51 rfl rfl e5) ?_;obtain ⟨y6, k7, H⟩ := H;refine tr_h (y_ld Tryz.isAgg51 rfl) k7 rfl rfl (tq (y_assign rfl) (tq (y_assign rfl) (tr_nil (tr_thenN (tr_seq (tr_region (tq (y_move rfl) (tq (y_len (ts := #[]) Tryz.runUnderlying51 (o := y6.ptr) (n := y6.len) (cap := y6.cap) rfl) (tq (y_gtr rfl rfl) (tr_nil (tr_thenN ?_)))))))))));refine tr_cond rfl (fun g8 => ?_) (fun g8 => ?_)
   ·replace H := H.1 g8;refine tr_region ?_;obtain ⟨y9, k10, H⟩ := H;refine tr_h (y_ld Tryz.isAgg99 rfl) k10 rfl rfl (tq (y_move rfl) (tq (y_move rfl) (tq (f_build rfl (bd_101_0_1 y6 x11)) (tr_e (f_buildL (cs := ((⟨y6, x11⟩ : S_merge_front).cells).toArray) rfl rfl (bl_99_1_0 (⟨y6, x11⟩ : S_merge_front)) H) rfl rfl ?_))));rintro _ h11 ⟨s12, rfl, H⟩;refine tr_e (f_app rfl H) rfl rfl ?_;rintro _ h13 ⟨s14, rfl, H⟩;refine tr_e (f_store (vs := [s14.enc]) Tryz.sizeOf99 rfl rfl rfl rfl (one1 rfl) H) rfl rfl ?_;rintro _ h15 ⟨rfl, H⟩;refine tr_nil (tr_blockN (tr_thenN (tr_region (tq (y_add rfl rfl) (tq (y_move rfl) (tr_nil (tr_thenN ?_)))))));exact tr_join [(0, (.int .i64 x0)), (5, (.pointer (some x5))), (9, x9.enc), (10, (.int .i64 x10)), (11, (.int .i64 (IntKind.wrap .i64 (x11 + 1))))] ⟨rfl, rfl, rfl, rfl, rfl, trivial⟩ ⟨_, _, _, _, _, rfl, H⟩
   ·replace H := H.2 g8;refine tr_skip (tr_blockN (tr_thenN (tr_region (tq (y_add rfl rfl) (tq (y_move rfl) (tr_nil (tr_thenN ?_)))))));exact tr_join [(0, (.int .i64 x0)), (5, (.pointer (some x5))), (9, x9.enc), (10, (.int .i64 x10)), (11, (.int .i64 (IntKind.wrap .i64 (x11 + 1))))] ⟨rfl, rfl, rfl, rfl, rfl, trivial⟩ ⟨_, _, _, _, _, rfl, H⟩
  ·replace H := H.2 g3;refine tr_exit (tr_thenE (tr_thenE (tr_hit (tr_thenN (tr_seq (tr_region (tq (y_mkif Tryz.runUnderlying103 rfl rfl) (tr_e (e_call Tryz.call52 rfl (F.xbg_ok H)) rfl rfl ?_))))))));rintro _ h16 ⟨rfl, H⟩;refine tr_nil (tr_thenN (tr_seq (tr_region (tq (y_assign rfl) (tr_nil (tr_thenN (tr_seq (tr_block ?_))))))));obtain ⟨m58, H⟩ := H;refine tr_sub [(0, (.int .i64 x0)), (5, (.pointer (some x5))), (8, (⟨none, 0, 0⟩ : Sl).enc)] ⟨rfl, rfl, rfl, trivial⟩ ?_;refine tr_loop_j (fun m L' h => ∃ (x0 : Int) (x5 : Addr) (x8 : Sl), L' = [(0, (.int .i64 x0)), (5, (.pointer (some x5))), (8, x8.enc)] ∧ F.xag.l2 Q m x0 x5 x8 h) ?_ ?_ m58 ⟨_, _, _, rfl, H⟩
   ·rintro L' h ⟨_, _, _, _, H⟩; exact H
   ·rintro q2 L' h ⟨x0, x5, x8, rfl, H⟩;unfold F.xag.l2 at H;refine tr_seq_j (fun L' h => ∃ (x0 : Int) (x5 : Addr) (x8 : Sl), L' = [(0, (.int .i64 x0)), (5, (.pointer (some x5))), (8, x8.enc)] ∧ F.xag.j3 Q (F.xag.l2 Q q2) x0 x5 x8 h) ?_ ?_
    ·rintro L' h ⟨x0, x5, x8, rfl, H⟩;unfold F.xag.j3 at H;refine tr_block (tr_seq (tr_region (tq (y_move rfl) ?_)));obtain ⟨y17, k18, H⟩ := H;refine tr_h (y_ld Tryz.isAgg99 rfl) k18 rfl rfl ?_;obtain ⟨a19, e20, H⟩ := H;refine tq (f_idx (s := y17) Tryz.runUnderlying99 Tryz.sizeOf101 rfl rfl e20) (tq (y_fa (off := 0) Tryz.runUnderlying101 fo_101_0 rfl) ?_);obtain ⟨y21, k22, H⟩ := H;refine tr_h (y_ld Tryz.isAgg51 rfl) k22 rfl rfl ?_;obtain ⟨a23, e24, H⟩ := H;refine tq (f_idx (s := y21) Tryz.runUnderlying51 Tryz.sizeOf49 rfl rfl e24) ?_;obtain ⟨y25, k26, H⟩ := H;refine tr_h (y_ldS Tryz.isAgg49 Tryz.sizeOf49 rfl rfl) k26 rfl rfl (tr_e (f_buildL (cs := (y25.cells).toArray) rfl rfl (bl_51_1_0 y25) H) rfl rfl ?_);rintro _ h27 ⟨s28, rfl, H⟩;refine tr_e (f_app rfl H) rfl rfl ?_;rintro _ h29 ⟨s30, rfl, H⟩;refine tq (y_assign rfl) (tr_nil (tr_thenN (tr_seq (tr_draw mixed [0, 0, 2, 6, 14, 30, 63, 127, 255] (by kernel_rfl) ?_))));obtain ⟨y31, k32, H⟩ := H;refine g_h 0 1 rfl (by kernel_rfl) (y_ld Tryz.isAgg99 rfl) k32 rfl rfl ?_;obtain ⟨y33, k34, H⟩ := H;refine g_h 1 3 rfl (by kernel_rfl) (y_ld Tryz.isAgg99 rfl) k34 rfl rfl ?_;obtain ⟨a35, e36, H⟩ := H;refine g_p 2 7 rfl (by kernel_rfl) (f_idx (s := y33) Tryz.runUnderlying99 Tryz.sizeOf101 rfl rfl e36) rfl rfl (g_p 3 15 rfl (by kernel_rfl) (y_fa (off := 0) Tryz.runUnderlying101 fo_101_0 rfl) rfl rfl ?_);obtain ⟨y37, k38, H⟩ := H;refine g_h 4 31 rfl (by kernel_rfl) (y_ld Tryz.isAgg51 rfl) k38 rfl rfl ?_;obtain ⟨s40, e39, H⟩ := H;refine g_p 5 63 rfl (by kernel_rfl) (f_cutL (s := y37) (some (.i64, 1)) none Tryz.runUnderlying51 Tryz.sizeOf49 rfl rfl rfl e39) rfl rfl ?_;obtain ⟨a41, e42, H⟩ := H;refine g_p 6 127 rfl (by kernel_rfl) (f_idx (s := y31) Tryz.runUnderlying99 Tryz.sizeOf101 rfl rfl e42) rfl rfl (g_p 7 255 rfl (by kernel_rfl) (y_fa (off := 0) Tryz.runUnderlying101 fo_101_0 rfl) rfl rfl (g_e 8 511 [] (by kernel_rfl) rfl (by kernel_rfl) (f_store (vs := [s40.enc]) Tryz.sizeOf51 rfl rfl rfl rfl (one1 rfl) H) rfl rfl ?_));rintro _ h43 ⟨rfl, H⟩;refine ⟨trivial, ?_⟩;refine g_d (by kernel_rfl) (tr_thenN (tr_seq (tr_region ?_)));obtain ⟨y44, k45, H⟩ := H;refine tr_h (y_ld Tryz.isAgg99 rfl) k45 rfl rfl ?_;obtain ⟨a46, e47, H⟩ := H;refine tq (f_idx (s := y44) Tryz.runUnderlying99 Tryz.sizeOf101 rfl rfl e47) (tq (y_fa (off := 0) Tryz.runUnderlying101 fo_101_0 rfl) ?_);obtain ⟨y48, k49, H⟩ := H;refine tr_h (y_ld Tryz.isAgg51 rfl) k49 rfl rfl (tq (y_len (ts := #[]) Tryz.runUnderlying51 (o := y48.ptr) (n := y48.len) (cap := y48.cap) rfl) (tq (y_eql rfl rfl) (tr_nil (tr_thenN ?_))));refine tr_cond rfl (fun g50 => ?_) (fun g50 => ?_)
     ·replace H := H.1 g50;refine tr_region (tq (y_mkif Tryz.runUnderlying103 rfl rfl) (tr_e (e_call Tryz.call53 rfl (F.xck_ok H)) rfl rfl ?_));rintro r52 h51 ⟨_, rfl, H⟩;refine tr_nil (tr_blockN (tr_thenN ?_));exact tr_join [(0, (.int .i64 x0)), (5, (.pointer (some x5))), (8, s30.enc)] ⟨rfl, rfl, rfl, trivial⟩ ⟨_, _, _, rfl, H⟩
     ·replace H := H.2 g50;refine tr_region (tq (y_mkif Tryz.runUnderlying103 rfl rfl) (tr_e (e_call Tryz.call54 rfl (F.xca_ok H)) rfl rfl ?_));rintro _ h53 ⟨rfl, H⟩;refine tr_nil (tr_blockN (tr_thenN ?_));exact tr_join [(0, (.int .i64 x0)), (5, (.pointer (some x5))), (8, s30.enc)] ⟨rfl, rfl, rfl, trivial⟩ ⟨_, _, _, rfl, H⟩
    ·refine tr_seq_j (fun L' h => ∃ (x0 : Int) (x5 : Addr) (x8 : Sl) (x36 : Bool), L' = [(0, (.int .i64 x0)), (5, (.pointer (some x5))), (8, x8.enc), (36, (.bool x36))] ∧ F.xag.j4 Q (F.xag.l2 Q q2) x0 x5 x8 x36 h) ?_ ?_
     ·rintro L' h ⟨x0, x5, x8, x36, rfl, H⟩;unfold F.xag.j4 at H;refine tr_cond rfl (fun g54 => ?_) (fun g54 => ?_)
      ·replace H := H.1 g54;refine tr_skip (tr_thenN ?_);exact tr_join [(0, (.int .i64 x0)), (5, (.pointer (some x5))), (8, x8.enc)] ⟨rfl, rfl, rfl, trivial⟩ ⟨_, _, _, rfl, H⟩
      ·replace H := H.2 g54;refine tr_exit (tr_thenE (tr_thenE (tr_hit (tr_thenN (tr_seq (tr_region (tq (y_move rfl) (tq (y_assign rfl) (tr_nil (tr_thenN (tr_ret ?_)))))))))));exact tr_ret1 rfl rfl ⟨_, rfl, H⟩
     ·refine tr_region ?_;obtain ⟨y55, k56, H⟩ := H;refine tr_h (y_ld Tryz.isAgg99 rfl) k56 rfl rfl (tq (y_len (ts := #[]) Tryz.runUnderlying99 (o := y55.ptr) (n := y55.len) (cap := y55.cap) rfl) (tq (y_gtr rfl rfl) (tq (y_move rfl) ?_)));refine tr_split (t := 31) rfl (fun g57 => ?_) (fun g57 => ?_)
      ·replace H := H.1 g57;refine tq (y_move rfl) (tq (y_len (ts := #[]) Tryz.runUnderlying51 (o := x8.ptr) (n := x8.len) (cap := x8.cap) rfl) (tq (y_move rfl) (tq (y_lss rfl rfl) (tq (y_pick_t rfl rfl) (tr_nil (tr_thenN ?_))))));exact tr_join [(0, (.int .i64 x0)), (5, (.pointer (some x5))), (8, x8.enc), (36, (.bool (decide ((x8.len : Int) < x0))))] ⟨rfl, rfl, rfl, rfl, trivial⟩ ⟨_, _, _, _, rfl, H⟩
      ·replace H := H.2 g57;refine ts (ts (ts (ts (tq (y_pick_f rfl rfl) (tr_nil (tr_thenN ?_))))));exact tr_join [(0, (.int .i64 x0)), (5, (.pointer (some x5))), (8, x8.enc), (36, (.bool false))] ⟨rfl, rfl, rfl, rfl, trivial⟩ ⟨_, _, _, _, rfl, H⟩
def F.xbi.l1 (Q : Sl -> H -> Prop) : Nat -> Int -> Int -> Addr -> Addr -> Sl -> Sl -> Int -> Int -> H -> Prop
  | 0, _, _, _, _, _, _, _, _, _ => False
  | q1 + 1, x1, x4, x7, x8, x11, x17, x18, x19, h =>
    ((decide (x19 < x18)) = true ->
    idxA x17 x19 1 fun a10 =>
    ldP h a10 fun y12 =>
    ld_S_api_Cell h x7 fun y14 =>
    ld_S_api_Cell h x8 fun y16 =>
    F.xaj y12 x1 y14 y16 x4 h fun r19 h18 =>
    newL h18 #[r19.enc] ty_51 1 fun s21 h20 =>
    runL PP (Builtin.append_ #[55, 55] 55 #[x11.enc, s21.enc]) h20 fun s23 h22 =>
    (F.xbi.l1 Q q1) x1 x4 x7 x8 s23 x17 x18 (IntKind.wrap .i64 (x19 + 1)) h22) ∧
    ((decide (x19 < x18)) = false ->
    F.xag x4 x11 h fun r25 h24 =>
    Q r25 h24)
def F.xbi (p0 : Option Addr) (p1 : Int) (p2 : S_api_Cell) (p3 : S_api_Cell) (p4 : Int) (h : H) (Q : Sl -> H -> Prop) : Prop :=
  new h p2.cells.toArray ty_35 fun a2 h1 =>
  new h1 p3.cells.toArray ty_35 fun a4 h3 =>
  nn p0 fun a5 =>
  ldL h3 (a5.add 0) fun y7 =>
  ∃ m, F.xbi.l1 Q m p1 p4 a2 a4 (⟨none, 0, 0⟩ : Sl) y7 (y7.len : Int) 0 h3
theorem F.xbi_ok {p0 : Option Addr} {p1 : Int} {p2 : S_api_Cell} {p3 : S_api_Cell} {p4 : Int} {h : H} {Q : Sl -> H -> Prop} (H : F.xbi p0 p1 p2 p3 p4 h Q) : Fn PP 18 ([(.pointer p0), (.int .i64 p1), (.agg p2.cells.toArray), (.agg p3.cells.toArray), (.int .i64 p4)] : List Value).toArray h fun r h' => ∃ r0, r = r0.enc ∧ Q r0 h' := by
 unfold F.xbi at H;refine fn_of Tryz.func18 Tryz.ntmps18 rfl rfl fun w0 => (tr_sub [(0, (.pointer p0)), (1, (.int .i64 p1)), (2, (.agg p2.cells.toArray)), (3, (.agg p3.cells.toArray)), (4, (.int .i64 p4))] ⟨rfl, rfl, rfl, rfl, rfl, trivial⟩ (tr_seq (tr_region (tr_e (f_box (cs := p2.cells.toArray) rfl rfl H) rfl rfl ?_))));rintro _ h1 ⟨a2, rfl, H⟩;refine tr_e (f_box (cs := p3.cells.toArray) rfl rfl H) rfl rfl ?_;rintro _ h3 ⟨a4, rfl, H⟩;refine tq (y_assign rfl) (tr_nil (tr_thenN (tr_seq (tr_region (tq (y_assign rfl) (tr_nil (tr_thenN (tr_seq (tr_seq (tr_region (tq (y_move rfl) ?_)))))))))));obtain ⟨a5, e6, H⟩ := H;refine tq (f_nn rfl e6) (tq (y_fa (off := 0) Tryz.runUnderlying83 fo_83_0 rfl) ?_);obtain ⟨y7, k8, H⟩ := H;refine tr_h (y_ld Tryz.isAgg81 rfl) k8 rfl rfl (tq (y_len (ts := #[]) Tryz.runUnderlying81 (o := y7.ptr) (n := y7.len) (cap := y7.cap) rfl) (tq (y_move rfl) (tr_nil (tr_thenN (tr_block ?_)))));obtain ⟨m26, H⟩ := H;refine tr_sub [(1, (.int .i64 p1)), (4, (.int .i64 p4)), (7, (.pointer (some a2))), (8, (.pointer (some a4))), (11, (⟨none, 0, 0⟩ : Sl).enc), (17, y7.enc), (18, (.int .i64 (y7.len : Int))), (19, (.int .i64 0))] ⟨rfl, rfl, rfl, rfl, rfl, rfl, rfl, rfl, trivial⟩ ?_;refine tr_loop_j (fun m L' h => ∃ (x1 : Int) (x4 : Int) (x7 : Addr) (x8 : Addr) (x11 : Sl) (x17 : Sl) (x18 : Int) (x19 : Int), L' = [(1, (.int .i64 x1)), (4, (.int .i64 x4)), (7, (.pointer (some x7))), (8, (.pointer (some x8))), (11, x11.enc), (17, x17.enc), (18, (.int .i64 x18)), (19, (.int .i64 x19))] ∧ F.xbi.l1 Q m x1 x4 x7 x8 x11 x17 x18 x19 h) ?_ ?_ m26 ⟨_, _, _, _, _, _, _, _, rfl, H⟩
 ·rintro L' h ⟨_, _, _, _, _, _, _, _, _, H⟩; exact H
 ·rintro q1 L' h ⟨x1, x4, x7, x8, x11, x17, x18, x19, rfl, H⟩;unfold F.xbi.l1 at H;refine tr_seq (tr_region (tq (y_lss rfl rfl) (tr_nil (tr_thenN (tr_seq ?_)))));refine tr_cond rfl (fun g9 => ?_) (fun g9 => ?_)
  ·replace H := H.1 g9;refine tr_skip (tr_thenN (tr_seq (tr_block (tr_seq (tr_region ?_)))));obtain ⟨a10, e11, H⟩ := H;refine tq (f_idx (s := x17) Tryz.runUnderlying81 Tryz.sizeOf64 rfl rfl e11) ?_;obtain ⟨y12, k13, H⟩ := H;refine tr_h (y_ld Tryz.isAgg64 rfl) k13 rfl rfl (tq (y_assign rfl) (tr_nil (tr_thenN (tr_region (tq (y_move rfl) (tq (y_move rfl) (tq (y_move rfl) ?_)))))));obtain ⟨y14, k15, H⟩ := H;refine tr_h (y_ldS Tryz.isAgg35 Tryz.sizeOf35 rfl rfl) k15 rfl rfl ?_;obtain ⟨y16, k17, H⟩ := H;refine tr_h (y_ldS Tryz.isAgg35 Tryz.sizeOf35 rfl rfl) k17 rfl rfl (tq (y_move rfl) (tr_e (e_call Tryz.call39 rfl (F.xaj_ok H)) rfl rfl ?_));rintro _ h18 ⟨r19, rfl, H⟩;refine tr_e (f_buildL (cs := #[r19.enc]) rfl rfl (bl_55_1_0 r19) H) rfl rfl ?_;rintro _ h20 ⟨s21, rfl, H⟩;refine tr_e (f_app rfl H) rfl rfl ?_;rintro _ h22 ⟨s23, rfl, H⟩;refine tq (y_assign rfl) (tr_nil (tr_blockN (tr_thenN (tr_region (tq (y_add rfl rfl) (tq (y_move rfl) (tr_nil (tr_thenN ?_))))))));exact tr_join [(1, (.int .i64 x1)), (4, (.int .i64 x4)), (7, (.pointer (some x7))), (8, (.pointer (some x8))), (11, s23.enc), (17, x17.enc), (18, (.int .i64 x18)), (19, (.int .i64 (IntKind.wrap .i64 (x19 + 1))))] ⟨rfl, rfl, rfl, rfl, rfl, rfl, rfl, rfl, trivial⟩ ⟨_, _, _, _, _, _, _, _, rfl, H⟩
  ·replace H := H.2 g9;refine tr_exit (tr_thenE (tr_thenE (tr_hit (tr_thenN (tr_seq (tr_region (tq (y_move rfl) (tq (y_move rfl) (tr_e (e_call Tryz.call22 rfl (F.xag_ok H)) rfl rfl ?_)))))))));rintro _ h24 ⟨r25, rfl, H⟩;refine tq (y_assign rfl) (tr_nil (tr_thenN (tr_ret ?_)));exact tr_ret1 rfl rfl ⟨_, rfl, H⟩
def F.xcn (p0 : Option Addr) (p1 : Int) (h : H) (Q : Bool -> H -> Prop) : Prop :=
  ((decide (p1 >= 0)) = true ->
  nn p0 fun a2 =>
  ldL h (a2.add 0) fun y4 =>
  Q (decide (p1 < (y4.len : Int))) h) ∧
  ((decide (p1 >= 0)) = false ->
  Q false h)
theorem F.xcn_ok {p0 : Option Addr} {p1 : Int} {h : H} {Q : Bool -> H -> Prop} (H : F.xcn p0 p1 h Q) : Fn PP 51 ([(.pointer p0), (.int .i64 p1)] : List Value).toArray h fun r h' => ∃ r0, r = (.bool r0) ∧ Q r0 h' := by
 unfold F.xcn at H;refine fn_of Tryz.func51 Tryz.ntmps51 rfl rfl fun w0 => (tr_sub [(0, (.pointer p0)), (1, (.int .i64 p1))] ⟨rfl, rfl, trivial⟩ (tr_seq (tr_region (tq (y_assign rfl) (tr_nil (tr_thenN (tr_seq (tr_region (tq (y_move rfl) (tq (y_geq rfl rfl) (tq (y_move rfl) ?_)))))))))));refine tr_split (t := 7) rfl (fun g1 => ?_) (fun g1 => ?_)
 ·replace H := H.1 g1;refine tq (y_move rfl) (tq (y_move rfl) ?_);obtain ⟨a2, e3, H⟩ := H;refine tq (f_nn rfl e3) (tq (y_fa (off := 0) Tryz.runUnderlying83 fo_83_0 rfl) ?_);obtain ⟨y4, k5, H⟩ := H;refine tr_h (y_ld Tryz.isAgg81 rfl) k5 rfl rfl (tq (y_len (ts := #[]) Tryz.runUnderlying81 (o := y4.ptr) (n := y4.len) (cap := y4.cap) rfl) (tq (y_lss rfl rfl) (tq (y_pick_t rfl rfl) (tq (y_assign rfl) (tr_nil (tr_thenN (tr_ret ?_)))))));exact tr_ret1 rfl rfl ⟨_, rfl, H⟩
 ·replace H := H.2 g1;refine ts (ts (ts (ts (ts (ts (ts (tq (y_pick_f rfl rfl) (tq (y_assign rfl) (tr_nil (tr_thenN (tr_ret ?_)))))))))));exact tr_ret1 rfl rfl ⟨_, rfl, H⟩
def F.xcf (p0 : Option Addr) (h : H) (Q : Int -> H -> Prop) : Prop :=
  nn p0 fun a1 =>
  ldI .i64 h (a1.add 0) fun y3 =>
  Q y3 h
theorem F.xcf_ok {p0 : Option Addr} {h : H} {Q : Int -> H -> Prop} (H : F.xcf p0 h Q) : Fn PP 31 ([(.pointer p0)] : List Value).toArray h fun r h' => ∃ r0, r = (.int .i64 r0) ∧ Q r0 h' := by
 unfold F.xcf at H;refine fn_of Tryz.func31 Tryz.ntmps31 rfl rfl fun w0 => (tr_sub [(0, (.pointer p0))] ⟨rfl, trivial⟩ (tr_seq (tr_region (tq (y_assign rfl) (tr_nil (tr_thenN (tr_seq (tr_region (tq (y_move rfl) ?_)))))))));obtain ⟨a1, e2, H⟩ := H;refine tq (f_nn rfl e2) (tq (y_fa (off := 0) Tryz.runUnderlying71 fo_71_0 rfl) ?_);obtain ⟨y3, k4, H⟩ := H;refine tr_h (y_ld Tryz.isAgg3 rfl) k4 rfl rfl (tq (y_assign rfl) (tr_nil (tr_thenN (tr_ret ?_))));exact tr_ret1 rfl rfl ⟨_, rfl, H⟩
def F.xbt (p0 : Option Addr) (p1 : Int) (h : H) (Q : Int -> H -> Prop) : Prop :=
  F.xcn p0 p1 h fun r2 h1 =>
  ((!r2) = true ->
  Q 0 h1) ∧
  ((!r2) = false ->
  nn p0 fun a4 =>
  ldL h1 (a4.add 0) fun y6 =>
  idxA y6 p1 1 fun a8 =>
  ldP h1 a8 fun y10 =>
  nn y10 fun a12 =>
  F.xcf (some (a12.add 0)) h1 fun r15 h14 =>
  Q r15 h14)
theorem F.xbt_ok {p0 : Option Addr} {p1 : Int} {h : H} {Q : Int -> H -> Prop} (H : F.xbt p0 p1 h Q) : Fn PP 24 ([(.pointer p0), (.int .i64 p1)] : List Value).toArray h fun r h' => ∃ r0, r = (.int .i64 r0) ∧ Q r0 h' := by
 unfold F.xbt at H;refine fn_of Tryz.func24 Tryz.ntmps24 rfl rfl fun w0 => (tr_sub [(0, (.pointer p0)), (1, (.int .i64 p1))] ⟨rfl, rfl, trivial⟩ (tr_seq (tr_region (tq (y_assign rfl) (tr_nil (tr_thenN (tr_seq (tr_seq (tr_region (tq (y_move rfl) (tq (y_move rfl) (tr_e (e_call Tryz.call51 rfl (F.xcn_ok H)) rfl rfl ?_))))))))))));rintro _ h1 ⟨r2, rfl, H⟩;refine tq (y_not rfl) (tr_nil (tr_thenN ?_));refine tr_cond rfl (fun g3 => ?_) (fun g3 => ?_)
 ·replace H := H.1 g3;refine tr_seq (tr_region (tq (y_assign rfl) (tr_nil (tr_thenN (tr_ret (tr_thenR ?_))))));exact tr_ret1 rfl rfl ⟨_, rfl, H⟩
 ·replace H := H.2 g3;refine tr_skip (tr_thenN (tr_seq (tr_region (tq (y_move rfl) ?_))));obtain ⟨a4, e5, H⟩ := H;refine tq (f_nn rfl e5) (tq (y_fa (off := 0) Tryz.runUnderlying83 fo_83_0 rfl) ?_);obtain ⟨y6, k7, H⟩ := H;refine tr_h (y_ld Tryz.isAgg81 rfl) k7 rfl rfl (tq (y_move rfl) ?_);obtain ⟨a8, e9, H⟩ := H;refine tq (f_idx (s := y6) Tryz.runUnderlying81 Tryz.sizeOf64 rfl rfl e9) ?_;obtain ⟨y10, k11, H⟩ := H;refine tr_h (y_ld Tryz.isAgg64 rfl) k11 rfl rfl ?_;obtain ⟨a12, e13, H⟩ := H;refine tq (f_nn rfl e13) (tq (y_fa (off := 0) Tryz.runUnderlying74 fo_74_0 rfl) (tr_e (e_call Tryz.call31 rfl (F.xcf_ok H)) rfl rfl ?_));rintro _ h14 ⟨r15, rfl, H⟩;refine tq (y_assign rfl) (tr_nil (tr_thenN (tr_ret ?_)));exact tr_ret1 rfl rfl ⟨_, rfl, H⟩
def F.xax.j1 (Q : Bool -> H -> Prop) (x1 : Option Addr) (h : H) : Prop :=
  F.xbw 1 h fun r5 h4 =>
  F.xbv x1 1 (⟨(⟨0, (⟨#[97]⟩ : ByteArray), 0⟩ : S_api_Cell), r5⟩ : S_api_Row) h4 fun r7 h6 =>
  F.xbw 2 h6 fun r9 h8 =>
  F.xbv x1 1 (⟨(⟨0, (⟨#[98]⟩ : ByteArray), 0⟩ : S_api_Cell), r9⟩ : S_api_Row) h8 fun r11 h10 =>
  F.xbi x1 0 (⟨0, (⟨#[]⟩ : ByteArray), 0⟩ : S_api_Cell) (⟨1, (⟨#[]⟩ : ByteArray), 0⟩ : S_api_Cell) 9 h10 fun r13 h12 =>
  (((r7 == 0)) = true ->
  (((r11 == 0)) = true ->
  F.xbm x1 (⟨#[97]⟩ : ByteArray) h12 fun r17 h16 =>
  (((r17 == 0)) = true ->
  F.xbm x1 (⟨#[98]⟩ : ByteArray) h16 fun r20 h19 =>
  (((r20 == 1)) = true ->
  ((((r13.len : Int) == 2)) = true ->
  idxA r13 1 7 fun a23 =>
  ldI .i64 h19 ((a23.add 3).add 1) fun y25 =>
  (((y25 == 2)) = true ->
  F.xbt x1 1 h19 fun r29 h28 =>
  (((r29 == 2)) = true ->
  F.xbt x1 2 h28 fun r32 h31 =>
  Q ((r32 == 0)) h31) ∧
  (((r29 == 2)) = false ->
  Q false h28)) ∧
  (((y25 == 2)) = false ->
  Q false h19)) ∧
  ((((r13.len : Int) == 2)) = false ->
  Q false h19)) ∧
  (((r20 == 1)) = false ->
  Q false h19)) ∧
  (((r17 == 0)) = false ->
  Q false h16)) ∧
  (((r11 == 0)) = false ->
  Q false h12)) ∧
  (((r7 == 0)) = false ->
  Q false h12)
def F.xax.j2 (Q : Bool -> H -> Prop) (x1 : Option Addr) (x15 : Bool) (h : H) : Prop :=
  (x15 = true ->
  Q false h) ∧
  (x15 = false ->
  F.xax.j1 Q x1 h)
def F.xax  (h : H) (Q : Bool -> H -> Prop) : Prop :=
  F.xai 2 9 h fun r2 r3 h1 =>
  (((r3 != 0)) = true ->
  F.xax.j2 Q r2 true h1) ∧
  (((r3 != 0)) = false ->
  F.xax.j2 Q r2 r2.isNone h1)
theorem F.xax_ok  {h : H} {Q : Bool -> H -> Prop} (H : F.xax  h Q) : Fn PP 12 ([] : List Value).toArray h fun r h' => ∃ r0, r = (.bool r0) ∧ Q r0 h' := by
 unfold F.xax at H;refine fn_of Tryz.func12 Tryz.ntmps12 rfl rfl fun w0 => (tr_sub [] trivial (tr_seq (tr_region (tq (y_assign rfl) (tr_nil (tr_thenN (tr_seq (tr_region (tr_e (e_call Tryz.call8 rfl (F.xai_ok H)) rfl rfl ?_)))))))));rintro _ h1 ⟨r2, r3, rfl, H⟩;refine tq (y_move rfl) (tq (y_ext rfl rfl) (tq (y_ext rfl rfl) (tq (y_assign rfl) (tq (y_assign rfl) (tr_nil (tr_thenN ?_))))));refine tr_seq_j (fun L' h => ∃ (x1 : Option Addr), L' = [(1, (.pointer x1))] ∧ F.xax.j1 Q x1 h) ?_ ?_
 ·rintro L' h ⟨x1, rfl, H⟩;unfold F.xax.j1 at H;refine tr_seq (tr_region (tq (y_move rfl) (tq (f_build rfl (bd_35_1 (⟨#[97]⟩ : ByteArray))) (tr_e (e_call Tryz.call16 rfl (F.xbw_ok H)) rfl rfl ?_))));rintro _ h4 ⟨r5, rfl, H⟩;refine tq (f_build rfl (bd_49_0_1 (⟨0, (⟨#[97]⟩ : ByteArray), 0⟩ : S_api_Cell) r5)) (tr_e (e_call Tryz.call14 rfl (F.xbv_ok H)) rfl rfl ?_);rintro _ h6 ⟨r7, rfl, H⟩;refine tq (y_assign rfl) (tr_nil (tr_thenN (tr_seq (tr_region (tq (y_move rfl) (tq (f_build rfl (bd_35_1 (⟨#[98]⟩ : ByteArray))) (tr_e (e_call Tryz.call16 rfl (F.xbw_ok H)) rfl rfl ?_)))))));rintro _ h8 ⟨r9, rfl, H⟩;refine tq (f_build rfl (bd_49_0_1 (⟨0, (⟨#[98]⟩ : ByteArray), 0⟩ : S_api_Cell) r9)) (tr_e (e_call Tryz.call14 rfl (F.xbv_ok H)) rfl rfl ?_);rintro _ h10 ⟨r11, rfl, H⟩;refine tq (y_assign rfl) (tr_nil (tr_thenN (tr_seq (tr_region (tq (y_move rfl) (tq (f_build rfl (bd_35_ )) (tq (f_build rfl (bd_35_0 1)) (tr_e (e_call Tryz.call18 rfl (F.xbi_ok H)) rfl rfl ?_))))))));rintro _ h12 ⟨r13, rfl, H⟩;refine tq (y_assign rfl) (tr_nil (tr_thenN (tr_seq (tr_region (tq (y_move rfl) (tq (y_eql rfl rfl) (tq (y_move rfl) ?_)))))));refine tr_split (t := 32) rfl (fun g14 => ?_) (fun g14 => ?_)
  ·replace H := H.1 g14;refine tq (y_move rfl) (tq (y_eql rfl rfl) (tq (y_pick_t rfl rfl) (tq (y_move rfl) ?_)));refine tr_split (t := 36) rfl (fun g15 => ?_) (fun g15 => ?_)
   ·replace H := H.1 g15;refine tq (y_move rfl) (tr_e (e_call Tryz.call10 rfl (F.xbm_ok H)) rfl rfl ?_);rintro _ h16 ⟨r17, rfl, H⟩;refine tq (y_eql rfl rfl) (tq (y_pick_t rfl rfl) (tq (y_move rfl) ?_));refine tr_split (t := 41) rfl (fun g18 => ?_) (fun g18 => ?_)
    ·replace H := H.1 g18;refine tq (y_move rfl) (tr_e (e_call Tryz.call10 rfl (F.xbm_ok H)) rfl rfl ?_);rintro _ h19 ⟨r20, rfl, H⟩;refine tq (y_eql rfl rfl) (tq (y_pick_t rfl rfl) (tq (y_move rfl) ?_));refine tr_split (t := 46) rfl (fun g21 => ?_) (fun g21 => ?_)
     ·replace H := H.1 g21;refine tq (y_move rfl) (tq (y_len (ts := #[]) Tryz.runUnderlying51 (o := r13.ptr) (n := r13.len) (cap := r13.cap) rfl) (tq (y_eql rfl rfl) (tq (y_pick_t rfl rfl) (tq (y_move rfl) ?_))));refine tr_split (t := 51) rfl (fun g22 => ?_) (fun g22 => ?_)
      ·replace H := H.1 g22;refine tq (y_move rfl) ?_;obtain ⟨a23, e24, H⟩ := H;refine tq (f_idx (s := r13) Tryz.runUnderlying51 Tryz.sizeOf49 rfl rfl e24) (tq (y_fa (off := 3) Tryz.runUnderlying49 fo_49_1 rfl) (tq (y_fa (off := 1) Tryz.runUnderlying40 fo_40_1 rfl) ?_));obtain ⟨y25, k26, H⟩ := H;refine tr_h (y_ld Tryz.isAgg2 rfl) k26 rfl rfl (tq (y_eql rfl rfl) (tq (y_pick_t rfl rfl) (tq (y_move rfl) ?_)));refine tr_split (t := 59) rfl (fun g27 => ?_) (fun g27 => ?_)
       ·replace H := H.1 g27;refine tq (y_move rfl) (tr_e (e_call Tryz.call24 rfl (F.xbt_ok H)) rfl rfl ?_);rintro _ h28 ⟨r29, rfl, H⟩;refine tq (y_eql rfl rfl) (tq (y_pick_t rfl rfl) (tq (y_move rfl) ?_));refine tr_split (t := 64) rfl (fun g30 => ?_) (fun g30 => ?_)
        ·replace H := H.1 g30;refine tq (y_move rfl) (tr_e (e_call Tryz.call24 rfl (F.xbt_ok H)) rfl rfl ?_);rintro _ h31 ⟨r32, rfl, H⟩;refine tq (y_eql rfl rfl) (tq (y_pick_t rfl rfl) (tq (y_assign rfl) (tr_nil (tr_thenN (tr_ret ?_)))));exact tr_ret1 rfl rfl ⟨_, rfl, H⟩
        ·replace H := H.2 g30;refine ts (ts (ts (tq (y_pick_f rfl rfl) (tq (y_assign rfl) (tr_nil (tr_thenN (tr_ret ?_)))))));exact tr_ret1 rfl rfl ⟨_, rfl, H⟩
       ·replace H := H.2 g27;refine ts (ts (ts (tq (y_pick_f rfl rfl) (tq (y_move rfl) (ts (ts (ts (tq (y_pick_f rfl rfl) (tq (y_assign rfl) (tr_nil (tr_thenN (tr_ret ?_))))))))))));exact tr_ret1 rfl rfl ⟨_, rfl, H⟩
      ·replace H := H.2 g22;refine ts (ts (ts (ts (ts (ts (tq (y_pick_f rfl rfl) (tq (y_move rfl) (ts (ts (ts (tq (y_pick_f rfl rfl) (tq (y_move rfl) (ts ?_)))))))))))));refine ts (ts (tq (y_pick_f rfl rfl) (tq (y_assign rfl) (tr_nil (tr_thenN (tr_ret ?_))))));exact tr_ret1 rfl rfl ⟨_, rfl, H⟩
     ·replace H := H.2 g21;refine ts (ts (ts (tq (y_pick_f rfl rfl) (tq (y_move rfl) (ts (ts (ts (ts (ts (ts (tq (y_pick_f rfl rfl) (tq (y_move rfl) (ts ?_)))))))))))));refine ts (ts (tq (y_pick_f rfl rfl) (tq (y_move rfl) (ts (ts (ts (tq (y_pick_f rfl rfl) (tq (y_assign rfl) (tr_nil (tr_thenN (tr_ret ?_)))))))))));exact tr_ret1 rfl rfl ⟨_, rfl, H⟩
    ·replace H := H.2 g18;refine ts (ts (ts (tq (y_pick_f rfl rfl) (tq (y_move rfl) (ts (ts (ts (tq (y_pick_f rfl rfl) (tq (y_move rfl) (ts (ts (ts (ts ?_)))))))))))));refine ts (ts (tq (y_pick_f rfl rfl) (tq (y_move rfl) (ts (ts (ts (tq (y_pick_f rfl rfl) (tq (y_move rfl) (ts (ts (ts (tq (y_pick_f rfl rfl) (tq (y_assign rfl) ?_)))))))))))));refine tr_nil (tr_thenN (tr_ret ?_));exact tr_ret1 rfl rfl ⟨_, rfl, H⟩
   ·replace H := H.2 g15;refine ts (ts (ts (tq (y_pick_f rfl rfl) (tq (y_move rfl) (ts (ts (ts (tq (y_pick_f rfl rfl) (tq (y_move rfl) (ts (ts (ts (tq (y_pick_f rfl rfl) ?_)))))))))))));refine tq (y_move rfl) (ts (ts (ts (ts (ts (ts (tq (y_pick_f rfl rfl) (tq (y_move rfl) (ts (ts (ts (tq (y_pick_f rfl rfl) (tq (y_move rfl) ?_)))))))))))));refine ts (ts (ts (tq (y_pick_f rfl rfl) (tq (y_assign rfl) (tr_nil (tr_thenN (tr_ret ?_)))))));exact tr_ret1 rfl rfl ⟨_, rfl, H⟩
  ·replace H := H.2 g14;refine ts (ts (tq (y_pick_f rfl rfl) (tq (y_move rfl) (ts (ts (ts (tq (y_pick_f rfl rfl) (tq (y_move rfl) (ts (ts (ts (tq (y_pick_f rfl rfl) (tq (y_move rfl) ?_)))))))))))));refine ts (ts (ts (tq (y_pick_f rfl rfl) (tq (y_move rfl) (ts (ts (ts (ts (ts (ts (tq (y_pick_f rfl rfl) (tq (y_move rfl) (ts ?_)))))))))))));refine ts (ts (tq (y_pick_f rfl rfl) (tq (y_move rfl) (ts (ts (ts (tq (y_pick_f rfl rfl) (tq (y_assign rfl) (tr_nil (tr_thenN (tr_ret ?_)))))))))));exact tr_ret1 rfl rfl ⟨_, rfl, H⟩
 ·refine tr_seq_j (fun L' h => ∃ (x1 : Option Addr) (x15 : Bool), L' = [(1, (.pointer x1)), (15, (.bool x15))] ∧ F.xax.j2 Q x1 x15 h) ?_ ?_
  ·rintro L' h ⟨x1, x15, rfl, H⟩;unfold F.xax.j2 at H;refine tr_cond rfl (fun g33 => ?_) (fun g33 => ?_)
   ·replace H := H.1 g33;refine tr_seq (tr_region (tq (y_assign rfl) (tr_nil (tr_thenN (tr_ret (tr_thenR ?_))))));exact tr_ret1 rfl rfl ⟨_, rfl, H⟩
   ·replace H := H.2 g33;refine tr_skip (tr_thenN ?_);exact tr_join [(1, (.pointer x1))] ⟨rfl, trivial⟩ ⟨_, rfl, H⟩
  ·refine tr_region (tq (y_move rfl) (tq (y_neq rfl rfl) (tq (y_move rfl) ?_)));refine tr_split (t := 12) rfl (fun g34 => ?_) (fun g34 => ?_)
   ·replace H := H.1 g34;refine ts (ts (tq (y_pick_t rfl rfl) (tr_nil (tr_thenN ?_))));exact tr_join [(1, (.pointer r2)), (15, (.bool true))] ⟨rfl, rfl, trivial⟩ ⟨_, _, rfl, H⟩
   ·replace H := H.2 g34;refine tq (y_move rfl) (tq (y_pnil_eql Tryz.runUnderlying23 rfl rfl) (tq (y_pick_f rfl rfl) (tr_nil (tr_thenN ?_))));exact tr_join [(1, (.pointer r2)), (15, (.bool r2.isNone))] ⟨rfl, rfl, trivial⟩ ⟨_, _, rfl, H⟩
def F.xac.j3 (Q : Bool -> H -> Prop) (C1 : Sl -> (Option Addr) -> (Option Addr) -> Int -> H -> Prop) (x1 : Sl) (x5 : Option Addr) (x7 : Option Addr) (x9 : Int) (h : H) : Prop :=
  idxA x1 x9 1 fun a7 =>
  ldS h a7 fun y9 =>
  idxA x1 x9 1 fun a11 =>
  ldS h a11 fun y13 =>
  F.xbm x5 y9 h fun r16 h15 =>
  cellH h15 a11 = some (.string y13) ∧
  F.xcb x7 y13 h15 fun r19 h18 =>
  (((r16 != r19)) = true ->
  Q false h18) ∧
  (((r16 != r19)) = false ->
  C1 x1 x5 x7 (IntKind.wrap .i64 (x9 + 1)) h18)
def F.xac.j4 (Q : Bool -> H -> Prop) (C1 : Sl -> (Option Addr) -> (Option Addr) -> Int -> H -> Prop) (x1 : Sl) (x5 : Option Addr) (x7 : Option Addr) (x9 : Int) (x41 : Bool) (h : H) : Prop :=
  (x41 = true ->
  F.xac.j3 Q C1 x1 x5 x7 x9 h) ∧
  (x41 = false ->
  F.xax  h fun r23 h22 =>
  Q r23 h22)
def F.xac.l2 (Q : Bool -> H -> Prop) : Nat -> Sl -> (Option Addr) -> (Option Addr) -> Int -> H -> Prop
  | 0, _, _, _, _, _ => False
  | q2 + 1, x1, x5, x7, x9, h =>
    ((decide (x9 < (x1.len : Int))) = true ->
    ((decide (x9 < 100)) = true ->
    F.xac.j4 Q (F.xac.l2 Q q2) x1 x5 x7 x9 (!x7.isNone) h) ∧
    ((decide (x9 < 100)) = false ->
    F.xac.j4 Q (F.xac.l2 Q q2) x1 x5 x7 x9 false h)) ∧
    ((decide (x9 < (x1.len : Int))) = false ->
    F.xac.j4 Q (F.xac.l2 Q q2) x1 x5 x7 x9 false h)
def F.xac.j1 (Q : Bool -> H -> Prop) (x1 : Sl) (x5 : Option Addr) (x7 : Option Addr) (h : H) : Prop :=
  ∃ m, F.xac.l2 Q m x1 x5 x7 0 h
def F.xac.j5 (Q : Bool -> H -> Prop) (x1 : Sl) (x5 : Option Addr) (x7 : Option Addr) (x29 : Bool) (h : H) : Prop :=
  (x29 = true ->
  Q false h) ∧
  (x29 = false ->
  F.xac.j1 Q x1 x5 x7 h)
def F.xac (p0 : Int) (p1 : Sl) (h : H) (Q : Bool -> H -> Prop) : Prop :=
  F.xai p0 2 h fun r2 r3 h1 =>
  F.xak p0 2 h1 fun r5 r6 h4 =>
  (((r3 != r6)) = true ->
  F.xac.j5 Q p1 r2 r5 true h4) ∧
  (((r3 != r6)) = false ->
  F.xac.j5 Q p1 r2 r5 (!(r2.isNone == r5.isNone)) h4)
theorem F.xac_ok {p0 : Int} {p1 : Sl} {h : H} {Q : Bool -> H -> Prop} (H : F.xac p0 p1 h Q) : Fn PP 3 ([(.int .i64 p0), p1.enc] : List Value).toArray h fun r h' => ∃ r0, r = (.bool r0) ∧ Q r0 h' := by
 unfold F.xac at H;refine fn_of Tryz.func3 Tryz.ntmps3 rfl rfl fun w0 => (tr_sub [(0, (.int .i64 p0)), (1, p1.enc)] ⟨rfl, rfl, trivial⟩ (tr_seq (tr_region (tq (y_assign rfl) (tr_nil (tr_thenN (tr_seq (tr_region (tq (y_move rfl) (tr_e (e_call Tryz.call8 rfl (F.xai_ok H)) rfl rfl ?_))))))))));rintro _ h1 ⟨r2, r3, rfl, H⟩;refine tq (y_move rfl) (tq (y_ext rfl rfl) (tq (y_ext rfl rfl) (tq (y_assign rfl) (tq (y_assign rfl) (tr_nil (tr_thenN (tr_seq (tr_region (tq (y_move rfl) (tr_e (e_call Tryz.call9 rfl (F.xak_ok H)) rfl rfl ?_))))))))));rintro _ h4 ⟨r5, r6, rfl, H⟩;refine tq (y_move rfl) (tq (y_ext rfl rfl) (tq (y_ext rfl rfl) (tq (y_assign rfl) (tq (y_assign rfl) (tr_nil (tr_thenN ?_))))));refine tr_seq_j (fun L' h => ∃ (x1 : Sl) (x5 : Option Addr) (x7 : Option Addr), L' = [(1, x1.enc), (5, (.pointer x5)), (7, (.pointer x7))] ∧ F.xac.j1 Q x1 x5 x7 h) ?_ ?_
 ·rintro L' h ⟨x1, x5, x7, rfl, H⟩;unfold F.xac.j1 at H;refine tr_seq (tr_seq (tr_region (tq (y_assign rfl) (tr_nil (tr_thenN (tr_block ?_))))));obtain ⟨m26, H⟩ := H;refine tr_sub [(1, x1.enc), (5, (.pointer x5)), (7, (.pointer x7)), (9, (.int .i64 0))] ⟨rfl, rfl, rfl, rfl, trivial⟩ ?_;refine tr_loop_j (fun m L' h => ∃ (x1 : Sl) (x5 : Option Addr) (x7 : Option Addr) (x9 : Int), L' = [(1, x1.enc), (5, (.pointer x5)), (7, (.pointer x7)), (9, (.int .i64 x9))] ∧ F.xac.l2 Q m x1 x5 x7 x9 h) ?_ ?_ m26 ⟨_, _, _, _, rfl, H⟩
  ·rintro L' h ⟨_, _, _, _, _, H⟩; exact H
  ·rintro q2 L' h ⟨x1, x5, x7, x9, rfl, H⟩;unfold F.xac.l2 at H;refine tr_seq_j (fun L' h => ∃ (x1 : Sl) (x5 : Option Addr) (x7 : Option Addr) (x9 : Int), L' = [(1, x1.enc), (5, (.pointer x5)), (7, (.pointer x7)), (9, (.int .i64 x9))] ∧ F.xac.j3 Q (F.xac.l2 Q q2) x1 x5 x7 x9 h) ?_ ?_
   ·rintro L' h ⟨x1, x5, x7, x9, rfl, H⟩;unfold F.xac.j3 at H;refine tr_seq (tr_block (tr_seq (tr_draw mixed [0, 0, 0, 6, 14, 31, 0, 0, 0, 384, 896, 2047, 4095] (by kernel_rfl) (g_p 0 1 rfl (by kernel_rfl) (y_move rfl) rfl rfl (g_p 1 3 rfl (by kernel_rfl) (y_move rfl) rfl rfl (g_p 2 7 rfl (by kernel_rfl) (y_move rfl) rfl rfl ?_))))));obtain ⟨a7, e8, H⟩ := H;refine g_p 3 15 rfl (by kernel_rfl) (f_idx (s := x1) Tryz.runUnderlying22 Tryz.sizeOf9 rfl rfl e8) rfl rfl ?_;obtain ⟨y9, k10, H⟩ := H;refine g_h 4 31 rfl (by kernel_rfl) (y_ld Tryz.isAgg9 rfl) k10 rfl rfl (g_p 6 95 rfl (by kernel_rfl) (y_move rfl) rfl rfl (g_p 7 223 rfl (by kernel_rfl) (y_move rfl) rfl rfl (g_p 8 479 rfl (by kernel_rfl) (y_move rfl) rfl rfl ?_)));obtain ⟨a11, e12, H⟩ := H;refine g_p 9 991 rfl (by kernel_rfl) (f_idx (s := x1) Tryz.runUnderlying22 Tryz.sizeOf9 rfl rfl e12) rfl rfl ?_;obtain ⟨y13, k14, H⟩ := H;refine g_h 10 2015 rfl (by kernel_rfl) (y_ld Tryz.isAgg9 rfl) k14 rfl rfl (g_e 5 2047 [(10, fun h => cellH h a11 = some (.string y13))] (by kernel_rfl) rfl (by kernel_rfl) (e_call Tryz.call10 rfl (F.xbm_ok H)) rfl rfl ?_);rintro _ h15 ⟨r16, rfl, H⟩;obtain ⟨k17, H⟩ := H;refine ⟨And.intro k17 trivial, ?_⟩;refine g_e 11 4095 [] (by kernel_rfl) rfl (by kernel_rfl) (e_call Tryz.call11 rfl (F.xcb_ok H)) rfl rfl ?_;rintro _ h18 ⟨r19, rfl, H⟩;refine ⟨trivial, ?_⟩;refine g_p 12 8191 rfl (by kernel_rfl) (y_neq rfl rfl) rfl rfl (g_d (by kernel_rfl) (tr_thenN ?_));refine tr_cond rfl (fun g20 => ?_) (fun g20 => ?_)
    ·replace H := H.1 g20;refine tr_seq (tr_region (tq (y_assign rfl) (tr_nil (tr_thenN (tr_ret (tr_blockR (tr_thenR (tr_thenR (tr_blockR (tr_thenR ?_))))))))));exact tr_ret1 rfl rfl ⟨_, rfl, H⟩
    ·replace H := H.2 g20;refine tr_skip (tr_blockN (tr_thenN (tr_region (tq (y_move rfl) (tq (y_add rfl rfl) (tq (y_assign rfl) (tr_nil (tr_thenN ?_))))))));exact tr_join [(1, x1.enc), (5, (.pointer x5)), (7, (.pointer x7)), (9, (.int .i64 (IntKind.wrap .i64 (x9 + 1))))] ⟨rfl, rfl, rfl, rfl, trivial⟩ ⟨_, _, _, _, rfl, H⟩
   ·refine tr_seq_j (fun L' h => ∃ (x1 : Sl) (x5 : Option Addr) (x7 : Option Addr) (x9 : Int) (x41 : Bool), L' = [(1, x1.enc), (5, (.pointer x5)), (7, (.pointer x7)), (9, (.int .i64 x9)), (41, (.bool x41))] ∧ F.xac.j4 Q (F.xac.l2 Q q2) x1 x5 x7 x9 x41 h) ?_ ?_
    ·rintro L' h ⟨x1, x5, x7, x9, x41, rfl, H⟩;unfold F.xac.j4 at H;refine tr_cond rfl (fun g21 => ?_) (fun g21 => ?_)
     ·replace H := H.1 g21;refine tr_skip (tr_thenN ?_);exact tr_join [(1, x1.enc), (5, (.pointer x5)), (7, (.pointer x7)), (9, (.int .i64 x9))] ⟨rfl, rfl, rfl, rfl, trivial⟩ ⟨_, _, _, _, rfl, H⟩
     ·replace H := H.2 g21;refine tr_exit (tr_thenE (tr_thenE (tr_hit (tr_thenN (tr_seq (tr_region (tr_e (e_call Tryz.call12 rfl (F.xax_ok H)) rfl rfl ?_)))))));rintro _ h22 ⟨r23, rfl, H⟩;refine tq (y_assign rfl) (tr_nil (tr_thenN (tr_ret ?_)));exact tr_ret1 rfl rfl ⟨_, rfl, H⟩
    ·refine tr_region (tq (y_move rfl) (tq (y_move rfl) (tq (y_len (ts := #[]) Tryz.runUnderlying22 (o := x1.ptr) (n := x1.len) (cap := x1.cap) rfl) (tq (y_lss rfl rfl) (tq (y_move rfl) ?_)))));refine tr_split (t := 34) rfl (fun g24 => ?_) (fun g24 => ?_)
     ·replace H := H.1 g24;refine tq (y_move rfl) (tq (y_lss rfl rfl) (tq (y_pick_t rfl rfl) (tq (y_move rfl) ?_)));refine tr_split (t := 38) rfl (fun g25 => ?_) (fun g25 => ?_)
      ·replace H := H.1 g25;refine tq (y_move rfl) (tq (y_pnil_neq Tryz.runUnderlying27 rfl rfl) (tq (y_pick_t rfl rfl) (tr_nil (tr_thenN ?_))));exact tr_join [(1, x1.enc), (5, (.pointer x5)), (7, (.pointer x7)), (9, (.int .i64 x9)), (41, (.bool (!x7.isNone)))] ⟨rfl, rfl, rfl, rfl, rfl, trivial⟩ ⟨_, _, _, _, _, rfl, H⟩
      ·replace H := H.2 g25;refine ts (ts (tq (y_pick_f rfl rfl) (tr_nil (tr_thenN ?_))));exact tr_join [(1, x1.enc), (5, (.pointer x5)), (7, (.pointer x7)), (9, (.int .i64 x9)), (41, (.bool false))] ⟨rfl, rfl, rfl, rfl, rfl, trivial⟩ ⟨_, _, _, _, _, rfl, H⟩
     ·replace H := H.2 g24;refine ts (ts (tq (y_pick_f rfl rfl) (tq (y_move rfl) (ts (ts (tq (y_pick_f rfl rfl) (tr_nil (tr_thenN ?_))))))));exact tr_join [(1, x1.enc), (5, (.pointer x5)), (7, (.pointer x7)), (9, (.int .i64 x9)), (41, (.bool false))] ⟨rfl, rfl, rfl, rfl, rfl, trivial⟩ ⟨_, _, _, _, _, rfl, H⟩
 ·refine tr_seq_j (fun L' h => ∃ (x1 : Sl) (x5 : Option Addr) (x7 : Option Addr) (x29 : Bool), L' = [(1, x1.enc), (5, (.pointer x5)), (7, (.pointer x7)), (29, (.bool x29))] ∧ F.xac.j5 Q x1 x5 x7 x29 h) ?_ ?_
  ·rintro L' h ⟨x1, x5, x7, x29, rfl, H⟩;unfold F.xac.j5 at H;refine tr_cond rfl (fun g27 => ?_) (fun g27 => ?_)
   ·replace H := H.1 g27;refine tr_seq (tr_region (tq (y_assign rfl) (tr_nil (tr_thenN (tr_ret (tr_thenR ?_))))));exact tr_ret1 rfl rfl ⟨_, rfl, H⟩
   ·replace H := H.2 g27;refine tr_skip (tr_thenN ?_);exact tr_join [(1, x1.enc), (5, (.pointer x5)), (7, (.pointer x7))] ⟨rfl, rfl, rfl, trivial⟩ ⟨_, _, _, rfl, H⟩
  ·refine tr_region (tq (y_move rfl) (tq (y_move rfl) (tq (y_neq rfl rfl) (tq (y_move rfl) ?_))));refine tr_split (t := 23) rfl (fun g28 => ?_) (fun g28 => ?_)
   ·replace H := H.1 g28;refine ts (ts (ts (ts (ts (tq (y_pick_t rfl rfl) (tr_nil (tr_thenN ?_)))))));exact tr_join [(1, p1.enc), (5, (.pointer r2)), (7, (.pointer r5)), (29, (.bool true))] ⟨rfl, rfl, rfl, rfl, trivial⟩ ⟨_, _, _, _, rfl, H⟩
   ·replace H := H.2 g28;refine tq (y_move rfl) (tq (y_pnil_eql Tryz.runUnderlying23 rfl rfl) (tq (y_move rfl) (tq (y_pnil_eql Tryz.runUnderlying27 rfl rfl) (tq (y_bneq Tryz.underlying4 rfl rfl) (tq (y_pick_f rfl rfl) (tr_nil (tr_thenN ?_)))))));exact tr_join [(1, p1.enc), (5, (.pointer r2)), (7, (.pointer r5)), (29, (.bool (!(r2.isNone == r5.isNone))))] ⟨rfl, rfl, rfl, rfl, trivial⟩ ⟨_, _, _, _, rfl, H⟩
set_option linter.unusedSimpArgs false
abbrev Cel := S_api_Cell
theorem cU_one (b : UInt8) : ∀ v ∈ cU b, v.oneCell' = true := one1 rfl
theorem Blk.cells3 {h : H} {n : Nat} {c : Cel} {e : TypeId} (k : Blk h n c.cells.toArray e) : Cells h ⟨n, 0, none⟩ c.cells := fun j v hv => by rw [add_lit, Nat.zero_add]; exact k.cell (by simpa using hv)
def mayC (c : Cel) : Int := if c.View < 0 ∨ c.View > 4 then 23 else if (c.Key.size : Int) > 32 then 21 else if c.Start < -2305843009213693952 ∨ c.Start > 2305843009213693952 then 22 else 0
theorem mayC_spec {h : H} {c : Cel} {Q : Int -> H -> Prop} (k : ∀ h', Ext h h' -> Q (mayC c) h') : F.xaq c h Q := by
  unfold F.xaq
  refine new_of fun n h1 e1 e2 e3 e4 => ?_
  have k := k h1 e3
  unfold mayC at k
  simp only [F.xaq.j1, F.xaq.j2, add_lit, Nat.zero_add, ldI_iff (e2.cell (i := 0) (v := .int .i64 c.View) rfl), ldS_iff (e2.cell (i := 1) (v := .string c.Key) rfl), ldI_iff (e2.cell (i := 2) (v := .int .i64 c.Start) rfl), decide_eq_true_eq, decide_eq_false_iff_not]
  have hb : ¬ (c.View < 0 ∨ c.View > 4) -> ((c.Key.size : Int) > 32 -> Q 21 h1) ∧ (¬ (c.Key.size : Int) > 32 -> (c.Start < -2305843009213693952 -> (True -> Q 22 h1) ∧ (true = false -> Q 0 h1)) ∧ (¬ c.Start < -2305843009213693952 -> (c.Start > 2305843009213693952 -> Q 22 h1) ∧ (¬ c.Start > 2305843009213693952 -> Q 0 h1))) := fun g => by
    rw [if_neg g] at k
    refine ⟨fun g1 => by rw [if_pos g1] at k; exact k, fun g1 => ?_⟩
    rw [if_neg g1] at k
    refine ⟨fun g2 => ⟨fun _ => by rw [if_pos (.inl g2)] at k; exact k, fun h => by cases h⟩, fun g2 => ⟨fun g3 => by rw [if_pos (.inr g3)] at k; exact k, fun g3 => by rw [if_neg (by omega)] at k; exact k⟩⟩
  refine ⟨fun g => ⟨fun _ => by rw [if_pos (.inl g)] at k; exact k, fun h => by cases h⟩, fun g => ⟨fun g2 => by rw [if_pos (.inr g2)] at k; exact k, fun g2 => hb (by omega)⟩⟩
def escL : List UInt8 -> List UInt8
  | [] => []
  | b :: r => if b = 0 then 0 :: 255 :: escL r else b :: escL r
theorem escL_snoc (b : UInt8) : ∀ l, escL (l ++ [b]) = escL l ++ (if b = 0 then [0, 255] else [b])
  | [] => by by_cases h : b = 0 <;> simp [escL, h]
  | x :: r => by simp only [List.cons_append, escL, escL_snoc b r]; split <;> simp
theorem escL_len : ∀ l : List UInt8, (escL l).length <= 2 * l.length
  | [] => by simp [escL]
  | b :: r => by have := escL_len r; simp only [escL]; split <;> simp <;> omega
def beT (u : Nat) : Nat -> List UInt8
  | 0 => []
  | j + 1 => UInt8.ofNat (u / 2 ^ (8 * j)) :: beT u j
theorem beT_len (u : Nat) : ∀ j, (beT u j).length = j
  | 0 => rfl
  | j + 1 => by simp [beT, beT_len u j]
def upU (n : Int) : Nat := (IntKind.wrap .u64 (IntKind.wrap .u64 n + 9223372036854775808)).toNat
def keyL (c : Cel) : List UInt8 := UInt8.ofNat c.View.toNat :: (escL c.Key.data.toList ++ [0, 1] ++ beT (upU c.Start) 8)
theorem wrap_u64 (n : Int) : IntKind.wrap .u64 n = n % 18446744073709551616 := by
  unfold IntKind.wrap; simp [IntKind.bits, IntKind.signed]
theorem wrap_u8 (n : Int) : IntKind.wrap .u8 n = n % 256 := by
  unfold IntKind.wrap; simp [IntKind.bits, IntKind.signed]
theorem upU_eq (n : Int) : ((upU n : Nat) : Int) = IntKind.wrap .u64 (IntKind.wrap .u64 n + 9223372036854775808) := by
  unfold upU
  rw [Int.toNat_of_nonneg]
  rw [wrap_u64]; omega
theorem fdiv_pow (u i : Nat) : Int.fdiv (u : Int) (2 ^ i : Int) = ((u / 2 ^ i : Nat) : Int) := by
  have e : (2 ^ i : Int) = ((2 ^ i : Nat) : Int) := by simp
  rw [e, Int.ofNat_fdiv]
theorem u8_of (n : Nat) : ((UInt8.ofNat n).toNat : Int) = IntKind.wrap .u8 (n : Int) := by
  rw [wrap_u8]; simp
theorem key_tail {h0 : H} {u : Nat} {Q : ByteArray -> Int -> H -> Prop} {L0 : List UInt8} (hL0 : L0.length <= 1000) (k : ∀ h', Ext h0 h' -> Q ⟨(L0 ++ beT u 8).toArray⟩ 0 h') :
    ∀ (j m : Nat) (h : H) (s : Sl) (L : List UInt8), j <= 8 -> j < m -> Ext h0 h -> Owns h s 5 1 (L.flatMap cU) -> Mine h0 s -> L ++ beT u j = L0 ++ beT u 8 -> F.xap.l2 Q m s (u : Int) (8 * (j : Int) - 8) h
  | j, 0, h, s, L, _, hm, _, _, _, _ => by omega
  | j, m + 1, h, s, L, hj, hm, e0, ow, mi, hL => by
    unfold F.xap.l2
    simp only [decide_eq_true_eq, decide_eq_false_iff_not]
    have hlen : L.length + j = L0.length + 8 := by have := congrArg List.length hL; simpa [beT_len] using this
    refine ⟨fun g => ⟨g, ?_⟩, fun g => ?_⟩
    · obtain ⟨i, rfl⟩ : ∃ i, j = i + 1 := ⟨j - 1, by omega⟩
      have hb : IntKind.wrap .u8 (Int.fdiv (u : Int) (2 ^ (min (8 * ((i + 1 : Nat) : Int) - 8).toNat (IntKind.bits .u64)) : Int)) = ((UInt8.ofNat (u / 2 ^ (8 * i))).toNat : Int) := by
        rw [u8_of, show (8 * ((i + 1 : Nat) : Int) - 8).toNat = 8 * i from by omega, show min (8 * i) (IntKind.bits .u64) = 8 * i from by simp [IntKind.bits]; omega]
        rw [fdiv_pow]
      rw [hb]
      refine push_mine (f := cU) (UInt8.ofNat (u / 2 ^ (8 * i))) e0 mi cU_len (by omega) el_Sluint8 ow cU_one (by omega) fun r h1 q1 q2 q3 q4 q5 => ?_
      rw [w64 (by omega) (by omega), show 8 * ((i + 1 : Nat) : Int) - 8 - 8 = 8 * (i : Int) - 8 from by omega]
      refine key_tail hL0 k i m h1 r _ (by omega) (by omega) q2 q1 q3 ?_
      rw [← hL]; simp [beT]
    · have : j = 0 := by omega
      subst this
      refine cvtT_of (l := L) el_Sluint8.slice Tryz.underlying5 Tryz.underlying9 ow.reads ?_
      have : L = L0 ++ beT u 8 := by simpa [beT] using hL
      rw [this]; exact k h e0
theorem key_loop {h0 : H} {c : Cel} {n : Nat} {Q : ByteArray -> Int -> H -> Prop} {pre : UInt8} (hk : c.Key.size <= 32) (k : ∀ h', Ext h0 h' -> Q ⟨(pre :: (escL c.Key.data.toList ++ [0, 1] ++ beT (upU c.Start) 8)).toArray⟩ 0 h') (hn : h0.size <= n) :
    ∀ (m i : Nat) (h : H) (s : Sl), i <= c.Key.size -> c.Key.size - i < m -> Ext h0 h -> Blk h n c.cells.toArray tn_api_Cell -> n < h.size -> Owns h s 5 1 ((pre :: escL (c.Key.data.toList.take i)).flatMap cU) -> Mine h0 s -> s.blk ≠ some n ->
    F.xap.l1 Q m ⟨n, 0, none⟩ s (c.Key.size : Int) (i : Int) h
  | 0, i, h, s, _, hm, _, _, _, _, _, _ => by omega
  | m + 1, i, h, s, hi, hm, e0, bl, hnl, ow, mi, hne => by
    unfold F.xap.l1
    simp only [decide_eq_true_eq, decide_eq_false_iff_not, add_lit, Nat.zero_add]
    have hel := escL_len (c.Key.data.toList.take i)
    rw [List.length_take, ← size_data] at hel
    refine ⟨fun g => ?_, fun g => ?_⟩
    · rw [ldS_iff (bl.cell (i := 1) (v := .string c.Key) rfl)]
      obtain ⟨b, hb⟩ : ∃ b, c.Key.data.toList[i]? = some b := ⟨_, List.getElem?_eq_getElem (by rw [← size_data]; omega)⟩
      refine idxS_of hb rfl ?_
      have htk : escL (c.Key.data.toList.take (i + 1)) = escL (c.Key.data.toList.take i) ++ (if b = 0 then [0, 255] else [b]) := by rw [List.take_add_one, hb]; exact escL_snoc b _
      refine push_mine (f := cU) b e0 mi cU_len (by omega) el_Sluint8 ow cU_one (by simp; omega) fun r h1 q1 q2 q3 q4 q5 => ?_
      have bl1 : Blk h1 n c.cells.toArray tn_api_Cell := q4.block bl hne
      have hg1 := q4.size
      have hne1 : r.blk ≠ some n := by
        rcases q5 with q5 | ⟨x, q5, q6⟩
        · rw [q5]; exact hne
        · rw [q5]; intro e; cases e; omega
      rw [ldS_iff (bl1.cell (i := 1) (v := .string c.Key) rfl)]
      refine idxS_of hb rfl ?_
      have hw : IntKind.wrap .i64 ((i : Int) + 1) = ((i + 1 : Nat) : Int) := by rw [w64 (by omega) (by omega)]; omega
      rw [hw, beq_iff_eq, beq_eq_false_iff_ne]
      have hb0 : (b.toNat : Int) = 0 ↔ b = 0 := by
        constructor
        · intro h; exact UInt8.toNat_inj.1 (by simpa using (by omega : b.toNat = 0))
        · intro h; subst h; rfl
      rw [hb0, Ne, hb0]
      refine ⟨fun g2 => ?_, fun g2 => ?_⟩
      · refine push_mine (f := cU) 255 q2 q3 cU_len (by omega) el_Sluint8 q1 cU_one (by simp; omega) fun r2 h2 p1 p2 p3 p4 p5 => ?_
        have hne2 : r2.blk ≠ some n := by
          rcases p5 with p5 | ⟨x, p5, p6⟩
          · rw [p5]; exact hne1
          · rw [p5]; intro e; cases e; omega
        refine key_loop hk k hn m (i + 1) h2 r2 (by omega) (by omega) p2 (p4.block bl1 hne1) (by have := p4.size; omega) ?_ p3 hne2
        rw [htk, if_pos g2]; subst g2; simpa using p1
      · refine key_loop hk k hn m (i + 1) h1 r (by omega) (by omega) q2 bl1 (by omega) ?_ q3 hne1
        rw [htk, if_neg g2]; simpa using q1
    · have hii : i = c.Key.size := by omega
      subst hii
      refine newL_of fun x h1 e1 e2 e3 e4 => ?_
      refine app_mine (f := cU) (M := [0, 1]) (e0.trans e3) mi cU_len (by omega) el_Sluint8 (ow.ext e3) (blk_reads (show Blk h1 x (([0, 1] : List UInt8).flatMap cU).toArray 5 from e2) rfl) cU_one (by simp; omega) fun r h2 q1 q2 q3 q4 q5 => ?_
      have bl1 : Blk h2 n c.cells.toArray tn_api_Cell := q4.block (e3.block bl (fun f => f)) hne
      rw [ldI_iff (bl1.cell (i := 2) (v := .int .i64 c.Start) rfl), ← upU_eq]
      refine ⟨9, ?_⟩
      have ht : c.Key.data.toList.take c.Key.size = c.Key.data.toList := List.take_of_length_le (by rw [← size_data]; omega)
      rw [ht] at q1
      have hl2 := escL_len c.Key.data.toList
      rw [← size_data] at hl2
      refine key_tail (L0 := pre :: (escL c.Key.data.toList ++ [0, 1])) (by simp; omega) (by simpa using k) 8 9 h2 r _ (by omega) (by omega) q2 q1 q3 (by simp)
theorem Key_spec {h : H} {c : Cel} {Q : ByteArray -> Int -> H -> Prop} (k0 : mayC c ≠ 0 -> ∀ h', Ext h h' -> Q ⟨#[]⟩ (mayC c) h') (k1 : mayC c = 0 -> ∀ h', Ext h h' -> Q ⟨(keyL c).toArray⟩ 0 h') : F.xap c h Q := by
  unfold F.xap
  refine new_of fun n h1 e1 e2 e3 e4 => ?_
  refine ⟨c, e2.cells3, mayC_spec fun h2 f1 => ?_⟩
  have e5 := e3.trans f1
  have bl : Blk h2 n c.cells.toArray tn_api_Cell := f1.block e2 (fun f => f)
  refine ⟨fun g => k0 (by simpa using g) h2 e5, fun g => ?_⟩
  have hm : mayC c = 0 := by simpa using g
  simp only [add_lit, Nat.zero_add]
  rw [ldI_iff (bl.cell (i := 0) (v := .int .i64 c.View) rfl)]
  have hv : 0 <= c.View ∧ c.View <= 4 ∧ c.Key.size <= 32 := by
    unfold mayC at hm
    split at hm
    · omega
    · split at hm
      · omega
      · omega
  have hw : IntKind.wrap .u8 c.View = ((UInt8.ofNat c.View.toNat).toNat : Int) := by rw [u8_of, Int.toNat_of_nonneg hv.1]
  rw [hw]
  refine newL_of fun x h3 g1 g2 g3 g4 => ?_
  have bl3 : Blk h3 n c.cells.toArray tn_api_Cell := g3.block bl (fun f => f)
  rw [ldS_iff (bl3.cell (i := 1) (v := .string c.Key) rfl)]
  have hs := e5.size
  have hs3 := e3.size
  have hf1 := f1.size
  refine ⟨c.Key.size + 1, ?_⟩
  refine key_loop (h0 := h) (pre := UInt8.ofNat c.View.toNat) hv.2.2 (fun h' e => k1 hm h' e) (by omega) _ 0 h3 _ (by omega) (by omega) (e5.trans g3) bl3 (by omega) (show Owns h3 ⟨some ⟨x, 0, none⟩, 1, 1⟩ 5 1 [.int .u8 ((UInt8.ofNat c.View.toNat).toNat : Int)] from blk_owns (m := 1) g2 rfl (by simp [maxLen])) (fun b hb => by simp [Sl.blk] at hb; omega) (by simp [Sl.blk]; omega)
def unesc : List UInt8 -> Except Int (List UInt8 × List UInt8)
  | [] => .error 11
  | b :: r => if b ≠ 0 then (match unesc r with | .ok p => .ok (b :: p.1, p.2) | .error e => .error e) else
    match r with
    | [] => .error 11
    | x :: r' => if x = 1 then .ok ([], r') else if x ≠ 255 then .error 12 else (match unesc r' with | .ok p => .ok (0 :: p.1, p.2) | .error e => .error e)
def beV : Nat -> List UInt8 -> Nat
  | u, [] => u
  | u, b :: r => beV (u * 256 + b.toNat) r
def zeroC : Cel := ⟨0, ⟨#[]⟩, 0⟩
def startOf (u : Nat) : Int := IntKind.wrap .i64 (IntKind.wrap .u64 ((u : Int) - 9223372036854775808))
def finC (v : UInt8) (key t : List UInt8) : Cel × Int :=
  if t.length < 8 then (zeroC, 11) else if t.length > 8 then (zeroC, 13) else
  if mayC ⟨(v.toNat : Int), ⟨key.toArray⟩, startOf (beV 0 t)⟩ ≠ 0 then (zeroC, mayC ⟨(v.toNat : Int), ⟨key.toArray⟩, startOf (beV 0 t)⟩) else (⟨(v.toNat : Int), ⟨key.toArray⟩, startOf (beV 0 t)⟩, 0)
def cellM : List UInt8 -> Cel × Int
  | [] => (zeroC, 11)
  | v :: r => match unesc r with
    | .error e => (zeroC, e)
    | .ok p => finC v p.1 p.2
theorem unesc_ne {b : UInt8} {r : List UInt8} (h : b ≠ 0) : unesc (b :: r) = (match unesc r with | .ok p => .ok (b :: p.1, p.2) | .error e => .error e) := by
  rw [unesc.eq_def]; simp only [if_pos h]
theorem cellM_cons (v : UInt8) (r : List UInt8) : cellM (v :: r) = (match unesc r with | .error e => (zeroC, e) | .ok p => finC v p.1 p.2) := rfl
theorem or_byte {u : Nat} {b : UInt8} (hu : u < 72057594037927936) : bitsOf .or .u64 (IntKind.wrap .u64 ((u : Int) * (2 ^ (min (8 : Int).toNat (IntKind.bits .u64)) : Int))) (IntKind.wrap .u64 (b.toNat : Int)) = ((u * 256 + b.toNat : Nat) : Int) := by
  have hb : b.toNat < 256 := b.toNat_lt
  have e1 : IntKind.wrap .u64 ((u : Int) * (2 ^ (min (8 : Int).toNat (IntKind.bits .u64)) : Int)) = ((u * 256 : Nat) : Int) := by
    rw [show (2 ^ (min (8 : Int).toNat (IntKind.bits .u64)) : Int) = 256 from by simp [IntKind.bits], wrap_u64]; omega
  have e2 : IntKind.wrap .u64 (b.toNat : Int) = ((b.toNat : Nat) : Int) := by rw [wrap_u64]; omega
  rw [e1, e2]
  simp only [bitsOf]
  rw [BitVec.ofInt_natCast, BitVec.ofInt_natCast, BitVec.toNat_or, BitVec.toNat_ofNat, BitVec.toNat_ofNat, wrap_u64]
  have e3 : u * 256 % 2 ^ (IntKind.bits .u64) = u * 256 := Nat.mod_eq_of_lt (by simp [IntKind.bits]; omega)
  have e4 : b.toNat % 2 ^ (IntKind.bits .u64) = b.toNat := Nat.mod_eq_of_lt (by simp [IntKind.bits]; omega)
  rw [e3, e4]
  have e5 : u * 256 ||| b.toNat = u * 256 + b.toNat := by
    have := Nat.two_pow_add_eq_or_of_lt (i := 8) hb u
    rw [show (2 : Nat) ^ 8 * u = u * 256 from by omega] at this
    exact this.symm
  rw [e5]; omega
theorem st_cell {h : H} {n : Nat} {c d : Cel} {K : H -> Prop} (b : Blk h n c.cells.toArray tn_api_Cell) (k : ∀ h', Blk h' n d.cells.toArray tn_api_Cell -> Only (· = n) h h' -> h'.size = h.size -> K h') : stH h ⟨n, 0, none⟩ d.cells K :=
  stH_of b (by simp [S_api_Cell.cells]) fun h' q1 q2 q3 => k h' (by rw [writeA_all (by simp [S_api_Cell.cells])] at q1; exact q1) q2 q3
theorem st_key {h : H} {n : Nat} {c : Cel} {s : ByteArray} {K : H -> Prop} (b : Blk h n c.cells.toArray tn_api_Cell) (k : ∀ h', Blk h' n (⟨c.View, s, c.Start⟩ : Cel).cells.toArray tn_api_Cell -> Only (· = n) h h' -> h'.size = h.size -> K h') : stH h ⟨n, 1, none⟩ [.string s] K :=
  stH_of b (by simp [S_api_Cell.cells]) fun h' q1 q2 q3 => k h' (by
    have : writeA (S_api_Cell.cells c).toArray 1 [.string s] = (⟨c.View, s, c.Start⟩ : Cel).cells.toArray := by simp [writeA, S_api_Cell.cells]
    rw [this] at q1; exact q1) q2 q3
theorem st_start {h : H} {n : Nat} {c : Cel} {u : Int} {K : H -> Prop} (b : Blk h n c.cells.toArray tn_api_Cell) (k : ∀ h', Blk h' n (⟨c.View, c.Key, u⟩ : Cel).cells.toArray tn_api_Cell -> Only (· = n) h h' -> h'.size = h.size -> K h') : stH h ⟨n, 2, none⟩ [.int .i64 u] K :=
  stH_of b (by simp [S_api_Cell.cells]) fun h' q1 q2 q3 => k h' (by
    have : writeA (S_api_Cell.cells c).toArray 2 [.int .i64 u] = (⟨c.View, c.Key, u⟩ : Cel).cells.toArray := by simp [writeA, S_api_Cell.cells]
    rw [this] at q1; exact q1) q2 q3
theorem told_err {h0 h : H} {n : Nat} {c : Cel} {e : Int} {Q : Cel -> Int -> H -> Prop} (k : ∀ h', Ext h0 h' -> Q zeroC e h') (e0 : Ext h0 h) (hn : h0.size <= n) (b : Blk h n c.cells.toArray tn_api_Cell) :
    stH h ⟨n, 0, none⟩ ((⟨0, (⟨#[]⟩ : ByteArray), 0⟩ : S_api_Cell).cells) fun h13 => ld_S_api_Cell h13 ⟨n, 0, none⟩ fun y14 => Q y14 e h13 :=
  st_cell b fun h' q1 q2 q3 => ⟨zeroC, q1.cells3, k h' (e0.step q2 fun m hm e => by omega)⟩
theorem cell_tail {h0 : H} {str : ByteArray} {n2 n4 : Nat} {Q : Cel -> Int -> H -> Prop} {v : UInt8} {key : List UInt8} (hs : str.size < 1000000000000000000) (hn2 : h0.size <= n2) (hn4 : h0.size <= n4) (hne : n2 ≠ n4) {U : Nat}
    (k : ∀ h', Ext h0 h' -> Q (if mayC ⟨(v.toNat : Int), ⟨key.toArray⟩, startOf U⟩ ≠ 0 then (zeroC, mayC ⟨(v.toNat : Int), ⟨key.toArray⟩, startOf U⟩) else (⟨(v.toNat : Int), ⟨key.toArray⟩, startOf U⟩, 0)).1 (if mayC ⟨(v.toNat : Int), ⟨key.toArray⟩, startOf U⟩ ≠ 0 then (zeroC, mayC ⟨(v.toNat : Int), ⟨key.toArray⟩, startOf U⟩) else ((⟨(v.toNat : Int), ⟨key.toArray⟩, startOf U⟩ : Cel), 0)).2 h') :
    ∀ (m i u : Nat) (h : H) (s : Sl) (c2 : Cel), Ext h0 h -> i <= str.size -> str.size <= i + 8 -> u < 256 ^ (i + 8 - str.size) -> beV u (str.data.toList.drop i) = U -> str.size - i < m -> Blk h n2 c2.cells.toArray tn_api_Cell -> Blk h n4 (⟨(v.toNat : Int), ⟨#[]⟩, 0⟩ : Cel).cells.toArray tn_api_Cell -> Reads h s 1 (key.flatMap cU) ->
    F.xao.l2 Q m str ⟨n2, 0, none⟩ ⟨n4, 0, none⟩ (i : Int) s (u : Int) h
  | 0, i, u, h, s, c2, _, _, _, _, _, hm, _, _, _ => by omega
  | m + 1, i, u, h, s, c2, e0, hi, hi8, hu, hU, hm, b2, b4, rd => by
    unfold F.xao.l2
    simp only [decide_eq_true_eq, decide_eq_false_iff_not]
    refine ⟨fun g => ⟨by omega, ?_⟩, fun g => ?_⟩
    · obtain ⟨b, hb⟩ : ∃ b, str.data.toList[i]? = some b := ⟨_, List.getElem?_eq_getElem (by rw [← size_data]; omega)⟩
      refine idxS_of hb rfl ?_
      have hd : str.data.toList.drop i = b :: str.data.toList.drop (i + 1) := by
        obtain ⟨hh, rfl⟩ := List.getElem?_eq_some_iff.1 hb
        exact List.drop_eq_getElem_cons hh
      rw [hd, beV] at hU
      have hp : 256 ^ (i + 8 - str.size) <= 256 ^ 7 := Nat.pow_le_pow_right (by omega) (by omega)
      rw [or_byte (by have : (256 : Nat) ^ 7 = 72057594037927936 := by decide
                      omega), show IntKind.wrap .i64 ((i : Int) + 1) = ((i + 1 : Nat) : Int) from by rw [w64 (by omega) (by omega)]; omega]
      have hbl := b.toNat_lt
      refine cell_tail hs hn2 hn4 hne k m (i + 1) _ h s c2 e0 (by omega) (by omega) ?_ hU (by omega) b2 b4 rd
      rw [show i + 1 + 8 - str.size = (i + 8 - str.size) + 1 from by omega, Nat.pow_succ]
      have : (u + 1) * 256 <= 256 ^ (i + 8 - str.size) * 256 := Nat.mul_le_mul_right _ hu
      omega
    · have hii : i = str.size := by omega
      subst hii
      have hd : str.data.toList.drop str.size = [] := List.drop_eq_nil_of_le (by rw [← size_data]; omega)
      rw [hd, beV] at hU
      subst hU
      refine cvtT_of (l := key) el_Sluint8.slice Tryz.underlying5 Tryz.underlying9 rd ?_
      simp only [add_lit, Nat.zero_add]
      refine st_key b4 fun h1 p1 p2 p3 => st_start p1 fun h2 p4 p5 p6 => ?_
      have e2 : Ext h0 h2 := (e0.step p2 fun m hm e => by omega).step p5 fun m hm e => by omega
      have b22 : Blk h2 n2 c2.cells.toArray tn_api_Cell := p5.block (p2.block b2 hne) hne
      refine ⟨_, p4.cells3, mayC_spec fun h3 f1 => ?_⟩
      have b23 : Blk h3 n2 c2.cells.toArray tn_api_Cell := f1.block b22 (fun f => f)
      have e3 := e2.trans f1
      refine ⟨fun g2 => ?_, fun g2 => ?_⟩
      · have g2 : mayC ⟨(v.toNat : Int), ⟨key.toArray⟩, startOf u⟩ ≠ 0 := by simpa [startOf] using g2
        simp only [if_pos g2] at k
        exact told_err k e3 hn2 b23
      · have g2 : ¬ mayC ⟨(v.toNat : Int), ⟨key.toArray⟩, startOf u⟩ ≠ 0 := by simpa [startOf] using g2
        simp only [if_neg g2] at k
        refine ⟨_, Blk.cells3 (c := ⟨(v.toNat : Int), ⟨key.toArray⟩, startOf u⟩) (f1.block p4 (fun f => f)), ?_⟩
        exact st_cell b23 fun h4 q1 q2 q3 => ⟨_, q1.cells3, k h4 (e3.step q2 fun m hm e => by omega)⟩
theorem cell_loop {h0 : H} {str : ByteArray} {n2 n4 : Nat} {Q : Cel -> Int -> H -> Prop} {v : UInt8} (hs : str.size < 140737488355328) (hn2 : h0.size <= n2) (hn4 : h0.size <= n4) (hne : n2 ≠ n4) :
    ∀ (m i : Nat) (h : H) (s : Sl) (acc : List UInt8), (∀ h', Ext h0 h' -> Q (match unesc (str.data.toList.drop i) with | .error e => (zeroC, e) | .ok p => finC v (acc ++ p.1) p.2).1 (match unesc (str.data.toList.drop i) with | .error e => (zeroC, e) | .ok p => finC v (acc ++ p.1) p.2).2 h') ->
    Ext h0 h -> i <= str.size -> acc.length <= i -> str.size - i < m -> Blk h n2 zeroC.cells.toArray tn_api_Cell -> Blk h n4 (⟨(v.toNat : Int), ⟨#[]⟩, 0⟩ : Cel).cells.toArray tn_api_Cell -> Owns h s 5 1 (acc.flatMap cU) -> Mine h0 s -> s.blk ≠ some n2 -> s.blk ≠ some n4 -> n2 < h.size -> n4 < h.size ->
    F.xao.l1 Q m str ⟨n2, 0, none⟩ ⟨n4, 0, none⟩ (i : Int) s h
  | 0, i, h, s, acc, _, _, _, _, hm, _, _, _, _, _, _, _, _ => by omega
  | m + 1, i, h, s, acc, k, e0, hi, hacc, hm, b2, b4, ow, mi, hne2, hne4, hl2, hl4 => by
    unfold F.xao.l1
    rw [beq_iff_eq, beq_eq_false_iff_ne]
    refine ⟨fun g => ?_, fun g => ?_⟩
    · have hd : str.data.toList.drop i = [] := List.drop_eq_nil_of_le (by rw [← size_data]; omega)
      rw [hd] at k
      exact told_err k e0 hn2 b2
    · obtain ⟨b, hb⟩ : ∃ b, str.data.toList[i]? = some b := ⟨_, List.getElem?_eq_getElem (by rw [← size_data]; omega)⟩
      have hd : str.data.toList.drop i = b :: str.data.toList.drop (i + 1) := by
        obtain ⟨hh, rfl⟩ := List.getElem?_eq_some_iff.1 hb
        exact List.drop_eq_getElem_cons hh
      have hb0 : (b.toNat : Int) = 0 ↔ b = 0 := by
        constructor
        · intro h; exact UInt8.toNat_inj.1 (by simpa using (by omega : b.toNat = 0))
        · intro h; subst h; rfl
      rw [hd] at k
      refine idxS_of hb rfl ?_
      rw [bne_iff_ne, bne_eq_false_iff_eq, Ne, hb0]
      refine ⟨fun g1 => idxS_of hb rfl ?_, fun g1 => ?_⟩
      · refine push_mine (f := cU) b e0 mi cU_len (by omega) el_Sluint8 ow cU_one (by omega) fun r h1 q1 q2 q3 q4 q5 => ?_
        have hrr : ∀ x, x < h.size -> s.blk ≠ some x -> r.blk ≠ some x := fun x hx hsx => by
          rcases q5 with q5 | ⟨y, q5, q6⟩
          · rw [q5]; exact hsx
          · rw [q5]; intro e; cases e; omega
        rw [show IntKind.wrap .i64 ((i : Int) + 1) = ((i + 1 : Nat) : Int) from by rw [w64 (by omega) (by omega)]; omega]
        refine cell_loop hs hn2 hn4 hne m (i + 1) h1 r (acc ++ [b]) (fun h' e => ?_) q2 (by omega) (by simp; omega) (by omega) (q4.block b2 hne2) (q4.block b4 hne4) q1 q3 (hrr n2 hl2 hne2) (hrr n4 hl4 hne4) (by have := q4.size; omega) (by have := q4.size; omega)
        have k := k h' e
        rw [unesc_ne g1] at k
        cases hu : unesc (str.data.toList.drop (i + 1)) with
        | error x => rw [hu] at k; exact k
        | ok p => rw [hu] at k; simpa using k
      · have g1 : b = 0 := Classical.not_not.1 (by simpa using g1)
        subst g1
        rw [w64 (n := (i : Int) + 1) (by omega) (by omega), w64 (n := (i : Int) + 2) (by omega) (by omega), beq_iff_eq, beq_eq_false_iff_ne]
        refine ⟨fun g2 => ?_, fun g2 => ?_⟩
        · have hd1 : str.data.toList.drop (i + 1) = [] := List.drop_eq_nil_of_le (by rw [← size_data]; omega)
          rw [hd1] at k
          exact told_err k e0 hn2 b2
        · obtain ⟨x, hx⟩ : ∃ b, str.data.toList[i + 1]? = some b := ⟨_, List.getElem?_eq_getElem (by rw [← size_data]; omega)⟩
          have hd1 : str.data.toList.drop (i + 1) = x :: str.data.toList.drop (i + 2) := by
            obtain ⟨hh, rfl⟩ := List.getElem?_eq_some_iff.1 hx
            exact List.drop_eq_getElem_cons hh
          have hx1 : (x.toNat : Int) = 1 ↔ x = 1 := by
            constructor
            · intro h; exact UInt8.toNat_inj.1 (by simpa using (by omega : x.toNat = 1))
            · intro h; subst h; rfl
          have hx2 : (x.toNat : Int) = 255 ↔ x = 255 := by
            constructor
            · intro h; exact UInt8.toNat_inj.1 (by simpa using (by omega : x.toNat = 255))
            · intro h; subst h; rfl
          rw [hd1] at k
          have hun : unesc (0 :: x :: str.data.toList.drop (i + 2)) = if x = 1 then .ok ([], str.data.toList.drop (i + 2)) else if x ≠ 255 then .error 12 else (match unesc (str.data.toList.drop (i + 2)) with | .ok p => .ok (0 :: p.1, p.2) | .error e => .error e) := by
            rw [unesc]; simp
          rw [hun] at k
          have hlen : (str.data.toList.drop (i + 2)).length = str.size - (i + 2) := by rw [List.length_drop, ← size_data]
          refine idxS_of hx (by rw [w64 (by omega) (by omega)]; omega) ?_
          rw [beq_iff_eq, beq_eq_false_iff_ne, Ne, hx1]
          refine ⟨fun g3 => ?_, fun g3 => ?_⟩
          · rw [if_pos g3] at k
            simp only [List.append_nil] at k
            unfold finC at k
            rw [hlen] at k
            rw [w64 (by omega) (by omega)]
            simp only [decide_eq_true_eq, decide_eq_false_iff_not]
            refine ⟨fun g4 => ?_, fun g4 => ⟨fun g5 => ?_, fun g5 => ⟨str.size + 1, ?_⟩⟩⟩
            · rw [if_pos (by omega)] at k; exact told_err k e0 hn2 b2
            · rw [if_neg (by omega), if_pos (by omega)] at k; exact told_err k e0 hn2 b2
            · rw [if_neg (by omega), if_neg (by omega)] at k
              rw [show (i : Int) + 2 = ((i + 2 : Nat) : Int) from by omega]
              exact cell_tail (by omega) hn2 hn4 hne k (str.size + 1) (i + 2) 0 h s zeroC e0 (by omega) (by omega) (Nat.pos_of_ne_zero (by exact Nat.pos_iff_ne_zero.1 (Nat.pow_pos (by omega)))) rfl (by omega) b2 b4 ow.reads
          · rw [if_neg g3] at k
            refine idxS_of hx (by rw [w64 (by omega) (by omega)]; omega) ?_
            rw [bne_iff_ne, bne_eq_false_iff_eq, Ne, hx2]
            refine ⟨fun g4 => ?_, fun g4 => ?_⟩
            · rw [if_pos g4] at k; exact told_err k e0 hn2 b2
            · have g4 : x = 255 := Classical.not_not.1 (by simpa using g4)
              rw [if_neg (by simpa using g4)] at k
              refine push_mine (f := cU) 0 e0 mi cU_len (by omega) el_Sluint8 ow cU_one (by omega) fun r h1 q1 q2 q3 q4 q5 => ?_
              have hrr : ∀ x, x < h.size -> s.blk ≠ some x -> r.blk ≠ some x := fun x hx hsx => by
                rcases q5 with q5 | ⟨y, q5, q6⟩
                · rw [q5]; exact hsx
                · rw [q5]; intro e; cases e; omega
              rw [show (i : Int) + 2 = ((i + 2 : Nat) : Int) from by omega]
              refine cell_loop hs hn2 hn4 hne m (i + 2) h1 r (acc ++ [0]) (fun h' e => ?_) q2 (by omega) (by simp; omega) (by omega) (q4.block b2 hne2) (q4.block b4 hne4) q1 q3 (hrr n2 hl2 hne2) (hrr n4 hl4 hne4) (by have := q4.size; omega) (by have := q4.size; omega)
              have k := k h' e
              cases hu : unesc (str.data.toList.drop (i + 2)) with
              | error x => rw [hu] at k; exact k
              | ok p => rw [hu] at k; simpa using k
theorem Cell_spec {h : H} {str : ByteArray} {Q : Cel -> Int -> H -> Prop} (hs : str.size < 140737488355328) (k : ∀ h', Ext h h' -> Q (cellM str.data.toList).1 (cellM str.data.toList).2 h') : F.xao str h Q := by
  unfold F.xao
  refine new_of fun n h1 e1 e2 e3 e4 => ?_
  have hs1 := e3.size
  rw [beq_iff_eq, beq_eq_false_iff_ne, toList_data, toList_data]
  refine ⟨fun g => ?_, fun g => ?_⟩
  · have g : str.data.toList = [] := g
    rw [g] at k
    exact told_err k e3 (by omega) (c := zeroC) e2
  · obtain ⟨v, r, hv⟩ : ∃ v r, str.data.toList = v :: r := by
      cases hh : str.data.toList with
      | nil => exact absurd hh g
      | cons v r => exact ⟨v, r, rfl⟩
    have hsz : 0 < str.size := by rw [size_data, hv]; simp
    refine idxS_of (i := 0) (b := v) (by rw [hv]; rfl) rfl ?_
    refine new_of fun n4 h2 f1 f2 f3 f4 => ?_
    have hs2 := f3.size
    refine st_cell (c := zeroC) (d := ⟨IntKind.wrap .i64 (v.toNat : Int), ⟨#[]⟩, 0⟩) f2 fun h3 q1 q2 q3 => ?_
    have hbl := v.toNat_lt
    rw [w64 (by omega) (by omega)] at q1
    refine ⟨str.size + 1, ?_⟩
    refine cell_loop (v := v) hs (n2 := n) (n4 := n4) (h0 := h) (by omega) (by omega) (by omega) _ 1 h3 _ [] (fun h' e => ?_) ((e3.trans f3).step q2 fun m hm e => by omega) (by omega) (by simp) (by omega) (q2.block (f3.block e2 (fun f => f)) (by omega)) q1 (Owns.nil _ _ _) (Mine.nil _ _ _) (by simp [Sl.blk]) (by simp [Sl.blk]) (by omega) (by omega)
    have k := k h' e
    rw [hv, cellM_cons] at k
    rw [show str.data.toList.drop 1 = r from by rw [hv]; rfl]
    cases hu : unesc r with
    | error x => rw [hu] at k; exact k
    | ok p => rw [hu] at k; simpa using k
theorem cmpB_eq : ∀ (a b : List UInt8), Lib.compareBytes a b = if a = b then 0 else if Op.bytesLess a b then -1 else 1
  | [], [] => rfl
  | [], _ :: _ => rfl
  | _ :: _, [] => rfl
  | a :: ra, b :: rb => by
    rw [Lib.compareBytes, cmpB_eq ra rb, Op.bytesLess]
    by_cases h1 : a < b
    · have : a ≠ b := fun e => by subst e; exact absurd h1 (by simp)
      simp [h1, this]
    · by_cases h2 : b < a
      · have : a ≠ b := fun e => by subst e; exact absurd h2 (by simp)
        simp [h1, h2, this]
      · have : a = b := UInt8.le_antisymm (UInt8.not_lt.1 h2) (UInt8.not_lt.1 h1)
        subst this
        simp
def cmpI (x y : Int) : Int := if x < y then -1 else if x > y then 1 else 0
def cmpC (a b : Cel) : Int := if cmpI a.View b.View ≠ 0 then cmpI a.View b.View else if cmpM a.Key b.Key ≠ 0 then cmpM a.Key b.Key else cmpI a.Start b.Start
theorem cmpInt_spec {x y : Int} {h : H} {Q : Int -> H -> Prop} (k : Q (cmpI x y) h) : F.xba x y h Q := by
  unfold F.xba F.xaz
  unfold cmpI at k
  simp only [bne_self_eq_false, Bool.false_eq_true, false_implies, true_implies, true_and, decide_eq_true_eq, decide_eq_false_iff_not]
  by_cases h1 : x < y
  · simp only [h1, if_true] at k; exact ⟨fun _ => k, fun g => absurd h1 g⟩
  · simp only [h1, if_false] at k
    by_cases h2 : x > y
    · simp only [h2, if_true] at k; exact ⟨fun g => absurd g h1, fun _ => ⟨fun _ => k, fun g => absurd h2 g⟩⟩
    · simp only [h2, if_false] at k; exact ⟨fun g => absurd g h1, fun _ => ⟨fun g => absurd g h2, fun _ => k⟩⟩
theorem cmpInt64_spec {x y : Int} {h : H} {Q : Int -> H -> Prop} (k : Q (cmpI x y) h) : F.xcc x y h Q := by
  unfold F.xcc F.xbx
  unfold cmpI at k
  simp only [bne_self_eq_false, Bool.false_eq_true, false_implies, true_implies, true_and, decide_eq_true_eq, decide_eq_false_iff_not]
  by_cases h1 : x < y
  · simp only [h1, if_true] at k; exact ⟨fun _ => k, fun g => absurd h1 g⟩
  · simp only [h1, if_false] at k
    by_cases h2 : x > y
    · simp only [h2, if_true] at k; exact ⟨fun g => absurd g h1, fun _ => ⟨fun _ => k, fun g => absurd h2 g⟩⟩
    · simp only [h2, if_false] at k; exact ⟨fun g => absurd g h1, fun _ => ⟨fun g => absurd g h2, fun _ => k⟩⟩
theorem or3_spec {n : Nat} {a b c : Int} {h : H} {Q : Int -> H -> Prop} (bl : Blk h n #[.int .i64 a, .int .i64 b, .int .i64 c] 3) (k : Q (if a ≠ 0 then a else if b ≠ 0 then b else c) h) : F.xan ⟨some ⟨n, 0, none⟩, 3, 3⟩ h Q := by
  unfold F.xan
  refine ⟨4, ?_⟩
  have c0 : cellH h ⟨n, 0, none⟩ = some (.int .i64 a) := bl.cell rfl
  have c1 : cellH h ⟨n, 1, none⟩ = some (.int .i64 b) := bl.cell rfl
  have c2 : cellH h ⟨n, 2, none⟩ = some (.int .i64 c) := bl.cell rfl
  unfold F.xan.l1
  refine ⟨fun _ => ?_, fun g => by simp at g⟩
  refine idxA_of (i := 0) rfl (by simp) rfl ?_
  rw [Nat.zero_mul, ldI_iff c0, bne_iff_ne, bne_eq_false_iff_eq]
  refine ⟨fun g => by rw [if_pos g] at k; exact k, fun g => ?_⟩
  rw [if_neg (by simpa using g)] at k
  rw [show IntKind.wrap .i64 (0 + 1) = ((1 : Nat) : Int) from by decide]
  unfold F.xan.l1
  refine ⟨fun _ => ?_, fun g => by simp at g⟩
  refine idxA_of (i := 1) rfl (by simp) rfl ?_
  rw [Nat.one_mul, ldI_iff c1, bne_iff_ne, bne_eq_false_iff_eq]
  refine ⟨fun g => by rw [if_pos g] at k; exact k, fun g => ?_⟩
  rw [if_neg (by simpa using g)] at k
  rw [show IntKind.wrap .i64 (((1 : Nat) : Int) + 1) = ((2 : Nat) : Int) from by decide]
  unfold F.xan.l1
  refine ⟨fun _ => ?_, fun g => by simp at g⟩
  refine idxA_of (i := 2) rfl (by simp) rfl ?_
  rw [show 2 * 1 = 2 from rfl, ldI_iff c2, bne_iff_ne, bne_eq_false_iff_eq]
  refine ⟨fun g => k, fun g => ?_⟩
  rw [show IntKind.wrap .i64 (((2 : Nat) : Int) + 1) = ((3 : Nat) : Int) from by decide]
  unfold F.xan.l1
  refine ⟨fun g => by simp at g, fun _ => ?_⟩
  rw [g] at k; exact k
theorem Compare_spec {a b : Cel} {h : H} {Q : Int -> H -> Prop} (k : ∀ h', Ext h h' -> Q (cmpC a b) h') : F.xbp a b h Q := by
  unfold F.xbp
  refine new_of fun n h1 e1 e2 e3 e4 => new_of fun m h3 f1 f2 f3 f4 => ?_
  have b1 : Blk h3 n a.cells.toArray tn_api_Cell := f3.block e2 (fun f => f)
  have b2 : Blk h3 m b.cells.toArray tn_api_Cell := f2
  have a0 : cellH h3 ⟨n, 0, none⟩ = some (.int .i64 a.View) := b1.cell rfl
  have a1 : cellH h3 ⟨n, 1, none⟩ = some (.string a.Key) := b1.cell rfl
  have a2 : cellH h3 ⟨n, 2, none⟩ = some (.int .i64 a.Start) := b1.cell rfl
  have c0 : cellH h3 ⟨m, 0, none⟩ = some (.int .i64 b.View) := b2.cell rfl
  have c1 : cellH h3 ⟨m, 1, none⟩ = some (.string b.Key) := b2.cell rfl
  have c2 : cellH h3 ⟨m, 2, none⟩ = some (.int .i64 b.Start) := b2.cell rfl
  simp only [add_lit, Nat.zero_add, ldI_iff a0, ldI_iff c0, ldS_iff a1, ldS_iff c1, ldI_iff a2, ldI_iff c2]
  refine cmpInt_spec ⟨c2, a2, c1, a1, ?_⟩
  unfold F.xcq F.xcu
  refine ⟨c2, a2, cmpInt64_spec ?_⟩
  refine newL_of fun q h5 g1 g2 g3 g4 => ?_
  exact or3_spec g2 (k h5 ((e3.trans f3).trans g3))
theorem cmpC_self (a : Cel) : cmpC a a = 0 := by
  unfold cmpC cmpI cmpM
  rw [cmpB_eq]; simp
theorem cB_zero {x y : List UInt8} : Lib.compareBytes x y = 0 ↔ x = y := by
  rw [cmpB_eq]
  split
  · rename_i h; simp [h]
  · rename_i h; split <;> simp [h]
theorem u8_tri (a b : UInt8) : a < b ∨ a = b ∨ b < a := by
  by_cases h1 : a < b
  · exact .inl h1
  · by_cases h2 : b < a
    · exact .inr (.inr h2)
    · exact .inr (.inl (UInt8.le_antisymm (UInt8.not_lt.1 h2) (UInt8.not_lt.1 h1)))
theorem u8_asym {a b : UInt8} (h : a < b) : ¬ b < a := fun h2 => by
  rw [UInt8.lt_iff_toNat_lt] at h h2; omega
theorem u8_irr (a : UInt8) : ¬ a < a := fun h => by
  rw [UInt8.lt_iff_toNat_lt] at h; omega
theorem cB_anti : ∀ (x y : List UInt8), Lib.compareBytes x y = - Lib.compareBytes y x
  | [], [] => rfl
  | [], _ :: _ => rfl
  | _ :: _, [] => rfl
  | a :: x, b :: y => by
    have ih := cB_anti x y
    simp only [Lib.compareBytes]
    rcases u8_tri a b with h | h | h
    · simp [h, u8_asym h]
    · subst h; simp [u8_irr, ih]
    · simp [h, u8_asym h]
theorem cB_range (x y : List UInt8) : Lib.compareBytes x y = -1 ∨ Lib.compareBytes x y = 0 ∨ Lib.compareBytes x y = 1 := by
  rw [cmpB_eq]; split
  · simp
  · split <;> simp
theorem cB_trans : ∀ (x y z : List UInt8), Lib.compareBytes x y = -1 -> Lib.compareBytes y z = -1 -> Lib.compareBytes x z = -1
  | [], [], z, h, _ => by simp [Lib.compareBytes] at h
  | [], b :: y, [], _, h => by simp [Lib.compareBytes] at h
  | [], b :: y, c :: z, _, _ => rfl
  | a :: x, [], z, h, _ => by simp [Lib.compareBytes] at h
  | a :: x, b :: y, [], _, h => by simp [Lib.compareBytes] at h
  | a :: x, b :: y, c :: z, h1, h2 => by
    simp only [Lib.compareBytes] at h1 h2 ⊢
    rcases u8_tri a b with g | g | g
    · rcases u8_tri b c with g2 | g2 | g2
      · have : a < c := by rw [UInt8.lt_iff_toNat_lt] at *; omega
        simp [this]
      · subst g2; simp [g]
      · simp [g2, u8_asym g2] at h2
    · subst g
      simp only [u8_irr, if_false] at h1
      rcases u8_tri a c with g2 | g2 | g2
      · simp [g2]
      · subst g2
        simp only [u8_irr, if_false] at h2 ⊢
        exact cB_trans x y z h1 h2
      · simp [g2, u8_asym g2] at h2
    · simp [g, u8_asym g] at h1
theorem cI_anti (x y : Int) : cmpI x y = - cmpI y x := by
  unfold cmpI
  rcases Int.lt_trichotomy x y with h | h | h
  · rw [if_pos h, if_neg (by omega), if_pos (by omega)]
  · subst h; simp
  · rw [if_neg (by omega), if_pos (by omega), if_pos (by omega)]; rfl
theorem cI_zero {x y : Int} : cmpI x y = 0 ↔ x = y := by
  unfold cmpI
  split
  · constructor <;> intro <;> omega
  · split
    · constructor <;> intro <;> omega
    · constructor <;> intro <;> omega
theorem cI_range (x y : Int) : cmpI x y = -1 ∨ cmpI x y = 0 ∨ cmpI x y = 1 := by
  unfold cmpI; split
  · simp
  · split <;> simp
theorem cI_lt {x y : Int} : cmpI x y = -1 ↔ x < y := by
  unfold cmpI
  split
  · constructor <;> intro <;> omega
  · split
    · constructor <;> intro <;> omega
    · constructor <;> intro <;> omega
theorem cC_anti (a b : Cel) : cmpC a b = - cmpC b a := by
  unfold cmpC cmpM
  rw [cI_anti a.View b.View, cB_anti a.Key.data.toList b.Key.data.toList, cI_anti a.Start b.Start]
  split <;> split <;> simp_all <;> omega
theorem cC_range (a b : Cel) : cmpC a b = -1 ∨ cmpC a b = 0 ∨ cmpC a b = 1 := by
  unfold cmpC cmpM
  split
  · exact cI_range _ _
  · split
    · exact cB_range _ _
    · exact cI_range _ _
theorem key_ext {a b : ByteArray} (h : a.data.toList = b.data.toList) : a = b := by
  obtain ⟨x⟩ := a
  obtain ⟨y⟩ := b
  congr 1
  exact Array.toList_inj.1 h
theorem cC_zero {a b : Cel} : cmpC a b = 0 ↔ a = b := by
  constructor
  · intro h
    unfold cmpC cmpM at h
    split at h
    · rename_i g; exact absurd h g
    · rename_i g
      split at h
      · rename_i g2; exact absurd h g2
      · rename_i g2
        have h1 := cI_zero.1 (Classical.not_not.1 g)
        have h2 := key_ext (cB_zero.1 (Classical.not_not.1 g2))
        have h3 := cI_zero.1 h
        obtain ⟨v, k, s⟩ := a
        obtain ⟨v', k', s'⟩ := b
        simp only at h1 h2 h3
        rw [h1, h2, h3]
  · rintro rfl; exact cmpC_self a
theorem cC_lt {a b : Cel} : cmpC a b = -1 ↔ cmpI a.View b.View = -1 ∨ (a.View = b.View ∧ (Lib.compareBytes a.Key.data.toList b.Key.data.toList = -1 ∨ (a.Key.data.toList = b.Key.data.toList ∧ a.Start < b.Start))) := by
  unfold cmpC cmpM
  have r1 := cI_range a.View b.View
  have r2 := cB_range a.Key.data.toList b.Key.data.toList
  have z1 := cI_zero (x := a.View) (y := b.View)
  have z2 := cB_zero (x := a.Key.data.toList) (y := b.Key.data.toList)
  have l3 := cI_lt (x := a.Start) (y := b.Start)
  by_cases h1 : cmpI a.View b.View = 0
  · rw [if_neg (by simp [h1])]
    have e1 := z1.1 h1
    by_cases h2 : Lib.compareBytes a.Key.data.toList b.Key.data.toList = 0
    · rw [if_neg (by simp [h2])]
      have e2 := z2.1 h2
      rw [l3]
      constructor
      · intro h; exact .inr ⟨e1, .inr ⟨e2, h⟩⟩
      · intro h
        rcases h with h | ⟨_, h | h⟩
        · omega
        · omega
        · exact h.2
    · rw [if_pos h2]
      constructor
      · intro h; exact .inr ⟨e1, .inl h⟩
      · intro h
        rcases h with h | ⟨_, h | h⟩
        · omega
        · exact h
        · exact absurd (z2.2 h.1) h2
  · rw [if_pos h1]
    constructor
    · intro h; exact .inl h
    · intro h
      rcases h with h | h
      · exact h
      · exact absurd (z1.2 h.1) h1
theorem cC_trans {a b c : Cel} (h1 : cmpC a b = -1) (h2 : cmpC b c = -1) : cmpC a c = -1 := by
  rw [cC_lt] at *
  rcases h1 with h1 | ⟨e1, h1⟩
  · rw [cI_lt] at h1
    rcases h2 with h2 | ⟨e2, _⟩
    · rw [cI_lt] at h2; exact .inl (cI_lt.2 (by omega))
    · exact .inl (cI_lt.2 (by omega))
  · rcases h2 with h2 | ⟨e2, h2⟩
    · rw [cI_lt] at h2; exact .inl (cI_lt.2 (by omega))
    · refine .inr ⟨by omega, ?_⟩
      rcases h1 with h1 | ⟨k1, h1⟩
      · rcases h2 with h2 | ⟨k2, h2⟩
        · exact .inl (cB_trans _ _ _ h1 h2)
        · rw [← k2]; exact .inl h1
      · rcases h2 with h2 | ⟨k2, h2⟩
        · rw [k1]; exact .inl h2
        · exact .inr ⟨k1.trans k2, by omega⟩
theorem cC_le_trans {a b c : Cel} (h1 : cmpC a b <= 0) (h2 : cmpC b c <= 0) : cmpC a c <= 0 := by
  rcases cC_range a b with r1 | r1 | r1
  · rcases cC_range b c with r2 | r2 | r2
    · rw [cC_trans r1 r2]; omega
    · rw [← cC_zero.1 r2, r1]; omega
    · omega
  · rw [cC_zero.1 r1]; exact h2
  · omega
theorem esc_cmp : ∀ (k1 k2 t1 t2 : List UInt8), Lib.compareBytes (escL k1 ++ 0 :: 1 :: t1) (escL k2 ++ 0 :: 1 :: t2) = if Lib.compareBytes k1 k2 ≠ 0 then Lib.compareBytes k1 k2 else Lib.compareBytes t1 t2
  | [], [], t1, t2 => by simp [escL, Lib.compareBytes, u8_irr]
  | [], b :: k2, t1, t2 => by
    simp only [escL]
    by_cases hb : b = 0
    · subst hb; simp [Lib.compareBytes, u8_irr, show (1 : UInt8) < 255 from by decide]
    · have : (0 : UInt8) < b := by
        rcases u8_tri 0 b with h | h | h
        · exact h
        · exact absurd h.symm hb
        · rw [UInt8.lt_iff_toNat_lt] at h; simp at h
      simp [hb, Lib.compareBytes, this]
  | a :: k1, [], t1, t2 => by
    simp only [escL]
    by_cases hb : a = 0
    · subst hb; simp [Lib.compareBytes, u8_irr, show (1 : UInt8) < 255 from by decide, show ¬ (255 : UInt8) < 1 from by decide]
    · have : (0 : UInt8) < a := by
        rcases u8_tri 0 a with h | h | h
        · exact h
        · exact absurd h.symm hb
        · rw [UInt8.lt_iff_toNat_lt] at h; simp at h
      simp [hb, Lib.compareBytes, this, u8_asym this]
  | a :: k1, b :: k2, t1, t2 => by
    have ih := esc_cmp k1 k2 t1 t2
    have pos : ∀ x : UInt8, x ≠ 0 -> (0 : UInt8) < x := fun x hx => by
      rcases u8_tri 0 x with h | h | h
      · exact h
      · exact absurd h.symm hx
      · rw [UInt8.lt_iff_toNat_lt] at h; simp at h
    rcases u8_tri a b with h | h | h
    · have hb0 : b ≠ 0 := fun e => by subst e; rw [UInt8.lt_iff_toNat_lt] at h; simp at h
      by_cases ha : a = 0
      · subst ha; simp [escL, hb0, Lib.compareBytes, h]
      · simp [escL, hb0, ha, Lib.compareBytes, h]
    · subst h
      by_cases ha : a = 0
      · subst ha; simp [escL, Lib.compareBytes, u8_irr, ih]
      · simp [escL, ha, Lib.compareBytes, u8_irr, ih]
    · have ha0 : a ≠ 0 := fun e => by subst e; rw [UInt8.lt_iff_toNat_lt] at h; simp at h
      by_cases hb : b = 0
      · subst hb; simp [escL, ha0, Lib.compareBytes, h, u8_asym h]
      · simp [escL, ha0, hb, Lib.compareBytes, h, u8_asym h]
def cmpN (u v : Nat) : Int := if u < v then -1 else if v < u then 1 else 0
theorem be_cmp : ∀ (j u v : Nat), Lib.compareBytes (beT u j) (beT v j) = cmpN (u % 2 ^ (8 * j)) (v % 2 ^ (8 * j))
  | 0, u, v => by simp [beT, Lib.compareBytes, cmpN, Nat.mod_one]
  | j + 1, u, v => by
    have ih := be_cmp j u v
    simp only [beT, Lib.compareBytes, ih]
    have e : 2 ^ (8 * (j + 1)) = 2 ^ (8 * j) * 256 := by rw [show 8 * (j + 1) = 8 * j + 8 from by omega, Nat.pow_add]
    have hu : u % 2 ^ (8 * (j + 1)) = u % 2 ^ (8 * j) + 2 ^ (8 * j) * (u / 2 ^ (8 * j) % 256) := by rw [e, Nat.mod_mul]
    have hv : v % 2 ^ (8 * (j + 1)) = v % 2 ^ (8 * j) + 2 ^ (8 * j) * (v / 2 ^ (8 * j) % 256) := by rw [e, Nat.mod_mul]
    rw [hu, hv]
    have pu := Nat.mod_lt u (Nat.two_pow_pos (8 * j))
    have pv := Nat.mod_lt v (Nat.two_pow_pos (8 * j))
    simp only [UInt8.lt_iff_toNat_lt, UInt8.toNat_ofNat']
    have e8 : (2 : Nat) ^ 8 = 256 := by decide
    rw [e8]
    generalize u / 2 ^ (8 * j) % 256 = x at *
    generalize v / 2 ^ (8 * j) % 256 = y at *
    generalize u % 2 ^ (8 * j) = p at *
    generalize v % 2 ^ (8 * j) = q at *
    generalize 2 ^ (8 * j) = B at *
    unfold cmpN
    rcases Nat.lt_trichotomy x y with h | h | h
    · have : B * (x + 1) <= B * y := Nat.mul_le_mul_left _ h
      rw [Nat.mul_add, Nat.mul_one] at this
      rw [if_pos h, if_pos (by omega)]
    · subst h
      rw [if_neg (by omega), if_neg (by omega)]
      by_cases h1 : p < q
      · rw [if_pos h1, if_pos (by omega)]
      · rw [if_neg h1, if_neg (show ¬ (p + B * x < q + B * x) by omega)]
        by_cases h2 : q < p
        · rw [if_pos h2, if_pos (by omega)]
        · rw [if_neg h2, if_neg (by omega)]
    · have : B * (y + 1) <= B * x := Nat.mul_le_mul_left _ h
      rw [Nat.mul_add, Nat.mul_one] at this
      rw [if_neg (by omega), if_pos h, if_neg (by omega), if_pos (by omega)]
abbrev I64n (n : Int) : Prop := -9223372036854775808 <= n ∧ n < 9223372036854775808
theorem upU_val {n : Int} (h : I64n n) : (upU n : Int) = n + 9223372036854775808 := by
  rw [upU_eq, wrap_u64, wrap_u64]; omega
theorem may_view {c : Cel} (h : mayC c = 0) : 0 <= c.View ∧ c.View <= 4 ∧ c.Key.size <= 32 := by
  unfold mayC at h
  split at h
  · omega
  · split at h
    · omega
    · omega
theorem key_cmp {a b : Cel} (ha : mayC a = 0) (hb : mayC b = 0) (ia : I64n a.Start) (ib : I64n b.Start) : Lib.compareBytes (keyL a) (keyL b) = cmpC a b := by
  obtain ⟨a1, a2, a3⟩ := may_view ha
  obtain ⟨b1, b2, b3⟩ := may_view hb
  unfold keyL cmpC cmpM
  simp only [Lib.compareBytes, List.append_assoc, List.cons_append, List.nil_append]
  rw [esc_cmp, be_cmp]
  have ua := upU_val ia
  have ub := upU_val ib
  have e8 : (2 : Nat) ^ (8 * 8) = 18446744073709551616 := by decide
  rw [e8, Nat.mod_eq_of_lt (by omega), Nat.mod_eq_of_lt (by omega)]
  have hN : cmpN (upU a.Start) (upU b.Start) = cmpI a.Start b.Start := by
    unfold cmpN cmpI
    by_cases h1 : a.Start < b.Start
    · rw [if_pos h1, if_pos (by omega)]
    · rw [if_neg h1, if_neg (by omega)]
      by_cases h2 : a.Start > b.Start
      · rw [if_pos h2, if_pos (by omega)]
      · rw [if_neg h2, if_neg (by omega)]
  rw [hN]
  have va : (UInt8.ofNat a.View.toNat).toNat = a.View.toNat := by rw [UInt8.toNat_ofNat']; omega
  have vb : (UInt8.ofNat b.View.toNat).toNat = b.View.toNat := by rw [UInt8.toNat_ofNat']; omega
  simp only [UInt8.lt_iff_toNat_lt, va, vb]
  unfold cmpI
  rcases Int.lt_trichotomy a.View b.View with h | h | h
  · rw [if_pos (by omega), if_pos (by rw [if_pos h]; omega), if_pos h]
  · rw [h, if_neg (by omega), if_neg (by omega)]; simp
  · rw [if_neg (by omega), if_pos (by omega), if_pos (by rw [if_neg (by omega), if_pos (by omega)]; omega), if_neg (by omega), if_pos (by omega)]
theorem unesc_esc : ∀ (k t : List UInt8), unesc (escL k ++ 0 :: 1 :: t) = .ok (k, t)
  | [], t => by
    show unesc (0 :: 1 :: t) = _
    rw [unesc.eq_def]; simp
  | b :: k, t => by
    have ih := unesc_esc k t
    by_cases hb : b = 0
    · subst hb
      simp only [escL, if_true, List.cons_append]
      rw [unesc.eq_def]
      simp [ih]
    · simp only [escL, if_neg hb, List.cons_append]
      rw [unesc_ne hb, ih]
theorem beV_beT : ∀ (j u w : Nat), beV w (beT u j) = w * 2 ^ (8 * j) + u % 2 ^ (8 * j)
  | 0, u, w => by simp [beT, beV, Nat.mod_one]
  | j + 1, u, w => by
    rw [beT, beV, beV_beT j, UInt8.toNat_ofNat']
    have e : 2 ^ (8 * (j + 1)) = 2 ^ (8 * j) * 256 := by rw [show 8 * (j + 1) = 8 * j + 8 from by omega, Nat.pow_add]
    have hu : u % 2 ^ (8 * (j + 1)) = u % 2 ^ (8 * j) + 2 ^ (8 * j) * (u / 2 ^ (8 * j) % 256) := by rw [e, Nat.mod_mul]
    have e8 : (2 : Nat) ^ 8 = 256 := by decide
    rw [hu, e, e8, Nat.add_mul, Nat.mul_comm (u / 2 ^ (8 * j) % 256), Nat.mul_assoc w 256, Nat.mul_comm 256 (2 ^ (8 * j))]
    omega
theorem cell_back {c : Cel} (h : mayC c = 0) (i : I64n c.Start) : cellM (keyL c) = (c, 0) := by
  obtain ⟨a1, a2, a3⟩ := may_view h
  have u := upU_val i
  unfold keyL
  rw [cellM_cons]
  simp only [List.append_assoc, List.cons_append, List.nil_append]
  rw [unesc_esc]
  simp only [finC, beT_len]
  rw [if_neg (by omega), if_neg (by omega), beV_beT]
  have e8 : (2 : Nat) ^ (8 * 8) = 18446744073709551616 := by decide
  have hs : startOf (0 * 2 ^ (8 * 8) + upU c.Start % 2 ^ (8 * 8)) = c.Start := by
    rw [e8, Nat.mod_eq_of_lt (by omega)]
    unfold startOf
    rw [wrap_u64, Nat.zero_mul, Nat.zero_add, u]
    unfold IntKind.wrap
    simp [IntKind.bits, IntKind.signed]
    omega
  rw [hs]
  have hv : (((UInt8.ofNat c.View.toNat).toNat : Nat) : Int) = c.View := by rw [UInt8.toNat_ofNat']; omega
  rw [hv]
  have hc : (⟨c.View, ⟨c.Key.data.toList.toArray⟩, c.Start⟩ : Cel) = c := by
    obtain ⟨v, ⟨k⟩, s⟩ := c
    simp
  rw [hc, if_neg (by simpa using h)]
section
variable {h0 h : H} {n m q : Nat} {a b c : Cel} {Q : Bool -> H -> Prop}
end
end Go.Proofs.YtjjchpaomgmmdaaGreat.V
namespace Go.Proofs.YtjjchpaomgmmdaaGreat.V.M
open Go Go.Proofs.YtjjchpaomgmmdaaGreat.V
set_option linter.unusedVariables false
set_option linter.unusedSimpArgs false
section
variable {α : Type} (le : α -> α -> Bool)
def mAll (Ls : List (List α)) : List α := Ls.foldr (fun l m => List.merge l m le) []
variable {le}
theorem merge_nil (m : List α) : List.merge [] m le = m := by simp [List.merge]
theorem merge_nil' (l : List α) : List.merge l [] le = l := by cases l <;> simp [List.merge]
theorem merge_cons (x y : α) (l m : List α) : List.merge (x :: l) (y :: m) le = if le x y then x :: List.merge l (y :: m) le else y :: List.merge (x :: l) m le := by
  rw [List.merge]
theorem mAll_head : ∀ {Ls : List (List α)} {y : α} {r : List α}, mAll le Ls = y :: r -> ∃ (j : Nat) (t : List α), Ls[j]? = some (y :: t)
  | [], y, r, h => by simp [mAll] at h
  | l :: Ls, y, r, h => by
    have hm : List.merge l (mAll le Ls) le = y :: r := h
    cases l with
    | nil =>
      rw [merge_nil] at hm
      obtain ⟨j, t, hj⟩ := mAll_head hm
      exact ⟨j + 1, t, by simpa using hj⟩
    | cons a l =>
      cases hq : mAll le Ls with
      | nil =>
        rw [hq, merge_nil'] at hm
        cases hm
        exact ⟨0, _, rfl⟩
      | cons b m =>
        rw [hq, merge_cons] at hm
        split at hm
        · cases hm; exact ⟨0, _, rfl⟩
        · cases hm
          obtain ⟨j, t, hj⟩ := mAll_head hq
          exact ⟨j + 1, t, by simpa using hj⟩
theorem mAll_none : ∀ {Ls : List (List α)}, (∀ l ∈ Ls, l = []) -> mAll le Ls = []
  | [], _ => rfl
  | l :: Ls, h => by
    have h1 := h l (by simp)
    subst h1
    show List.merge [] (mAll le Ls) le = []
    rw [mAll_none fun l hl => h l (by simp [hl])]
    exact merge_nil _
theorem mAll_pick : ∀ {Ls : List (List α)} {k : Nat} {x : α} {t : List α}, Ls[k]? = some (x :: t) -> (∀ (j : Nat) y s, j < k -> Ls[j]? = some (y :: s) -> le y x = false) -> (∀ (j : Nat) y s, k < j -> Ls[j]? = some (y :: s) -> le x y = true) ->
    mAll le Ls = x :: mAll le (Ls.set k t)
  | [], k, x, t, h, _, _ => by simp at h
  | l :: Ls, 0, x, t, h, _, h2 => by
    simp at h
    subst h
    show List.merge (x :: t) (mAll le Ls) le = x :: List.merge t (mAll le Ls) le
    cases hq : mAll le Ls with
    | nil => rw [merge_nil', merge_nil']
    | cons y r =>
      obtain ⟨j, s, hj⟩ := mAll_head hq
      rw [merge_cons, if_pos (h2 (j + 1) y s (by omega) (by simpa using hj))]
  | l :: Ls, k + 1, x, t, h, h1, h2 => by
    have ih := mAll_pick (Ls := Ls) (k := k) (x := x) (t := t) (by simpa using h) (fun j y s hj hy => h1 (j + 1) y s (by omega) (by simpa using hy)) (fun j y s hj hy => h2 (j + 1) y s (by omega) (by simpa using hy))
    show List.merge l (mAll le Ls) le = x :: List.merge l (mAll le (Ls.set k t)) le
    rw [ih]
    cases l with
    | nil => rw [merge_nil, merge_nil]
    | cons y s =>
      rw [merge_cons, if_neg (by rw [h1 0 y s (by omega) rfl]; simp)]
theorem mAll_len : ∀ {Ls : List (List α)}, (mAll le Ls).length = (Ls.map List.length).sum
  | [] => rfl
  | l :: Ls => by
    show (List.merge l (mAll le Ls) le).length = _
    rw [List.length_merge, mAll_len]; simp
end
section
variable {α : Type} [Inhabited α]
abbrev g (A : List α) (i : Nat) : α := A.getD i default
def swp (A : List α) (i j : Nat) : List α := (A.set i (g A j)).set j (g A i)
theorem swp_len (A : List α) (i j : Nat) : (swp A i j).length = A.length := by simp [swp]
theorem g_set {A : List α} {i j : Nat} {x : α} (h : i < A.length) : g (A.set i x) j = if i = j then x else g A j := by
  simp only [g, List.getD_eq_getElem?_getD, List.getElem?_set]
  by_cases e : i = j
  · subst e; simp [h]
  · simp [e]
theorem g_swp {A : List α} {i j k : Nat} (hi : i < A.length) (hj : j < A.length) : g (swp A i j) k = if k = j then g A i else if k = i then g A j else g A k := by
  unfold swp
  rw [g_set (by simpa using hj), g_set hi]
  by_cases e : j = k
  · subst e; simp
  · rw [if_neg e, if_neg (show ¬ k = j from fun h => e h.symm)]
    by_cases e2 : i = k
    · rw [if_pos e2, if_pos e2.symm]
    · rw [if_neg e2, if_neg (show ¬ k = i from fun h => e2 h.symm)]
theorem swp_perm {A : List α} {i j : Nat} (hi : i < A.length) (hj : j < A.length) : (swp A i j).Perm A := by
  have e1 : g A j = A[j] := by simp [g, List.getD_eq_getElem?_getD, hj]
  have e2 : g A i = A[i] := by simp [g, List.getD_eq_getElem?_getD, hi]
  unfold swp
  rw [e1, e2]
  exact List.set_set_perm hi hj
variable (lt : α -> α -> Bool)
def dn : Nat -> List α -> Nat -> Nat -> List α × Nat
  | 0, A, n, i => (A, i)
  | m + 1, A, n, i =>
    if n <= 2 * i + 1 then (A, i)
    else if lt (g A (if 2 * i + 2 < n ∧ lt (g A (2 * i + 2)) (g A (2 * i + 1)) = true then 2 * i + 2 else 2 * i + 1)) (g A i) = true then
      dn m (swp A i (if 2 * i + 2 < n ∧ lt (g A (2 * i + 2)) (g A (2 * i + 1)) = true then 2 * i + 2 else 2 * i + 1)) n (if 2 * i + 2 < n ∧ lt (g A (2 * i + 2)) (g A (2 * i + 1)) = true then 2 * i + 2 else 2 * i + 1)
    else (A, i)
def HP (A : List α) (n s : Nat) : Prop := ∀ c, 0 < c -> c < n -> s <= (c - 1) / 2 -> lt (g A c) (g A ((c - 1) / 2)) = false
structure Ord : Prop where
  asym : ∀ a b, lt a b = true -> lt b a = false
  trans : ∀ a b c, lt b a = false -> lt c b = false -> lt c a = false
variable {lt}
theorem dn_law (o : Ord lt) : ∀ (m : Nat) (A : List α) (n i s : Nat), n <= A.length -> i < n -> s <= i -> n - i <= m ->
    (∀ c, 0 < c -> c < n -> s <= (c - 1) / 2 -> (c - 1) / 2 ≠ i -> lt (g A c) (g A ((c - 1) / 2)) = false) ->
    (∀ c, 0 < c -> c < n -> (c - 1) / 2 = i -> 0 < i -> s <= (i - 1) / 2 -> lt (g A c) (g A ((i - 1) / 2)) = false) ->
    HP lt (dn lt m A n i).1 n s ∧ (dn lt m A n i).1.Perm A ∧ (dn lt m A n i).1.length = A.length ∧ ∀ k, n <= k -> g (dn lt m A n i).1 k = g A k
  | 0, A, n, i, s, hn, hi, hs, hm, h1, h2 => by omega
  | m + 1, A, n, i, s, hn, hi, hs, hm, h1, h2 => by
    unfold dn
    by_cases hl : n <= 2 * i + 1
    · rw [if_pos hl]
      exact ⟨fun c c0 cn cs => h1 c c0 cn cs (by omega), .refl _, rfl, fun _ _ => rfl⟩
    · rw [if_neg hl]
      generalize hj : (if 2 * i + 2 < n ∧ lt (g A (2 * i + 2)) (g A (2 * i + 1)) = true then 2 * i + 2 else 2 * i + 1) = j
      have hj2 : (j = 2 * i + 1 ∨ j = 2 * i + 2) ∧ j < n ∧ (∀ c, (c = 2 * i + 1 ∨ c = 2 * i + 2) -> c < n -> lt (g A c) (g A j) = false) := by
        have irr : ∀ a, lt a a = false := fun a => by
          cases h : lt a a with
          | false => rfl
          | true => have := o.asym a a h; rw [h] at this; cases this
        split at hj
        · rename_i h
          subst hj
          refine ⟨.inr rfl, h.1, fun c hc hcn => ?_⟩
          rcases hc with rfl | rfl
          · exact o.asym _ _ h.2
          · exact irr _
        · rename_i h
          subst hj
          refine ⟨.inl rfl, by omega, fun c hc hcn => ?_⟩
          rcases hc with rfl | rfl
          · exact irr _
          · cases h2 : lt (g A (2 * i + 2)) (g A (2 * i + 1)) with
            | false => rfl
            | true => exact absurd ⟨hcn, h2⟩ h
      obtain ⟨ja, jb, jc⟩ := hj2
      have jp : (j - 1) / 2 = i := by omega
      by_cases ht : lt (g A j) (g A i) = true
      · rw [if_pos ht]
        have hiA : i < A.length := by omega
        have hjA : j < A.length := by omega
        have gs : ∀ k, g (swp A i j) k = if k = j then g A i else if k = i then g A j else g A k := fun k => g_swp hiA hjA
        obtain ⟨r1, r2, r3, r4⟩ := dn_law o m (swp A i j) n j s (by rw [swp_len]; exact hn) jb (by omega) (by omega) (fun c c0 cn cs cp => by
          rw [gs, gs, if_neg (fun h => by subst h; omega : ¬ (c - 1) / 2 = j)]
          by_cases e1 : c = j
          · subst e1
            rw [if_pos rfl, if_pos jp]
            exact o.asym _ _ ht
          · rw [if_neg e1]
            by_cases e2 : c = i
            · subst e2
              rw [if_pos rfl, if_neg (by omega)]
              exact h2 j (by omega) jb jp c0 cs
            · rw [if_neg e2]
              by_cases e3 : (c - 1) / 2 = i
              · rw [if_pos e3]
                exact jc c (by omega) cn
              · rw [if_neg e3]
                exact h1 c c0 cn cs e3) (fun c c0 cn cp j0 js => by
          rw [gs, gs, if_neg (by omega), if_neg (by omega), jp, if_neg (by omega), if_pos rfl, ← cp]
          exact h1 c c0 cn (by omega) (by omega))
        exact ⟨r1, r2.trans (swp_perm hiA hjA), by rw [r3, swp_len], fun k hk => by rw [r4 k hk, gs, if_neg (by omega), if_neg (by omega)]⟩
      · rw [if_neg ht]
        have ht' : lt (g A j) (g A i) = false := by simpa using ht
        refine ⟨fun c c0 cn cs => ?_, .refl _, rfl, fun _ _ => rfl⟩
        by_cases e : (c - 1) / 2 = i
        · rw [e]
          exact o.trans _ _ _ ht' (jc c (by omega) cn)
        · exact h1 c c0 cn cs e
theorem hp_root (o : Ord lt) {A : List α} {n : Nat} (h : HP lt A n 0) : ∀ c, c < n -> lt (g A c) (g A 0) = false := by
  intro c
  induction c using Nat.strongRecOn with
  | _ c ih =>
    intro hc
    by_cases h0 : c = 0
    · subst h0
      cases h : lt (g A 0) (g A 0) with
      | false => rfl
      | true => have := o.asym _ _ h; rw [h] at this; cases this
    · exact o.trans _ _ _ (ih ((c - 1) / 2) (by omega) (by omega)) (h c (by omega) hc (by omega))
end
abbrev Rw8 := S_api_Row
abbrev cW (x : Rw8) : List Value := x.cells
theorem cW_len (x : Rw8) : (cW x).length = 7 := rfl
abbrev cF (x : S_merge_front) : List Value := x.cells
theorem cF_len (x : S_merge_front) : (cF x).length = 2 := rfl
structure Fr where
  f : S_merge_front
  R : List Rw8
instance : Inhabited S_api_Row := ⟨⟨⟨0, ⟨#[]⟩, 0⟩, ⟨0, 0, 0, 0⟩⟩⟩
instance : Inhabited Fr := ⟨⟨⟨⟨none, 0, 0⟩, 0⟩, []⟩⟩
def hdF (a : Fr) : Rw8 := a.R.headD default
def or2 (a b : Int) : Int := if a ≠ 0 then a else b
def ltF (a b : Fr) : Bool := decide (or2 (cmpC (hdF a).Cell (hdF b).Cell) (cmpI a.f.list b.f.list) < 0)
theorem cmpI_val (a b : Int) : (a < b ∧ cmpI a b = -1) ∨ (a = b ∧ cmpI a b = 0) ∨ (b < a ∧ cmpI a b = 1) := by
  unfold cmpI
  by_cases h1 : a < b
  · simp [h1]
  · by_cases h2 : b < a
    · right; right; simp [h1, h2]
    · right; left; simp [h1, h2]; omega
theorem ltF_iff {a b : Fr} : ltF a b = true ↔ cmpC (hdF a).Cell (hdF b).Cell = -1 ∨ (cmpC (hdF a).Cell (hdF b).Cell = 0 ∧ a.f.list < b.f.list) := by
  unfold ltF or2
  rw [decide_eq_true_eq]
  have h1 := cC_range (hdF a).Cell (hdF b).Cell
  have h2 := cmpI_val a.f.list b.f.list
  split
  · omega
  · omega
theorem ltF_ord : Ord ltF where
  asym a b h := by
    cases hb : ltF b a with
    | false => rfl
    | true =>
      rw [ltF_iff] at h hb
      have := cC_anti (hdF a).Cell (hdF b).Cell
      omega
  trans a b c h1 h2 := by
    cases hc : ltF c a with
    | false => rfl
    | true =>
      have n1 : ¬ ltF b a = true := by rw [h1]; simp
      have n2 : ¬ ltF c b = true := by rw [h2]; simp
      rw [ltF_iff] at n1 n2 hc
      have ra := cC_range (hdF b).Cell (hdF a).Cell
      have rb := cC_range (hdF c).Cell (hdF b).Cell
      have a1 := cC_anti (hdF b).Cell (hdF a).Cell
      have a2 := cC_anti (hdF c).Cell (hdF b).Cell
      have a3 := cC_anti (hdF c).Cell (hdF a).Cell
      have l1 : cmpC (hdF a).Cell (hdF b).Cell <= 0 := by omega
      have l2 : cmpC (hdF b).Cell (hdF c).Cell <= 0 := by omega
      have l3 := cC_le_trans l1 l2
      rcases hc with hc | ⟨hc, hl⟩
      · omega
      · have e1 : (hdF c).Cell = (hdF a).Cell := cC_zero.1 hc
        rw [e1] at rb a2 l2 n2
        by_cases hz : cmpC (hdF b).Cell (hdF a).Cell = 0
        · omega
        · omega
theorem add0 (a : Addr) : a.add 0 = a := by unfold Addr.add; simp
theorem Cells.pre {h : H} {a : Addr} {x y : List Value} (c : Cells h a (x ++ y)) : Cells h a x := fun i v hv => c i v (by rw [List.getElem?_append_left (List.getElem?_eq_some_iff.1 hv).1]; exact hv)
section
variable {h0 hk h h' : H} {n : Nat} {s : Sl} {G : List Fr}
theorem or2_spec {n : Nat} {a b : Int} {Q : Int -> H -> Prop} (bl : Blk h n #[.int .i64 a, .int .i64 b] 3) (k : Q (or2 a b) h) : F.xan ⟨some ⟨n, 0, none⟩, 2, 2⟩ h Q := by
  unfold F.xan
  unfold or2 at k
  refine ⟨3, ?_⟩
  have c0 : cellH h ⟨n, 0, none⟩ = some (.int .i64 a) := bl.cell rfl
  have c1 : cellH h ⟨n, 1, none⟩ = some (.int .i64 b) := bl.cell rfl
  unfold F.xan.l1
  refine ⟨fun _ => ?_, fun g => by simp at g⟩
  refine idxA_of (i := 0) rfl (by simp) rfl ?_
  rw [Nat.zero_mul, ldI_iff c0, bne_iff_ne, bne_eq_false_iff_eq]
  refine ⟨fun g => by rw [if_pos g] at k; exact k, fun g => ?_⟩
  rw [if_neg (by simpa using g)] at k
  rw [show IntKind.wrap .i64 (0 + 1) = ((1 : Nat) : Int) from by decide]
  unfold F.xan.l1
  refine ⟨fun _ => ?_, fun g => by simp at g⟩
  refine idxA_of (i := 1) rfl (by simp) rfl ?_
  rw [Nat.one_mul, ldI_iff c1, bne_iff_ne, bne_eq_false_iff_eq]
  refine ⟨fun g => k, fun g => ?_⟩
  rw [show IntKind.wrap .i64 (((1 : Nat) : Int) + 1) = ((2 : Nat) : Int) from by decide]
  unfold F.xan.l1
  refine ⟨fun g => by simp at g, fun _ => ?_⟩
  rw [g] at k; exact k
structure Keep (hk h : H) : Prop where
  w : ∀ {r : Sl} {e : TypeId} {k : Nat} {cs : List Value}, Owns hk r e k cs -> e ≠ tn_merge_front -> e ≠ tn_merge_fronts -> Owns h r e k cs
theorem Keep.refl (h : H) : Keep h h := ⟨fun w _ _ => w⟩
theorem own_ne {h : H} {s : Sl} {n : Nat} {cs : List Value} {k : Nat} {c : Array Value} {e e' : TypeId} (w : Owns h s e k cs) (b : Blk h n c e') (he : e ≠ e') : s.blk ≠ some n := fun hb => by
  obtain ⟨_, ⟨q1, q2, q3⟩ | ⟨b', c', q1, q2, _⟩⟩ := w
  · simp [Sl.blk, q1] at hb
  · simp [Sl.blk, q1] at hb
    subst hb
    unfold Blk at q2 b
    rw [q2] at b; cases b; exact he rfl
theorem Keep.ext {hk h h' : H} (k : Keep hk h) (e : Ext h h') : Keep hk h' := ⟨fun w h1 h2 => (k.w w h1 h2).ext e⟩
theorem Keep.blk {hk h h' : H} {n : Nat} {c : Array Value} {e' : TypeId} (k : Keep hk h) (o : Only (· = n) h h') (b : Blk h n c e') (he : e' = tn_merge_front ∨ e' = tn_merge_fronts) : Keep hk h' := ⟨fun w h1 h2 =>
  (k.w w h1 h2).only o fun y hy hf => own_ne (k.w w h1 h2) b (fun e => by rcases he with he | he; exact h1 (e.trans he); exact h2 (e.trans he)) (by rw [hy, hf])⟩
theorem Keep.own {hk h h' : H} {s : Sl} {m : Nat} {ds : List Value} (k : Keep hk h) (o : Only (fun b => s.blk = some b) h h') (ws : Owns h s tn_merge_front m ds) : Keep hk h' := ⟨fun w h1 h2 =>
  (k.w w h1 h2).only o fun y hy hf => by
    obtain ⟨_, ⟨q1, q2, q3⟩ | ⟨b', c', q1, q2, _⟩⟩ := ws
    · simp [Sl.blk, q1] at hf
    · simp [Sl.blk, q1] at hf
      subst hf
      exact own_ne (k.w w h1 h2) q2 h1 hy⟩
structure FS (h0 hk h : H) (n : Nat) (s : Sl) (G : List Fr) : Prop where
  var : Blk h n #[s.enc] tn_merge_fronts
  own : Owns h s tn_merge_front 2 ((G.map (·.f)).flatMap cF)
  mine : Mine h0 s
  lo : h0.size <= n
  ext : Ext h0 h
  rows : ∀ f ∈ G, f.R ≠ [] -> Reads h0 f.f.rows 7 (f.R.flatMap cW)
  kp : Keep hk h
theorem g_mem {i : Nat} (hi : i < G.length) : G[i]? = some (g G i) := by simp [g, List.getD_eq_getElem?_getD, hi]
theorem FS.at (v : FS h0 hk h n s G) {i : Nat} (hi : i < G.length) {K : Addr -> Prop} (k : ∀ a, Cells h a (cF (g G i).f) -> K a) : idxA s (i : Int) 2 K := by
  obtain ⟨b, p1, p2⟩ := own_at cF_len (by omega) v.own (i := i) (x := (g G i).f) (by rw [List.getElem?_map, g_mem hi]; rfl)
  have hl := own_len cF_len (by omega) v.own
  rw [List.length_map] at hl
  exact idxA_of (i := i) p1 (by rw [hl]; exact hi) rfl (k _ p2)
theorem FS.e (v : FS h0 hk h n s G) (e : Ext h h') : FS h0 hk h' n s G := ⟨e.block v.var (fun f => f), v.own.ext e, v.mine, v.lo, v.ext.trans e, v.rows, v.kp.ext e⟩
theorem hd_cell (v : FS h0 hk h n s G) {i : Nat} (hi : i < G.length) (hne : (g G i).R ≠ []) {K : Cel -> Prop} (k : K (hdF (g G i)).Cell) : idxA (g G i).f.rows 0 7 fun a => ld_S_api_Cell h (a.add 0) K := by
  have rd := v.rows _ (List.mem_of_getElem? (g_mem hi)) hne
  obtain ⟨x, t, hx⟩ : ∃ x t, (g G i).R = x :: t := by
    cases hR : (g G i).R with
    | nil => exact absurd hR hne
    | cons x t => exact ⟨x, t, rfl⟩
  have rd' := rd.only v.ext fun _ _ f => f
  rw [hx] at rd'
  obtain ⟨p, p1, p2, p3⟩ := rd_at cW_len (by omega) rd' (i := 0) (x := x) rfl
  have hl := rd_len cW_len (by omega) rd'
  refine idxR_of (i := 0) p1 (by rw [hl]; simp) rfl ?_
  rw [add0]
  have : hdF (g G i) = x := by unfold hdF; rw [hx]; rfl
  rw [this] at k
  exact ⟨x.Cell, Cells.pre p3, k⟩
theorem Less_spec {i j : Nat} {Q : Bool -> H -> Prop} (v : FS h0 hk h n s G) (hi : i < G.length) (hj : j < G.length) (ni : (g G i).R ≠ []) (nj : (g G j).R ≠ []) (k : ∀ h', Ext h h' -> Q (ltF (g G i) (g G j)) h') : F.xbo s (i : Int) (j : Int) h Q := by
  unfold F.xbo
  have c0 : ∀ {a : Addr} {x : S_merge_front}, Cells h a (cF x) -> cellH h (a.add 0) = some x.rows.enc := fun c => c 0 _ rfl
  have c1 : ∀ {a : Addr} {x : S_merge_front}, Cells h a (cF x) -> cellH h (a.add 1) = some (.int .i64 x.list) := fun c => c 1 _ rfl
  refine v.at hi fun a1 d1 => (ldL_iff (c0 d1)).2 (hd_cell v hi ni (v.at hj fun a2 d2 => (ldL_iff (c0 d2)).2 (hd_cell v hj nj ?_)))
  refine v.at hi fun a3 d3 => (ldI_iff (c1 d3)).2 (v.at hj fun a4 d4 => (ldI_iff (c1 d4)).2 ?_)
  refine Compare_spec fun h1 e1 => ⟨e1.cell (c1 d4) (fun f => f), e1.cell (c1 d3) (fun f => f), cmpInt_spec ?_⟩
  refine newL_of fun m h2 hm b2 e2 s2 => or2_spec b2 (k h2 (e1.trans e2))
theorem Swap_spec {i j : Nat} {Q : H -> Prop} (v : FS h0 hk h n s G) (hi : i < G.length) (hj : j < G.length) (k : ∀ h', FS h0 hk h' n s (swp G i j) -> Q h') : F.xbq s (i : Int) (j : Int) h Q := by
  unfold F.xbq
  have hl := own_len cF_len (by omega) v.own
  rw [List.length_map] at hl
  refine v.at hj fun a1 d1 => ⟨_, d1, v.at hi fun a2 d2 => ⟨_, d2, ?_⟩⟩
  obtain ⟨b, p1, p2⟩ := own_at cF_len (by omega) v.own (i := i) (x := (g G i).f) (by rw [List.getElem?_map, g_mem hi]; rfl)
  refine idxA_of (i := i) p1 (by rw [hl]; exact hi) rfl ?_
  refine own_setAt (i := i) (x := (g G j).f) cF_len v.own p1 (by simpa using hi) fun h1 w1 o1 s1 => ?_
  refine idxA_of (i := j) p1 (by rw [hl]; exact hj) rfl ?_
  refine own_setAt (i := j) (x := (g G i).f) cF_len w1 p1 (by simpa using hj) fun h2 w2 o2 s2 => ?_
  have o : Only (fun b => s.blk = some b) h h2 := o1.trans o2 fun _ _ e => e
  have hnb : s.blk ≠ some n := fun hb => by
    obtain ⟨_, ⟨q1, _⟩ | ⟨b', c', q1, q2, _⟩⟩ := v.own
    · rw [q1] at p1; cases p1
    · simp [Sl.blk, q1] at hb
      subst hb
      have := v.var
      unfold Blk at q2 this
      rw [q2] at this; cases this
  refine k h2 ⟨o.block v.var hnb, ?_, v.mine, v.lo, v.ext.mine v.mine o, fun f hf => v.rows f ((swp_perm hi hj).mem_iff.1 hf), v.kp.own o v.own⟩
  have : (swp G i j).map (·.f) = (((G.map (·.f)).set i (g G j).f).set j (g G i).f) := by unfold swp; rw [List.map_set, List.map_set]
  rw [this]; exact w2
theorem FS.ldv (v : FS h0 hk h n s G) {K : Sl -> Prop} (k : K s) : ldL h ⟨n, 0, none⟩ K := (ldL_iff (v.var.cell (i := 0) rfl)).2 k
theorem down_loop {n0 i0 : Nat} {Q : Bool -> H -> Prop} : ∀ (m i : Nat) (h : H) (G : List Fr), n0 <= G.length -> n0 < 1000000 -> i < 1000000 -> n0 - i <= m -> FS h0 hk h n s G -> (∀ j, j < n0 -> (g G j).R ≠ []) ->
    (∀ h', FS h0 hk h' n s (dn ltF m G n0 i).1 -> Q (decide ((((dn ltF m G n0 i).2 : Nat) : Int) > (i0 : Int))) h') ->
    F.xaa.l2 Q (m + 1) (some ⟨n, 0, none⟩) (i0 : Int) (n0 : Int) (i : Int) h := by
  intro m
  induction m with
  | zero =>
    intro i h G hn hn0 hi hm v ne k
    unfold F.xaa.l2
    rw [w64 (n := 2 * (i : Int)) (by omega) (by omega), w64 (n := 2 * (i : Int) + 1) (by omega) (by omega)]
    refine ⟨fun _ => ?_, fun g => by simp at g; omega⟩
    unfold F.xaa.j6 F.xaa.j1
    refine ⟨fun _ => k h v, fun g => (by cases g)⟩
  | succ m ih =>
    intro i h G hn hn0 hi hm v ne k
    unfold F.xaa.l2
    rw [w64 (n := 2 * (i : Int)) (by omega) (by omega), w64 (n := 2 * (i : Int) + 1) (by omega) (by omega)]
    unfold dn at k
    refine ⟨fun g1 => ?_, fun g1 => ?_⟩
    · rw [if_pos (by simp at g1; omega)] at k
      unfold F.xaa.j6 F.xaa.j1
      exact ⟨fun _ => k h v, fun g => (by cases g)⟩
    · have hlt : ¬ n0 <= 2 * i + 1 := by simp at g1; omega
      rw [if_neg hlt] at k
      rw [decide_eq_false (show ¬ 2 * (i : Int) + 1 < 0 by omega)]
      unfold F.xaa.j6
      refine ⟨fun g => (by cases g), fun _ => ?_⟩
      unfold F.xaa.j3
      rw [w64 (n := 2 * (i : Int) + 1 + 1) (by omega) (by omega)]
      have q1 : (2 * (i : Int) + 1) = ((2 * i + 1 : Nat) : Int) := by omega
      have q2 : (2 * (i : Int) + 1 + 1) = ((2 * i + 2 : Nat) : Int) := by omega
      rw [q2, q1]
      -- the lesser child
      have j4 : ∀ (j : Nat) (h : H), FS h0 hk h n s G -> j < n0 -> (if 2 * i + 2 < n0 ∧ ltF (g G (2 * i + 2)) (g G (2 * i + 1)) = true then 2 * i + 2 else 2 * i + 1) = j -> F.xaa.j4 Q (F.xaa.l2 Q (m + 1)) (some ⟨n, 0, none⟩) (i0 : Int) (n0 : Int) (i : Int) (j : Int) h := by
        intro j h v hj hje
        rw [hje] at k
        have hji : j = 2 * i + 1 ∨ j = 2 * i + 2 := by rw [← hje]; split <;> omega
        unfold F.xaa.j4
        refine ⟨_, rfl, v.ldv (Less_spec v (by omega) (by omega) (ne j hj) (ne i (by omega)) fun h1 e1 => ⟨fun g => ?_, fun g => ⟨_, rfl, ?_⟩⟩)⟩
        · rw [if_neg (by simpa using g)] at k
          unfold F.xaa.j1
          exact k h1 (v.e e1)
        · rw [if_pos (by simpa using g)] at k
          have v1 := v.e e1
          refine v1.ldv (Swap_spec v1 (by omega) (by omega) fun h2 v2 => ?_)
          exact ih j h2 _ (by rw [swp_len]; exact hn) hn0 (by omega) (by omega) v2 (fun q hq => by
            rw [g_swp (by omega) (by omega)]
            split
            · exact ne i (by omega)
            · split
              · exact ne j hj
              · exact ne q hq) k
      have j5 : ∀ (b : Bool) (h : H), FS h0 hk h n s G -> (b = decide (2 * i + 2 < n0 ∧ ltF (g G (2 * i + 2)) (g G (2 * i + 1)) = true)) -> F.xaa.j5 Q (F.xaa.l2 Q (m + 1)) (some ⟨n, 0, none⟩) (i0 : Int) (n0 : Int) (i : Int) ((2 * i + 1 : Nat) : Int) ((2 * i + 2 : Nat) : Int) b h := by
        intro b h v hb
        unfold F.xaa.j5
        refine ⟨fun g => ?_, fun g => ?_⟩
        · rw [hb] at g
          have hc := of_decide_eq_true g
          exact j4 _ h v hc.1 (if_pos hc)
        · rw [hb] at g
          have hc := of_decide_eq_false g
          exact j4 _ h v (by omega) (if_neg hc)
      refine ⟨fun gg => ⟨_, rfl, v.ldv ?_⟩, fun gg => j5 _ h v ?_⟩
      · have hc : 2 * i + 2 < n0 := by simp at gg; omega
        refine Less_spec v (by omega) (by omega) (ne _ hc) (ne _ (by omega)) fun h1 e1 => j5 _ h1 (v.e e1) ?_
        cases ltF (g G (2 * i + 2)) (g G (2 * i + 1)) <;> simp [hc]
      · have hc : ¬ 2 * i + 2 < n0 := by simp at gg; omega
        simp [hc]
theorem down_spec {n0 i0 : Nat} {Q : Bool -> H -> Prop} (v : FS h0 hk h n s G) (hn : n0 <= G.length) (hn0 : n0 < 1000000) (hi : i0 < 1000000) (ne : ∀ j, j < n0 -> (g G j).R ≠ []) (k : ∀ h', FS h0 hk h' n s (dn ltF (n0 - i0) G n0 i0).1 -> ∀ b, Q b h') :
    F.xaa (some ⟨n, 0, none⟩) (i0 : Int) (n0 : Int) h Q := by
  unfold F.xaa
  exact ⟨n0 - i0 + 1, down_loop (n0 - i0) i0 h G hn hn0 hi (Nat.le_refl _) v ne fun h' v' => k h' v' _⟩
end
section
variable {h0 hk h h' : H} {n : Nat} {s : Sl} {G : List Fr}
abbrev Heap (G : List Fr) : Prop := HP ltF G G.length 0
theorem Init_loop {Q : H -> Prop} : ∀ (m : Nat) (i : Nat) (h : H) (G : List Fr), G.length < 1000000 -> i <= G.length / 2 -> i < m -> FS h0 hk h n s G -> (∀ f ∈ G, f.R ≠ []) -> HP ltF G G.length i ->
    (∀ h' G', FS h0 hk h' n s G' -> G'.Perm G -> Heap G' -> Q h') -> F.xbg.l1 Q m (some ⟨n, 0, none⟩) (G.length : Int) ((i : Int) - 1) h := by
  intro m
  induction m with
  | zero => intro i h G _ _ hm; omega
  | succ m ih =>
    intro i h G hn hi hm v ne hp k
    unfold F.xbg.l1
    refine ⟨fun g => ?_, fun g => ?_⟩
    · have hi0 : 0 < i := by simp at g; omega
      have e1 : ((i : Int) - 1) = ((i - 1 : Nat) : Int) := by omega
      rw [e1]
      have law := dn_law ltF_ord (G.length - (i - 1)) G G.length (i - 1) (i - 1) (Nat.le_refl _) (by omega) (Nat.le_refl _) (Nat.le_refl _) (fun c c0 cn cs cp => hp c c0 cn (by omega)) (fun c c0 cn cp c1 c2 => by omega)
      refine down_spec v (Nat.le_refl _) hn (by omega) (fun j hj => ne _ (List.mem_of_getElem? (g_mem hj))) fun h1 v1 b => ?_
      rw [w64 (by omega) (by omega)]
      obtain ⟨r1, r2, r3, r4⟩ := law
      have := ih (i - 1) h1 (dn ltF (G.length - (i - 1)) G G.length (i - 1)).1 (by rw [r3]; exact hn) (by rw [r3]; omega) (by omega) v1 (fun f hf => ne f (r2.mem_iff.1 hf)) (by rw [r3]; exact r1) fun h' G' v' p' hp' => k h' G' v' (p'.trans r2) hp'
      rw [r3] at this
      exact this
    · have : i = 0 := by simp at g; omega
      subst this
      exact k h G v (.refl _) hp
theorem tdiv2 {a : Nat} : Int.tdiv (a : Int) 2 = ((a / 2 : Nat) : Int) := by
  rw [Int.tdiv_eq_ediv_of_nonneg (by omega)]; omega
theorem Init_spec {Q : H -> Prop} (v : FS h0 hk h n s G) (ne : ∀ f ∈ G, f.R ≠ []) (hn : G.length < 1000000) (k : ∀ h' G', FS h0 hk h' n s G' -> G'.Perm G -> Heap G' -> Q h') : F.xbg (some ⟨n, 0, none⟩) h Q := by
  unfold F.xbg
  refine ⟨_, rfl, v.ldv ?_⟩
  unfold F.xbn
  have hl := own_len cF_len (by omega) v.own
  rw [List.length_map] at hl
  rw [hl]
  refine ⟨by decide, G.length / 2 + 1, ?_⟩
  rw [tdiv2, w64 (n := ((G.length / 2 : Nat) : Int)) (by omega) (by omega), w64 (by omega) (by omega)]
  exact Init_loop (G.length / 2 + 1) (G.length / 2) h G hn (by omega) (by omega) v ne (fun c c0 cn cs => by omega) k
theorem Pop_method {Q : Value -> H -> Prop} (v : FS h0 hk h n s G) (hG : 0 < G.length) (hn : G.length < 1000000) (k : ∀ u h' s', FS h0 hk h' n s' G.dropLast -> Q u h') : F.xcm (some ⟨n, 0, none⟩) h Q := by
  unfold F.xcm
  have hl := own_len cF_len (by omega) v.own
  rw [List.length_map] at hl
  refine ⟨_, rfl, v.ldv ?_⟩
  rw [hl, w64 (by omega) (by omega)]
  have e1 : ((G.length : Int) - 1) = ((G.length - 1 : Nat) : Int) := by omega
  rw [e1]
  refine v.at (by omega) fun a1 d1 => ⟨_, d1, ?_⟩
  refine new_of fun m h1 hm b1 x1 s1 => ?_
  refine stH_of b1 (by simp [S_merge_front.cells]) fun h2 b2 o2 s2 => ?_
  rw [writeA_all (by simp [S_merge_front.cells])] at b2
  have x2 : Ext h h2 := x1.step o2 fun y hy e => by omega
  have v2 := v.e x2
  have hcap : s.len <= s.cap ∧ s.cap <= maxLen ∧ ∃ b, s.ptr = some ⟨b, 0, none⟩ := by
    obtain ⟨_, ⟨q1, q2, q3⟩ | ⟨b', c', q1, q2, q3, q4, q5, q6⟩⟩ := v.own
    · omega
    · exact ⟨q4, q5, b', q1⟩
  refine ⟨slcut s 0 (G.length - 1) 2, ⟨by omega, by omega, by omega, by simp⟩, ⟨_, rfl, ?_⟩⟩
  refine stH_of v2.var (by simp) fun h3 b3 o3 s3 => ?_
  rw [writeA_all (by simp)] at b3
  have hmn : m ≠ n := by have := block_lt v.var; omega
  have b2' : Blk h3 m _ _ := o3.block b2 (fun e => hmn e)
  refine ⟨_, fun j u hu => by rw [add_lit, Nat.zero_add]; exact b2'.cell (by simpa using hu), ?_⟩
  have hnb : s.blk ≠ some n := fun hb => by
    obtain ⟨_, ⟨q1, q2, q3⟩ | ⟨b', c', q1, q2, _⟩⟩ := v2.own
    · simp [Sl.blk, q1] at hb
    · simp [Sl.blk, q1] at hb
      subst hb
      have := v2.var
      unfold Blk at q2 this
      rw [q2] at this; cases this
  have hb0 := hcap.2.2
  obtain ⟨b, hb⟩ := hb0
  have hcut : slcut s 0 (G.length - 1) 2 = ⟨some ⟨b, 0, none⟩, G.length - 1, s.cap⟩ := by
    unfold slcut
    rw [if_neg (by omega), hb]
    simp [add_lit]
  rw [hcut] at b3
  have w2 := v2.own
  refine k _ h3 _ ⟨b3, ?_, fun y hy => v.mine y (by simp [Sl.blk] at hy ⊢; simp [hb, hy]), v.lo, v2.ext.step o3 fun y hy e => by have := v.lo; omega, fun f hf => v.rows f (List.dropLast_subset _ hf), v2.kp.blk o3 v2.var (.inr rfl)⟩
  have w3 := w2.only o3 fun y hy e => hnb (by rw [← e]; exact hy)
  obtain ⟨r1, ⟨q1, q2, q3⟩ | ⟨b', c', q1, q2, q3, q4, q5, q6⟩⟩ := w3
  · omega
  · rw [hb] at q1
    cases q1
    have hfl : ((G.map (·.f)).flatMap cF).length = G.length * 2 := by rw [flat_len _ 2 cF_len]; simp
    have hdl : ((G.dropLast.map (·.f)).flatMap cF) = ((G.map (·.f)).flatMap cF).take ((G.length - 1) * 2) := by
      have hne : G ≠ [] := by intro e; subst e; simp at hG
      have hGs := List.dropLast_concat_getLast hne
      have hfd : ((G.dropLast.map (·.f)).flatMap cF).length = (G.length - 1) * 2 := by rw [flat_len _ 2 cF_len]; simp
      have e : ((G.map (·.f)).flatMap cF) = ((G.dropLast.map (·.f)).flatMap cF) ++ (([G.getLast hne].map (·.f)).flatMap cF) := by rw [← List.flatMap_append, ← List.map_append, hGs]
      rw [e, List.take_left' hfd]
    refine ⟨by rw [hdl]; simp [hfl], .inr ⟨b, c', rfl, q2, q3, by show G.length - 1 <= s.cap; omega, q5, ?_⟩⟩
    rw [hdl, List.length_take, hfl, Nat.min_eq_left (by omega)]
    rw [hfl] at q6
    rw [← q6, List.take_take, Nat.min_eq_left (by omega)]
theorem dropLast_g {A : List Fr} {c : Nat} (h : c < A.length - 1) : g A.dropLast c = g A c := by
  simp only [g, List.getD_eq_getElem?_getD]
  rw [List.getElem?_dropLast, if_pos h]
theorem Pop_spec {Q : Value -> H -> Prop} (v : FS h0 hk h n s G) (hG : 0 < G.length) (hn : G.length < 1000000) (hp : ∀ c, 0 < c -> c < G.length -> (c - 1) / 2 ≠ 0 -> ltF (g G c) (g G ((c - 1) / 2)) = false) (ne : ∀ j, 0 < j -> j < G.length -> (g G j).R ≠ [])
    (k : ∀ u h' s' G', FS h0 hk h' n s' G' -> (g G 0 :: G').Perm G -> Heap G' -> Q u h') : F.xck (some ⟨n, 0, none⟩) h Q := by
  unfold F.xck
  have hl := own_len cF_len (by omega) v.own
  rw [List.length_map] at hl
  refine ⟨_, rfl, v.ldv ?_⟩
  unfold F.xbn
  rw [hl]
  refine ⟨_, rfl, v.ldv ?_⟩
  rw [w64 (by omega) (by omega)]
  have e1 : ((G.length : Int) - 1) = ((G.length - 1 : Nat) : Int) := by omega
  rw [e1]
  have q0 : (0 : Int) = ((0 : Nat) : Int) := rfl
  rw [q0]
  refine Swap_spec v (by omega) (by omega) fun h1 v1 => ?_
  have hgs : ∀ k, g (swp G 0 (G.length - 1)) k = if k = G.length - 1 then g G 0 else if k = 0 then g G (G.length - 1) else g G k := fun k => g_swp (by omega) (by omega)
  have hsl := swp_len G 0 (G.length - 1)
  have key : ∀ (A : List Fr), A.length = G.length -> A.Perm (swp G 0 (G.length - 1)) -> (∀ c, G.length - 1 <= c -> g A c = g (swp G 0 (G.length - 1)) c) -> HP ltF A (G.length - 1) 0 -> (g G 0 :: A.dropLast).Perm G ∧ Heap A.dropLast := by
    intro A hA hperm hback hhp
    constructor
    · have hne : A ≠ [] := by intro e; rw [e] at hA; simp at hA; omega
      have hlast : A.getLast hne = g G 0 := by
        have : g A (G.length - 1) = g G 0 := by rw [hback _ (Nat.le_refl _), hgs, if_pos rfl]
        rw [List.getLast_eq_getElem, ← this]
        simp [g, List.getD_eq_getElem?_getD, hA, hG]
        rw [List.getElem?_eq_getElem (by omega)]; rfl
      have h1 : (A.dropLast ++ [g G 0]).Perm G := by
        rw [← hlast, List.dropLast_concat_getLast hne]
        exact hperm.trans (swp_perm (by omega) (by omega))
      exact (List.perm_append_singleton _ _).symm.trans h1
    · intro c c0 cn cs
      rw [List.length_dropLast, hA] at cn
      rw [dropLast_g (by omega), dropLast_g (by omega)]
      exact hhp c c0 cn cs
  refine down_spec v1 (by omega) (by omega) (by omega) (fun j hj => by
    rw [hgs, if_neg (by omega)]
    split
    · exact ne _ (by omega) (by omega)
    · exact ne j (by omega) (by omega)) fun h2 v2 b => ?_
  by_cases h1n : G.length = 1
  · have hd : (dn ltF (G.length - 1 - 0) (swp G 0 (G.length - 1)) (G.length - 1) 0).1 = swp G 0 (G.length - 1) := by
      rw [h1n]; rfl
    rw [hd] at v2
    obtain ⟨r1, r2⟩ := key _ hsl (.refl _) (fun _ _ => rfl) (fun c c0 cn cs => by omega)
    exact Pop_method v2 (by omega) (by omega) fun u h3 s3 v3 => k u h3 s3 _ v3 r1 r2
  · obtain ⟨r1, r2, r3, r4⟩ := dn_law ltF_ord (G.length - 1 - 0) (swp G 0 (G.length - 1)) (G.length - 1) 0 0 (by omega) (by omega) (Nat.le_refl _) (by omega) (fun c c0 cn cs cp => by
      rw [hgs, hgs, if_neg (by omega), if_neg (by omega), if_neg (by omega), if_neg (by omega)]
      exact hp c c0 (by omega) cp) (fun c c0 cn cp c1 c2 => by omega)
    obtain ⟨t1, t2⟩ := key _ (by omega) r2 r4 r1
    exact Pop_method v2 (by omega) (by omega) fun u h3 s3 v3 => k u h3 s3 _ v3 t1 t2
theorem Fix_spec {Q : H -> Prop} (v : FS h0 hk h n s G) (hG : 0 < G.length) (hn : G.length < 1000000) (ne : ∀ f ∈ G, f.R ≠ []) (h1 : ∀ c, 0 < c -> c < G.length -> (c - 1) / 2 ≠ 0 -> ltF (g G c) (g G ((c - 1) / 2)) = false)
    (k : ∀ h' G', FS h0 hk h' n s G' -> G'.Perm G -> Heap G' -> Q h') : F.xca (some ⟨n, 0, none⟩) 0 h Q := by
  unfold F.xca
  have hl := own_len cF_len (by omega) v.own
  rw [List.length_map] at hl
  refine ⟨_, rfl, v.ldv ?_⟩
  unfold F.xbn
  rw [hl]
  have q0 : (0 : Int) = ((0 : Nat) : Int) := rfl
  rw [q0]
  obtain ⟨r1, r2, r3, r4⟩ := dn_law ltF_ord (G.length - 0) G G.length 0 0 (Nat.le_refl _) hG (Nat.le_refl _) (by omega) (fun c c0 cn cs cp => h1 c c0 cn cp) (fun c c0 cn cp c1 c2 => by omega)
  refine down_spec v (Nat.le_refl _) hn (by omega) (fun j hj => ne _ (List.mem_of_getElem? (g_mem hj))) fun h2 v2 b => ?_
  have kk := k h2 _ v2 r2 (by unfold Heap; rw [r3]; exact r1)
  refine ⟨fun _ => ?_, fun _ => kk⟩
  unfold F.xal
  refine ⟨1, ?_⟩
  unfold F.xal.l1
  refine ⟨by decide, fun _ => ?_, fun g => absurd g (by decide)⟩
  unfold F.xal.j3
  exact ⟨fun _ => kk, fun g => (by cases g)⟩
end
theorem el_fronts : El PP tn_merge_fronts tn_merge_front 2 32 (.agg (⟨(⟨none, 0, 0⟩ : Sl), 0⟩ : S_merge_front).cells.toArray) := el_merge_fronts
theorem tk_snoc {α : Type} {l : List α} {i : Nat} {x : α} (h : l[i]? = some x) : l.take (i + 1) = l.take i ++ [x] := by rw [List.take_add_one, h]; rfl
def leC (a b : Rw8) : Bool := decide (cmpC a.Cell b.Cell <= 0)
abbrev mR (Ls : List (List Rw8)) : List Rw8 := mAll leC Ls
structure GR (G : List Fr) (Rem : List (List Rw8)) : Prop where
  a : ∀ f ∈ G, ∃ k : Nat, f.f.list = (k : Int) ∧ Rem[k]? = some f.R ∧ f.R ≠ []
  b : ∀ (k : Nat) R, Rem[k]? = some R -> R ≠ [] -> ∃ f ∈ G, f.f.list = (k : Int) ∧ f.R = R
  nd : (G.map (·.f.list)).Nodup
  cap : ∀ f ∈ G, f.f.rows.len <= f.f.rows.cap
theorem GR.perm {G G' : List Fr} {Rem : List (List Rw8)} (r : GR G Rem) (p : G'.Perm G) : GR G' Rem :=
  ⟨fun f hf => r.a f (p.mem_iff.1 hf), fun k R h1 h2 => by obtain ⟨f, hf, h⟩ := r.b k R h1 h2; exact ⟨f, p.mem_iff.2 hf, h⟩, (p.map _).nodup_iff.2 r.nd, fun f hf => r.cap f (p.mem_iff.1 hf)⟩
theorem GR.ne {G : List Fr} {Rem : List (List Rw8)} (r : GR G Rem) : ∀ f ∈ G, f.R ≠ [] := fun f hf => by obtain ⟨k, _, _, h⟩ := r.a f hf; exact h
theorem GR.snoc {G : List Fr} {Rem : List (List Rw8)} {s : Sl} {R : List Rw8} (r : GR G Rem) (hR : R ≠ []) (hc : s.len <= s.cap) : GR (G ++ [⟨⟨s, (Rem.length : Int)⟩, R⟩]) (Rem ++ [R]) := by
  refine ⟨fun f hf => ?_, fun k R' h1 h2 => ?_, ?_, fun f hf => ?_⟩
  · rcases List.mem_append.1 hf with hf | hf
    · obtain ⟨k, h1, h2, h3⟩ := r.a f hf
      exact ⟨k, h1, by rw [List.getElem?_append_left (List.getElem?_eq_some_iff.1 h2).1]; exact h2, h3⟩
    · simp at hf; subst hf
      exact ⟨Rem.length, rfl, by simp, hR⟩
  · by_cases hk : k < Rem.length
    · rw [List.getElem?_append_left hk] at h1
      obtain ⟨f, hf, h⟩ := r.b k R' h1 h2
      exact ⟨f, by simp [hf], h⟩
    · have hkl := (List.getElem?_eq_some_iff.1 h1).1
      simp at hkl
      have : k = Rem.length := by omega
      subst this
      simp at h1; subst h1
      exact ⟨⟨⟨s, (Rem.length : Int)⟩, R⟩, by simp, rfl, rfl⟩
  · rw [List.map_append, List.nodup_append]
    refine ⟨r.nd, by simp, fun a ha b hb => ?_⟩
    simp only [List.map_cons, List.map_nil, List.mem_singleton] at hb
    subst hb
    obtain ⟨f, hf, rfl⟩ := List.mem_map.1 ha
    obtain ⟨k, h1, h2, _⟩ := r.a f hf
    have := (List.getElem?_eq_some_iff.1 h2).1
    omega
  · rcases List.mem_append.1 hf with hf | hf
    · exact r.cap f hf
    · simp at hf; subst hf; exact hc
theorem GR.skip {G : List Fr} {Rem : List (List Rw8)} (r : GR G Rem) : GR G (Rem ++ [[]]) := by
  refine ⟨fun f hf => ?_, fun k R' h1 h2 => ?_, r.nd, r.cap⟩
  · obtain ⟨k, h1, h2, h3⟩ := r.a f hf
    exact ⟨k, h1, by rw [List.getElem?_append_left (List.getElem?_eq_some_iff.1 h2).1]; exact h2, h3⟩
  · by_cases hk : k < Rem.length
    · rw [List.getElem?_append_left hk] at h1
      exact r.b k R' h1 h2
    · have hkl := (List.getElem?_eq_some_iff.1 h1).1
      simp at hkl
      have : k = Rem.length := by omega
      subst this
      simp at h1
      exact (h2 h1).elim
theorem GR.pick {G : List Fr} {Rem : List (List Rw8)} (r : GR G Rem) (hG : 0 < G.length) (hp : Heap G) : ∃ (k : Nat) (x : Rw8) (t : List Rw8), (g G 0).f.list = (k : Int) ∧ Rem[k]? = some (x :: t) ∧ (g G 0).R = x :: t ∧ mR Rem = x :: mR (Rem.set k t) := by
  have hm := List.mem_of_getElem? (g_mem hG)
  obtain ⟨k, h1, h2, h3⟩ := r.a _ hm
  obtain ⟨x, t, hx⟩ : ∃ x t, (g G 0).R = x :: t := by
    cases hR : (g G 0).R with
    | nil => exact absurd hR h3
    | cons x t => exact ⟨x, t, rfl⟩
  have hroot := hp_root ltF_ord hp
  have other : ∀ (j : Nat) y s, Rem[j]? = some (y :: s) -> ¬ (cmpC y.Cell x.Cell = -1 ∨ (cmpC y.Cell x.Cell = 0 ∧ (j : Int) < (k : Int))) := fun j y s hj hlt => by
    obtain ⟨f, hf, e1, e2⟩ := r.b j _ hj (by simp)
    obtain ⟨c, hc⟩ := List.mem_iff_getElem?.1 hf
    have hcl := (List.getElem?_eq_some_iff.1 hc).1
    have hgc : g G c = f := by
      have := g_mem hcl; rw [hc] at this; exact (Option.some.inj this).symm
    have := hroot c hcl
    rw [hgc] at this
    have hn : ¬ ltF f (g G 0) = true := by rw [this]; simp
    rw [ltF_iff, e1, h1] at hn
    have d1 : hdF f = y := by unfold hdF; rw [e2]; rfl
    have d2 : hdF (g G 0) = x := by unfold hdF; rw [hx]; rfl
    rw [d1, d2] at hn
    exact hn hlt
  refine ⟨k, x, t, h1, by rw [h2, hx], hx, mAll_pick (by rw [h2, hx]) (fun j y s hj hy => ?_) (fun j y s hj hy => ?_)⟩
  · have := other j y s hy
    have hr := cC_range y.Cell x.Cell
    unfold leC
    exact decide_eq_false (by omega)
  · have := other j y s hy
    have hr := cC_range y.Cell x.Cell
    have ha := cC_anti y.Cell x.Cell
    unfold leC
    exact decide_eq_true (by omega)
theorem GR.turn {G : List Fr} {Rem : List (List Rw8)} {k : Nat} {x : Rw8} {t : List Rw8} {s : Sl} (r : GR G Rem) (hG : 0 < G.length) (h1 : (g G 0).f.list = (k : Int)) (h2 : Rem[k]? = some (x :: t)) (ht : t ≠ []) (hc : s.len <= s.cap) : GR (G.set 0 ⟨⟨s, (k : Int)⟩, t⟩) (Rem.set k t) := by
  have hkl := (List.getElem?_eq_some_iff.1 h2).1
  have hm0 := g_mem hG
  have uniq : ∀ c, c < G.length -> (g G c).f.list = (k : Int) -> c = 0 := fun c hc he => by
    have a1 : (G.map (·.f.list))[0]? = some (k : Int) := by rw [List.getElem?_map, hm0]; simp only [Option.map_some, h1]
    have a2 : (G.map (·.f.list))[c]? = some (k : Int) := by rw [List.getElem?_map, g_mem hc]; simp only [Option.map_some, he]
    exact ((List.getElem?_inj (by simpa using hc) r.nd).1 (a2.trans a1.symm))
  refine ⟨fun f hf => ?_, fun j R' g1 g2 => ?_, ?_, fun f hf => ?_⟩
  · obtain ⟨c, hc⟩ := List.mem_iff_getElem?.1 hf
    rw [List.getElem?_set] at hc
    by_cases e : 0 = c
    · rw [if_pos e, if_pos hG] at hc; cases hc
      exact ⟨k, rfl, by simp [hkl], ht⟩
    · rw [if_neg e] at hc
      have hcl := (List.getElem?_eq_some_iff.1 hc).1
      obtain ⟨j, q1, q2, q3⟩ := r.a f (List.mem_of_getElem? hc)
      have hgc : g G c = f := by have := g_mem hcl; rw [hc] at this; exact (Option.some.inj this).symm
      refine ⟨j, q1, ?_, q3⟩
      rw [List.getElem?_set, if_neg (fun e2 => e (uniq c hcl (by rw [hgc, q1, e2])).symm)]; exact q2
  · rw [List.getElem?_set] at g1
    by_cases e : k = j
    · subst e
      rw [if_pos rfl, if_pos hkl] at g1; cases g1
      exact ⟨_, List.mem_iff_getElem?.2 ⟨0, by rw [List.getElem?_set, if_pos rfl, if_pos hG]⟩, rfl, rfl⟩
    · rw [if_neg e] at g1
      obtain ⟨f, hf, q1, q2⟩ := r.b j R' g1 g2
      obtain ⟨c, hc⟩ := List.mem_iff_getElem?.1 hf
      have hcl := (List.getElem?_eq_some_iff.1 hc).1
      have hgc : g G c = f := by have := g_mem hcl; rw [hc] at this; exact (Option.some.inj this).symm
      refine ⟨f, List.mem_iff_getElem?.2 ⟨c, ?_⟩, q1, q2⟩
      rw [List.getElem?_set, if_neg (fun e2 => ?_)]
      · exact hc
      · subst e2; rw [hgc, q1] at h1; omega
  · have : (G.set 0 ⟨⟨s, (k : Int)⟩, t⟩).map (·.f.list) = G.map (·.f.list) := by
      rw [List.map_set]
      apply List.ext_getElem?; intro c
      rw [List.getElem?_set]
      by_cases e : 0 = c
      · subst e
        rw [if_pos rfl, if_pos (by simpa using hG), List.getElem?_map, hm0]; simp only [Option.map_some, h1]
      · rw [if_neg e]
    rw [this]; exact r.nd
  · rcases List.mem_or_eq_of_mem_set hf with hf | rfl
    · exact r.cap f hf
    · exact hc
theorem GR.gone {G G' : List Fr} {Rem : List (List Rw8)} {k : Nat} {x : Rw8} {f0 : Fr} (r : GR G Rem) (hG : 0 < G.length) (h1 : (g G 0).f.list = (k : Int)) (h2 : Rem[k]? = some [x]) (p : (f0 :: G').Perm (G.set 0 f0)) : GR G' (Rem.set k []) := by
  have hkl := (List.getElem?_eq_some_iff.1 h2).1
  obtain ⟨a, G1, rfl⟩ : ∃ a G1, G = a :: G1 := by
    cases G with
    | nil => simp at hG
    | cons a G1 => exact ⟨a, G1, rfl⟩
  have hp : G'.Perm G1 := by
    have : (f0 :: G').Perm (f0 :: G1) := p
    exact this.cons_inv
  have h1' : a.f.list = (k : Int) := h1
  have nd := r.nd
  simp only [List.map_cons, List.nodup_cons] at nd
  have r1 : GR G1 (Rem.set k []) := by
    refine ⟨fun f hf => ?_, fun j R' g1 g2 => ?_, nd.2, fun f hf => r.cap f (by simp [hf])⟩
    · obtain ⟨j, q1, q2, q3⟩ := r.a f (by simp [hf])
      refine ⟨j, q1, ?_, q3⟩
      rw [List.getElem?_set, if_neg (fun e => nd.1 (List.mem_map.2 ⟨f, hf, by rw [q1, ← e, h1']⟩))]; exact q2
    · rw [List.getElem?_set] at g1
      by_cases e : k = j
      · subst e
        rw [if_pos rfl, if_pos hkl] at g1; cases g1
        exact absurd rfl g2
      · rw [if_neg e] at g1
        obtain ⟨f, hf, q1, q2⟩ := r.b j R' g1 g2
        rcases List.mem_cons.1 hf with rfl | hf
        · rw [h1'] at q1; omega
        · exact ⟨f, hf, q1, q2⟩
  exact r1.perm hp
theorem GR.nil {Rem : List (List Rw8)} (r : GR [] Rem) : mR Rem = [] := mAll_none fun l hl => by
  obtain ⟨k, hk⟩ := List.mem_iff_getElem?.1 hl
  cases hl2 : l with
  | nil => rfl
  | cons a t =>
    obtain ⟨f, hf, _⟩ := r.b k l hk (by rw [hl2]; simp)
    cases hf
abbrev cS8 (s : Sl) : List Value := [s.enc]
theorem cS8_len (s : Sl) : (cS8 s).length = 1 := rfl
section
variable {h0 hk h h' : H} {n : Nat} {s : Sl} {G : List Fr}
theorem FS.put {hk2 : H} {s' : Sl} {G' : List Fr} {K : H -> Prop} (v : FS h0 hk h n s G) (w : Owns h' s' tn_merge_front 2 ((G'.map (·.f)).flatMap cF)) (b : Blk h' n #[s.enc] tn_merge_fronts) (e : Ext h0 h') (m : Mine h0 s') (hr : ∀ f ∈ G', f.R ≠ [] -> Reads h0 f.f.rows 7 (f.R.flatMap cW)) (kp : Keep hk2 h')
    (k : ∀ h2, FS h0 hk2 h2 n s' G' -> Only (· = n) h' h2 -> K h2) : stH h' ⟨n, 0, none⟩ [s'.enc] K := by
  refine stH_of b (by simp) fun h2 b2 o2 s2 => k h2 ⟨?_, w.only o2 fun y hy hf => own_ne w b (by decide) (by rw [hy, hf]), m, v.lo, e.step o2 fun y hy hf => by have := v.lo; omega, hr, kp.blk o2 b (.inr rfl)⟩ o2
  rw [writeA_all (by simp)] at b2; exact b2
theorem FS.re (v : FS h0 hk h n s G) : FS h0 h h n s G := ⟨v.var, v.own, v.mine, v.lo, v.ext, v.rows, .refl _⟩
theorem root_row (v : FS h0 hk h n s G) (hG : 0 < G.length) {x : Rw8} {t : List Rw8} (hx : (g G 0).R = x :: t) {K : Rw8 -> Prop} (k : K x) : idxA (g G 0).f.rows 0 7 fun a => ld_S_api_Row h a K := by
  have rd := v.rows _ (List.mem_of_getElem? (g_mem hG)) (by rw [hx]; simp)
  have rd' := rd.only v.ext fun _ _ f => f
  rw [hx] at rd'
  obtain ⟨p, p1, p2, p3⟩ := rd_at cW_len (by omega) rd' (i := 0) (x := x) rfl
  have hl := rd_len cW_len (by omega) rd'
  exact idxR_of (i := 0) p1 (by rw [hl]; simp) rfl ⟨x, p3, k⟩
theorem Rows_main {n : Nat} {most : Int} {All : List Rw8} {Q : Sl -> H -> Prop} (hA : All.length < 100000)
    (k : ∀ r h', Owns h' r tn_api_Row 7 ((All.take most.toNat).flatMap cW) -> Mine h0 r -> Ext h0 h' -> Q r h') : ∀ (d : Nat) (h : H) (s : Sl) (G : List Fr) (Rem : List (List Rw8)) (r : Sl) (out : List Rw8), (mR Rem).length < d -> FS h0 h h n s G -> G.length < 100000 -> Heap G -> GR G Rem ->
    Owns h r tn_api_Row 7 (out.flatMap cW) -> Mine h0 r -> out ++ mR Rem = All -> out.length <= most.toNat -> F.xag.l2 Q d most ⟨n, 0, none⟩ r h := by
  intro d
  induction d with
  | zero => intro h s G Rem r out hm; omega
  | succ d ih =>
    intro h s G Rem r out hm v hGl hp gr w m hall hout
    have hl := own_len cF_len (by omega) v.own
    rw [List.length_map] at hl
    have hlr := own_len cW_len (by omega) w
    have hol : out.length <= All.length := by rw [← hall]; simp
    unfold F.xag.l2
    refine v.ldv ?_
    simp only [decide_eq_true_eq, decide_eq_false_iff_not]
    rw [hl]
    refine ⟨fun gg => ?_, fun gg => ?_⟩
    · have hG : 0 < G.length := by omega
      unfold F.xag.j4
      refine ⟨fun g2 => ?_, fun g2 => ?_⟩
      · have hlt : out.length < most.toNat := by rw [hlr] at g2; simp at g2; omega
        obtain ⟨kk, x, t, h1, h2, h3, h4⟩ := gr.pick hG hp
        have hkl := (List.getElem?_eq_some_iff.1 h2).1
        unfold F.xag.j3
        have c0 : ∀ {hh : H} {a : Addr} {y : S_merge_front}, Cells hh a (cF y) -> cellH hh (a.add 0) = some y.rows.enc := fun c => c 0 _ rfl
        have q0 : (0 : Int) = ((0 : Nat) : Int) := rfl
        refine v.ldv ?_
        conv in idxA s 0 2 => rw [q0]
        refine v.at hG fun a1 d1 => (ldL_iff (c0 d1)).2 (root_row v hG h3 ?_)
        refine newL_of fun m1 h5 hm1 b5 e5 s5 => ?_
        have r5 : Reads h5 ⟨some ⟨m1, 0, none⟩, 1, 1⟩ 7 ([x].flatMap cW) := blk_reads (by simpa using b5) rfl
        refine app_list (L := out) (M := [x]) cW_len (by omega) el_Slapi_Row (w.ext e5) r5 (fun x => ones_S_api_Row x) (by simp only [List.length_singleton]; omega) fun r6 h6 w6 o6 n6 => ?_
        have hs5 := e5.size
        have m6 : Mine h0 r6 := fun y hy => by
          rcases n6 with n6 | ⟨b', n6, n7⟩
          · exact m y (by rw [← n6]; exact hy)
          · rw [n6] at hy; cases hy; have := v.ext.size; omega
        have e6 : Ext h0 h6 := (v.ext.trans e5).mine m o6
        have v5 := v.e e5
        have v6 : FS h0 h6 h6 n s G := ⟨o6.block v5.var (fun hb => own_ne (w.ext e5) v5.var (by decide) hb), v5.own.only o6 (fun y hy hb => by
          obtain ⟨_, ⟨q1, q2, q3⟩ | ⟨b', c', q1, q2, _⟩⟩ := v5.own
          · simp [Sl.blk, q1] at hy
          · simp [Sl.blk, q1] at hy
            subst hy
            exact own_ne (w.ext e5) q2 (by decide) hb), v.mine, v.lo, e6, v.rows, .refl _⟩
        refine v6.ldv (v6.ldv ?_)
        conv in idxA s 0 2 => rw [q0]
        refine v6.at hG fun a2 d2 => (ldL_iff (c0 d2)).2 ?_
        have hmem := List.mem_of_getElem? (g_mem hG)
        have rd0 := v.rows _ hmem (by rw [h3]; simp)
        have hrl := rd_len cW_len (by omega) rd0
        have hcap := gr.cap _ hmem
        refine cutL_of (lo := 1) (hi := (g G 0).f.rows.len) rfl rfl (by rw [hrl, h3]; simp) hcap ?_
        have rdc := cut_reads (lo := 1) (hi := (g G 0).f.rows.len) cW_len (by omega) rd0 (by rw [hrl, h3]; simp) (by rw [hrl]; exact Nat.le_refl _) hcap
        have hdrop : (((g G 0).R.drop 1).take ((g G 0).f.rows.len - 1)) = t := by
          rw [h3, hrl, h3]; simp
        rw [hdrop] at rdc
        have hcl : (slcut (g G 0).f.rows 1 (g G 0).f.rows.len 7).len = t.length := rd_len cW_len (by omega) rdc
        have hcc : (slcut (g G 0).f.rows 1 (g G 0).f.rows.len 7).len <= (slcut (g G 0).f.rows 1 (g G 0).f.rows.len 7).cap := by unfold slcut; simp only; omega
        generalize hsc : slcut (g G 0).f.rows 1 (g G 0).f.rows.len 7 = sc at rdc hcl hcc
        -- the root's rows are one less
        obtain ⟨b, p1, p2⟩ := own_at cF_len (by omega) v6.own (i := 0) (x := (g G 0).f) (by rw [List.getElem?_map, g_mem hG]; rfl)
        conv in idxA s 0 2 => rw [q0]
        refine idxA_of (i := 0) p1 (by rw [hl]; exact hG) rfl ?_
        rw [show ((⟨b, 0 * 2, none⟩ : Addr).add 0) = ⟨b, 0, none⟩ from by rw [add_lit]]
        have hfl : ((G.map (·.f)).flatMap cF).length = G.length * 2 := by rw [flat_len _ 2 cF_len]; simp
        refine own_set (o := 0) v6.own p1 (by rw [hfl]; simp; omega) fun h7 w7 o7 s7 => ?_
        have hset : ((G.map (·.f)).flatMap cF).take 0 ++ [sc.enc] ++ ((G.map (·.f)).flatMap cF).drop (0 + [sc.enc].length) = (((G.set 0 ⟨⟨sc, (kk : Int)⟩, t⟩).map (·.f)).flatMap cF) := by
          obtain ⟨a, G1, rfl⟩ : ∃ a G1, G = a :: G1 := by
            cases G with
            | nil => simp at hG
            | cons a G1 => exact ⟨a, G1, rfl⟩
          have h1' : a.f.list = (kk : Int) := h1
          simp [S_merge_front.cells, h1']
        rw [hset] at w7
        have hgs : ∀ c, g (G.set 0 ⟨⟨sc, (kk : Int)⟩, t⟩) c = if 0 = c then ⟨⟨sc, (kk : Int)⟩, t⟩ else g G c := fun c => g_set hG
        have v7 : FS h0 h7 h7 n s (G.set 0 ⟨⟨sc, (kk : Int)⟩, t⟩) := ⟨o7.block v6.var fun hb => own_ne v6.own v6.var (by decide) hb, w7, v.mine, v.lo, e6.mine v.mine o7, fun f hf hR => by
          rcases List.mem_or_eq_of_mem_set hf with hf | rfl
          · exact v.rows f hf hR
          · exact rdc, .refl _⟩
        have w6' : Owns h7 r6 tn_api_Row 7 ((out ++ [x]).flatMap cW) := w6.only o7 fun y hy hb => by
          obtain ⟨_, ⟨q1, q2, q3⟩ | ⟨b', c', q1, q2, _⟩⟩ := w6
          · simp [Sl.blk, q1] at hy
          · simp [Sl.blk, q1] at hy
            subst hy
            exact own_ne v6.own q2 (by decide) hb
        have hlen : (G.set 0 ⟨⟨sc, (kk : Int)⟩, t⟩).length = G.length := by simp
        refine v7.ldv ?_
        conv in idxA s 0 2 => rw [q0]
        refine v7.at (by rw [hlen]; exact hG) fun a3 d3 => ?_
        rw [hgs, if_pos rfl] at d3
        refine (ldL_iff (c0 d3)).2 ?_
        rw [hcl]
        have hrem : (mR (Rem.set kk t)).length < d := by rw [h4] at hm; simp at hm; omega
        have hall' : (out ++ [x]) ++ mR (Rem.set kk t) = All := by rw [List.append_assoc, List.singleton_append, ← h4]; exact hall
        have hp' : ∀ c, 0 < c -> c < (G.set 0 ⟨⟨sc, (kk : Int)⟩, t⟩).length -> (c - 1) / 2 ≠ 0 -> ltF (g (G.set 0 ⟨⟨sc, (kk : Int)⟩, t⟩) c) (g (G.set 0 ⟨⟨sc, (kk : Int)⟩, t⟩) ((c - 1) / 2)) = false := fun c c0 cn cp => by
          rw [hgs, hgs, if_neg (by omega), if_neg (by omega)]
          exact hp c c0 (by rw [hlen] at cn; exact cn) (by omega)
        refine ⟨fun g3 => ?_, fun g3 => ?_⟩
        · have ht : t = [] := List.eq_nil_of_length_eq_zero (by simpa using g3)
          subst ht
          refine Pop_spec v7 (by rw [hlen]; exact hG) (by rw [hlen]; omega) hp' (fun j j0 jn => ?_) fun u h8 s8 G8 v8 p8 hp8 => ?_
          · rw [hgs, if_neg (by omega)]
            exact gr.ne _ (List.mem_of_getElem? (g_mem (by rw [hlen] at jn; exact jn)))
          · rw [hgs, if_pos rfl] at p8
            have gr8 := gr.gone hG h1 h2 p8
            have hl8 : G8.length + 1 = G.length := by have := p8.length_eq; simp at this; omega
            refine ih h8 s8 G8 (Rem.set kk []) r6 (out ++ [x]) hrem v8.re (by omega) hp8 gr8 (v8.kp.w w6' (by decide) (by decide)) m6 hall' (by simp; omega)
        · have ht : t ≠ [] := fun e => by subst e; simp at g3
          have gr7 := gr.turn hG h1 h2 ht hcc
          refine Fix_spec v7 (by rw [hlen]; exact hG) (by rw [hlen]; omega) gr7.ne hp' fun h8 G8 v8 p8 hp8 => ?_
          have hl8 : G8.length = G.length := by have := p8.length_eq; simp at this; omega
          refine ih h8 s G8 (Rem.set kk t) r6 (out ++ [x]) hrem v8.re (by omega) hp8 (gr7.perm p8) (v8.kp.w w6' (by decide) (by decide)) m6 hall' (by simp; omega)
      · have : out.length = most.toNat := by rw [hlr] at g2; simp at g2; omega
        refine k r h ?_ m v.ext
        rw [← hall, ← this, List.take_left']
        · exact w
        · rfl
    · have hG : G = [] := List.eq_nil_of_length_eq_zero (by omega)
      subst hG
      have hnil := gr.nil
      unfold F.xag.j4
      refine ⟨fun g2 => (by cases g2), fun _ => k r h ?_ m v.ext⟩
      rw [hnil, List.append_nil] at hall
      rw [← hall, List.take_of_length_le hout]; exact w
end
theorem w64s {n : Nat} (h : n < 9000000000000000000) : IntKind.wrap .i64 ((n : Int) + 1) = ((n + 1 : Nat) : Int) := by rw [w64 (by omega) (by omega)]; omega
section
variable {h0 h h' : H}
structure TB (h : H) (p : Sl) (ss : List Sl) (Ls : List (List Rw8)) : Prop where
  tb : Reads h p 1 (ss.flatMap cS8)
  len : ss.length = Ls.length
  row : ∀ (i : Nat) s R, ss[i]? = some s -> Ls[i]? = some R -> Reads h s 7 (R.flatMap cW) ∧ s.len <= s.cap
theorem TB.at {p : Sl} {ss : List Sl} {Ls : List (List Rw8)} (t : TB h0 p ss Ls) (e : Ext h0 h) {i : Nat} {s : Sl} (hs : ss[i]? = some s) {K : Sl -> Prop} (k : K s) : idxA p (i : Int) 1 fun a => ldL h a K := by
  obtain ⟨q, r1, r2, r3⟩ := rd_at cS8_len (by omega) (t.tb.only e fun _ _ f => f) hs
  have hl := rd_len cS8_len (by omega) t.tb
  exact idxR_of (i := i) r1 (by have := (List.getElem?_eq_some_iff.1 hs).1; omega) rfl ((ldL_iff r3.one).2 k)
theorem Rows_spec {most : Int} {p1 : Sl} {ss : List Sl} {Ls : List (List Rw8)} {Q : Sl -> H -> Prop} (t : TB h p1 ss Ls) (hs : ss.length < 90000) (hn : (mR Ls).length < 100000)
    (k : ∀ r h', Owns h' r tn_api_Row 7 (((mR Ls).take most.toNat).flatMap cW) -> Mine h r -> Ext h h' -> Q r h') : F.xag most p1 h Q := by
  unfold F.xag
  have hl := rd_len cS8_len (by omega) t.tb
  refine new_of fun n h1 hn1 b1 e1 s1 => ⟨ss.length + 1, ?_⟩
  rw [hl]
  have key : ∀ (d i : Nat) (h' : H) (s : Sl) (G : List Fr), i <= ss.length -> ss.length - i < d -> FS h h' h' n s G -> GR G (Ls.take i) -> G.length <= i -> F.xag.l1 Q d most ⟨n, 0, none⟩ p1 (ss.length : Int) (i : Int) h' := by
    intro d
    induction d with
    | zero => intro i h' s G _ hm; omega
    | succ d ih =>
      intro i h' s G hi hm v gr hGi
      have hlG := own_len cF_len (by omega) v.own
      rw [List.length_map] at hlG
      unfold F.xag.l1
      simp only [decide_eq_true_eq, decide_eq_false_iff_not]
      refine ⟨fun gg => ?_, fun gg => ?_⟩
      · obtain ⟨sl, hsl⟩ : ∃ sl, ss[i]? = some sl := ⟨_, List.getElem?_eq_getElem (by omega)⟩
        obtain ⟨R, hR⟩ : ∃ R, Ls[i]? = some R := ⟨_, List.getElem?_eq_getElem (by have := t.len; omega)⟩
        obtain ⟨rd, hcap⟩ := t.row i sl R hsl hR
        have hlr := rd_len cW_len (by omega) rd
        have hli : (Ls.take i).length = i := by have := t.len; rw [List.length_take]; omega
        refine t.at v.ext hsl ?_
        refine ⟨fun g2 => v.ldv ?_, fun g2 => ?_⟩
        · have hRn : R ≠ [] := fun e => by subst e; rw [hlr] at g2; simp at g2
          refine newL_of fun m2 h2 hm2 b2 e2 s2 => ?_
          have r2 : Reads h2 ⟨some ⟨m2, 0, none⟩, 1, 1⟩ 2 ([(⟨sl, (i : Int)⟩ : S_merge_front)].flatMap cF) := blk_reads (by simpa using b2) rfl
          have v2 := v.e e2
          refine app_list (L := G.map (·.f)) (M := [⟨sl, (i : Int)⟩]) cF_len (by omega) el_fronts v2.own r2 (fun x => ones_S_merge_front x) (by simp only [List.length_singleton, List.length_map]; omega) fun r3 h3 w3 o3 n3 => ?_
          have m3 : Mine h r3 := fun y hy => by
            rcases n3 with n3 | ⟨b', n3, n4⟩
            · exact v.mine y (by rw [← n3]; exact hy)
            · rw [n3] at hy; cases hy; have := v2.ext.size; omega
          have e3 : Ext h h3 := v2.ext.mine v2.mine o3
          have b3 : Blk h3 n #[s.enc] tn_merge_fronts := o3.block v2.var fun hb => own_ne v2.own v2.var (by decide) hb
          have gr' := gr.snoc (s := sl) hRn hcap
          rw [← tk_snoc hR, hli] at gr'
          refine FS.put (hk2 := h3) (G' := G ++ [⟨⟨sl, (i : Int)⟩, R⟩]) v2 (by rw [List.map_append]; exact w3) b3 e3 m3 (fun f hf hfr => ?_) (.refl _) fun h4 v4 o4 => ?_
          · rcases List.mem_append.1 hf with hf | hf
            · exact v.rows f hf hfr
            · rw [List.mem_singleton] at hf; subst hf; exact rd
          · rw [w64s (by omega)]
            exact ih (i + 1) h4 r3 _ (by omega) (by omega) v4.re gr' (by rw [List.length_append]; simp only [List.length_singleton]; omega)
        · have hRn : R = [] := by
            cases R with
            | nil => rfl
            | cons a b => rw [hlr] at g2; simp at g2
          subst hRn
          have gr' := gr.skip
          rw [← tk_snoc hR] at gr'
          rw [w64s (by omega)]
          exact ih (i + 1) h' s G (by omega) (by omega) v gr' (by omega)
      · have hiL : i = ss.length := by omega
        rw [hiL, t.len, List.take_length] at gr
        refine Init_spec v gr.ne (by omega) fun h2 G2 v2 p2 hp2 => ⟨(mR Ls).length + 1, ?_⟩
        have hl2 := p2.length_eq
        exact Rows_main (All := mR Ls) hn k _ h2 s G2 Ls _ [] (by omega) v2.re (by omega) hp2 (gr.perm p2) (by simpa using Owns.nil h2 tn_api_Row 7) (.nil _ _ _) rfl (by simp)
  exact key _ 0 h1 ⟨none, 0, 0⟩ [] (by omega) (by omega) ⟨b1, by simpa using Owns.nil h1 tn_merge_front 2, .nil _ _ _, by omega, e1, fun f hf => (by cases hf), .refl _⟩ ⟨fun f hf => (by cases hf), fun k R hk => (by simp at hk), .nil, fun f hf => (by cases hf)⟩ (by simp)
end
end Go.Proofs.YtjjchpaomgmmdaaGreat.V.M
namespace Go.Proofs.YtjjchpaomgmmdaaGreat.V
open Go
set_option linter.unusedVariables false
set_option linter.unusedSimpArgs false
theorem Blk.cells {h : H} {n : Nat} {cs : List Value} {e : TypeId} (b : Blk h n cs.toArray e) : Cells h ⟨n, 0, none⟩ cs := fun i v hv => by
  rw [add_lit, Nat.zero_add]
  exact b.cell (by simpa using hv)
section
variable {P : Program} {h : H}
end
end Go.Proofs.YtjjchpaomgmmdaaGreat.V
namespace Go.Proofs.YtjjchpaomgmmdaaGreat.V.C
open Go Go.Proofs.YtjjchpaomgmmdaaGreat.V
set_option linter.unusedVariables false
set_option linter.unusedSimpArgs false
set_option maxRecDepth 20000
abbrev Ver := S_chain_version_api_Agg
theorem ver_len (x : Ver) : x.cells.length = 6 := rfl
def Ch (h : H) (p : Nat) (L : List Ver) (B : Option Nat) : Prop :=
  ∃ s : Sl, Blk h p #[s.enc] tn_chain_Chain_api_Agg ∧ Owns h s tn_chain_version_api_Agg 6 (L.flatMap (·.cells)) ∧ s.blk = B ∧ B ≠ some p
theorem Ch.len {h : H} {s : Sl} {L : List Ver} (o : Owns h s tn_chain_version_api_Agg 6 (L.flatMap (·.cells))) : s.len = L.length := by
  have := o.1
  rw [flat_len _ 6 ver_len] at this
  omega
theorem Ch.at {h : H} {s : Sl} {L : List Ver} (o : Owns h s tn_chain_version_api_Agg 6 (L.flatMap (·.cells))) {i : Nat} {x : Ver} (hx : L[i]? = some x) :
    ∃ b, s.ptr = some ⟨b, 0, none⟩ ∧ cellH h ⟨b, i * 6, none⟩ = some (.int .i64 x.epoch) ∧ Cells h ⟨b, i * 6 + 1, none⟩ x.value.cells ∧ cellH h ⟨b, i * 6 + 5, none⟩ = some (.bool x.dead) ∧ Cells h ⟨b, i * 6, none⟩ x.cells := by
  obtain ⟨b, h1, h2⟩ := own_at (f := fun x : Ver => x.cells) ver_len (by omega) o hx
  have e : ∀ j v, x.cells[j]? = some v -> cellH h ⟨b, i * 6 + j, none⟩ = some v := fun j v hv => by
    have := h2 j v hv
    rwa [add_lit] at this
  refine ⟨b, h1, e 0 _ rfl, fun j v hv => ?_, e 5 _ rfl, h2⟩
  rw [add_lit]
  match j, hv with
  | 0, hv => exact e 1 v hv
  | 1, hv => exact e 2 v hv
  | 2, hv => exact e 3 v hv
  | 3, hv => exact e 4 v hv
  | j + 4, hv => simp [S_api_Agg.cells] at hv
theorem Ch.only {S : Nat -> Prop} {h h' : H} {p : Nat} {L : List Ver} {B : Option Nat} (c : Ch h p L B) (o : Only S h h') (hp : ¬ S p) (hB : ∀ b, B = some b -> ¬ S b) : Ch h' p L B := by
  obtain ⟨s, h1, h2, h3, h4⟩ := c
  exact ⟨s, o.block h1 hp, h2.only o (by rw [h3]; exact hB), h3, h4⟩
theorem Ch.ext {h h' : H} {p : Nat} {L : List Ver} {B : Option Nat} (c : Ch h p L B) (o : Ext h h') : Ch h' p L B := c.only o (fun f => f) fun _ _ f => f
theorem Ch.lt {h : H} {p : Nat} {L : List Ver} {B : Option Nat} (c : Ch h p L B) : p < h.size := by obtain ⟨s, h1, _⟩ := c; exact block_lt h1
theorem Ch.ltB {h : H} {p : Nat} {L : List Ver} {B : Option Nat} (c : Ch h p L B) : ∀ b, B = some b -> b < h.size := fun b hb => by
  obtain ⟨s, h1, h2, h3, _⟩ := c; exact h2.blk_lt (by rw [h3]; exact hb)
def lastE (L : List Ver) : Int := match L.getLast? with | some x => x.epoch | none => 0
def mayM (L : List Ver) (e : Int) : Int := if e < 1 ∨ e > 1099511627776 then 1 else if L ≠ [] ∧ e < lastE L then 32 else 0
def layM (L : List Ver) (x : Ver) : List Ver := if L ≠ [] ∧ lastE L = x.epoch then L.dropLast ++ [x] else L ++ [x]
def layN (L : List Ver) (x : Ver) : Int := if L ≠ [] ∧ lastE L = x.epoch then 0 else 1
theorem last_get {L : List Ver} (h : L ≠ []) : L[L.length - 1]? = some (L.getLast h) := by
  rw [← List.getLast?_eq_getElem?, List.getLast?_eq_some_getLast h]
theorem New_spec {h : H} {Q : Option Addr -> H -> Prop} (k : ∀ p h', p = h.size -> Ch h' p [] none -> Ext h h' -> Q (some ⟨p, 0, none⟩) h') : F.xby h Q := by
  unfold F.xby
  refine new_of fun n h' e1 e2 e3 e4 => k n h' e1 ⟨⟨none, 0, 0⟩, e2, Owns.nil _ _ _, rfl, by simp⟩ e3
theorem may_spec {h : H} {p : Nat} {L : List Ver} {B : Option Nat} {e : Int} {Q : Int -> H -> Prop} (c : Ch h p L B) (hL : L.length < 4294967296) (k : Q (mayM L e) h) : F.xav (some ⟨p, 0, none⟩) e h Q := by
  obtain ⟨s, hb, ho, hB, hne⟩ := c
  have hl := Ch.len ho
  have hc0 : cellH h ⟨p, 0, none⟩ = some s.enc := hb.cell rfl
  unfold mayM at k
  simp only [F.xav, F.xav.j1, F.xav.j2, nn_some, add_lit, Nat.add_zero, ldL_iff hc0, decide_eq_true_eq, decide_eq_false_iff_not, hl]
  refine ⟨fun g => ⟨fun _ => by rw [if_pos (.inl g)] at k; exact k, fun h => by cases h⟩, fun g => ⟨fun g2 => by rw [if_pos (.inr g2)] at k; exact k, fun g2 => ?_⟩⟩
  rw [if_neg (by omega)] at k
  by_cases hn : L = []
  · subst hn
    simp at k ⊢
    exact k
  · have hpos : 0 < L.length := List.length_pos_iff.2 hn
    obtain ⟨b, h1, h2, _⟩ := Ch.at ho (last_get hn)
    refine ⟨fun _ => ?_, fun h => by omega⟩
    refine idxA_of (i := L.length - 1) h1 (by omega) (by rw [w64 (by omega) (by omega)]; omega) ?_
    simp only [add_lit, Nat.add_zero]
    rw [ldI_iff h2]
    have hle : lastE L = (L.getLast hn).epoch := by unfold lastE; rw [List.getLast?_eq_some_getLast hn]
    rw [← hle]
    by_cases hlt : e < lastE L
    · rw [if_pos ⟨hn, hlt⟩] at k; exact ⟨fun _ => k, fun h => absurd hlt h⟩
    · rw [if_neg (fun h => hlt h.2)] at k; exact ⟨fun h => absurd h hlt, fun _ => k⟩
end Go.Proofs.YtjjchpaomgmmdaaGreat.V.C
