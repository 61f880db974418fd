/- Parts of the proof of StoreWhole; no condition. -/
import Derived.Test.YtjjchpaomgmmdaaGreatQStoreWhole1
namespace Go.Proofs.YtjjchpaomgmmdaaGreat.V
open Go
set_option linter.unusedVariables false
set_option maxRecDepth 100000
def F.xdj (p0 : ByteArray) (p1 : ByteArray) (h : H) (Q : Int -> H -> Prop) : Prop :=
  F.xdg p0 p1 h fun r2 h1 =>
  Q r2 h1
theorem F.xdj_ok {p0 : ByteArray} {p1 : ByteArray} {h : H} {Q : Int -> H -> Prop} (H : F.xdj p0 p1 h Q) : Fn PP 49 ([(.string p0), (.string p1)] : List Value).toArray h fun r h' => ∃ r0, r = (.int .i64 r0) ∧ Q r0 h' := by
 unfold F.xdj at H;refine fn_of Tryz.func49 Tryz.ntmps49 rfl rfl fun w0 => (tr_sub [(0, (.string p0)), (1, (.string p1))] ⟨rfl, rfl, trivial⟩ (tr_seq (tr_region (tq (y_assign rfl) (tr_nil (tr_thenN (tr_seq (tr_region (tq (y_move rfl) (tq (y_move rfl) (tr_e (e_call Tryz.call90 rfl (F.xdg_ok H)) rfl rfl ?_)))))))))));rintro _ h1 ⟨r2, rfl, H⟩;refine tq (y_assign rfl) (tr_nil (tr_thenN (tr_ret ?_)));exact tr_ret1 rfl rfl ⟨_, rfl, H⟩
def F.xcp (p0 : Int) (h : H) (Q : Bool -> H -> Prop) : Prop :=
  Q ((p0 != p0)) h
theorem F.xcp_ok {p0 : Int} {h : H} {Q : Bool -> H -> Prop} (H : F.xcp p0 h Q) : Fn PP 91 ([(.int .i64 p0)] : List Value).toArray h fun r h' => ∃ r0, r = (.bool r0) ∧ Q r0 h' := by
 unfold F.xcp at H;refine fn_of Tryz.func91 Tryz.ntmps91 rfl rfl fun w0 => (tr_sub [(0, (.int .i64 p0))] ⟨rfl, trivial⟩ (tr_seq (tr_region (tq (y_assign rfl) (tr_nil (tr_thenN (tr_seq (tr_region (tq (y_move rfl) (tq (y_move rfl) (tq (y_neq rfl rfl) (tq (y_assign rfl) (tr_nil ?_)))))))))))));refine tr_thenN (tr_ret ?_);exact tr_ret1 rfl rfl ⟨_, rfl, H⟩
def F.xda (p0 : Int) (p1 : Int) (h : H) (Q : Int -> H -> Prop) : Prop :=
  F.xcp p0 h fun r2 h1 =>
  F.xcp p1 h1 fun r4 h3 =>
  (r2 = true ->
  (r4 = true ->
  Q 0 h3) ∧
  (r4 = false ->
  Q (-1) h3)) ∧
  (r2 = false ->
  (r4 = true ->
  Q 1 h3) ∧
  (r4 = false ->
  ((decide (p0 < p1)) = true ->
  Q (-1) h3) ∧
  ((decide (p0 < p1)) = false ->
  ((decide (p0 > p1)) = true ->
  Q 1 h3) ∧
  ((decide (p0 > p1)) = false ->
  Q 0 h3))))
theorem F.xda_ok {p0 : Int} {p1 : Int} {h : H} {Q : Int -> H -> Prop} (H : F.xda p0 p1 h Q) : Fn PP 50 ([(.int .i64 p0), (.int .i64 p1)] : List Value).toArray h fun r h' => ∃ r0, r = (.int .i64 r0) ∧ Q r0 h' := by
 unfold F.xda at H;refine fn_of Tryz.func50 Tryz.ntmps50 rfl rfl fun w0 => (tr_sub [(0, (.int .i64 p0)), (1, (.int .i64 p1))] ⟨rfl, rfl, trivial⟩ (tr_seq (tr_region (tq (y_assign rfl) (tr_nil (tr_thenN (tr_seq (tr_region (tq (y_move rfl) (tr_e (e_call Tryz.call91 rfl (F.xcp_ok H)) rfl rfl ?_))))))))));rintro _ h1 ⟨r2, rfl, H⟩;refine tq (y_assign rfl) (tr_nil (tr_thenN (tr_seq (tr_region (tq (y_move rfl) (tr_e (e_call Tryz.call91 rfl (F.xcp_ok H)) rfl rfl ?_))))));rintro _ h3 ⟨r4, rfl, H⟩;refine tq (y_assign rfl) (tr_nil (tr_thenN (tr_seq (tr_seq (tr_region (tq (y_move rfl) (tr_nil (tr_thenN ?_))))))));refine tr_cond rfl (fun g5 => ?_) (fun g5 => ?_)
 ·replace H := H.1 g5;refine tr_seq (tr_seq (tr_region (tq (y_move rfl) (tr_nil (tr_thenN ?_)))));refine tr_cond rfl (fun g6 => ?_) (fun g6 => ?_)
  ·replace H := H.1 g6;refine tr_seq (tr_region (tq (y_assign rfl) (tr_nil (tr_thenN (tr_ret (tr_thenR (tr_thenR ?_)))))));exact tr_ret1 rfl rfl ⟨_, rfl, H⟩
  ·replace H := H.2 g6;refine tr_skip (tr_thenN (tr_seq (tr_region (tq (y_assign rfl) (tr_nil (tr_thenN (tr_ret (tr_thenR ?_))))))));exact tr_ret1 rfl rfl ⟨_, rfl, H⟩
 ·replace H := H.2 g5;refine tr_skip (tr_thenN (tr_seq (tr_seq (tr_region (tq (y_move rfl) (tr_nil (tr_thenN ?_)))))));refine tr_cond rfl (fun g7 => ?_) (fun g7 => ?_)
  ·replace H := H.1 g7;refine tr_seq (tr_region (tq (y_assign rfl) (tr_nil (tr_thenN (tr_ret (tr_thenR ?_))))));exact tr_ret1 rfl rfl ⟨_, rfl, H⟩
  ·replace H := H.2 g7;refine tr_skip (tr_thenN (tr_seq (tr_seq (tr_region (tq (y_move rfl) (tq (y_move rfl) (tq (y_lss rfl rfl) (tr_nil (tr_thenN ?_)))))))));refine tr_cond rfl (fun g8 => ?_) (fun g8 => ?_)
   ·replace H := H.1 g8;refine tr_seq (tr_region (tq (y_assign rfl) (tr_nil (tr_thenN (tr_ret (tr_thenR ?_))))));exact tr_ret1 rfl rfl ⟨_, rfl, H⟩
   ·replace H := H.2 g8;refine tr_skip (tr_thenN (tr_seq (tr_seq (tr_region (tq (y_move rfl) (tq (y_move rfl) (tq (y_gtr rfl rfl) (tr_nil (tr_thenN ?_)))))))));refine tr_cond rfl (fun g9 => ?_) (fun g9 => ?_)
    ·replace H := H.1 g9;refine tr_seq (tr_region (tq (y_assign rfl) (tr_nil (tr_thenN (tr_ret (tr_thenR ?_))))));exact tr_ret1 rfl rfl ⟨_, rfl, H⟩
    ·replace H := H.2 g9;refine tr_skip (tr_thenN (tr_seq (tr_region (tq (y_assign rfl) (tr_nil (tr_thenN (tr_ret ?_)))))));exact tr_ret1 rfl rfl ⟨_, rfl, H⟩
def F.xao.l1 (Q : Int -> H -> Prop) : Nat -> Int -> Sl -> Int -> Int -> H -> Prop
  | 0, _, _, _, _, _ => False
  | q1 + 1, x3, x6, x7, x8, h =>
    ((decide (x8 < x7)) = true ->
    idxA x6 x8 1 fun a2 =>
    ldI .i64 h a2 fun y4 =>
    (((y4 != x3)) = true ->
    Q y4 h) ∧
    (((y4 != x3)) = false ->
    (F.xao.l1 Q q1) x3 x6 x7 (IntKind.wrap .i64 (x8 + 1)) h)) ∧
    ((decide (x8 < x7)) = false ->
    Q x3 h)
def F.xao (p0 : Sl) (h : H) (Q : Int -> H -> Prop) : Prop :=
  ∃ m, F.xao.l1 Q m 0 p0 (p0.len : Int) 0 h
theorem F.xao_ok {p0 : Sl} {h : H} {Q : Int -> H -> Prop} (H : F.xao p0 h Q) : Fn PP 47 ([p0.enc] : List Value).toArray h fun r h' => ∃ r0, r = (.int .i64 r0) ∧ Q r0 h' := by
 unfold F.xao at H;refine fn_of Tryz.func47 Tryz.ntmps47 rfl rfl fun w0 => (tr_sub [(0, p0.enc)] ⟨rfl, trivial⟩ (tr_seq (tr_region (tq (y_assign rfl) (tr_nil (tr_thenN (tr_seq (tr_region (tq (y_assign rfl) (tr_nil (tr_thenN (tr_seq (tr_seq ?_)))))))))))));refine tr_region (tq (y_move rfl) (tq (y_len (ts := #[]) Tryz.runUnderlying42 (o := p0.ptr) (n := p0.len) (cap := p0.cap) rfl) (tq (y_move rfl) (tr_nil (tr_thenN (tr_block ?_))))));obtain ⟨m7, H⟩ := H;refine tr_sub [(3, (.int .i64 0)), (6, p0.enc), (7, (.int .i64 (p0.len : Int))), (8, (.int .i64 0))] ⟨rfl, rfl, rfl, rfl, trivial⟩ ?_;refine tr_loop_j (fun m L' h => ∃ (x3 : Int) (x6 : Sl) (x7 : Int) (x8 : Int), L' = [(3, (.int .i64 x3)), (6, x6.enc), (7, (.int .i64 x7)), (8, (.int .i64 x8))] ∧ F.xao.l1 Q m x3 x6 x7 x8 h) ?_ ?_ m7 ⟨_, _, _, _, rfl, H⟩
 ·rintro L' h ⟨_, _, _, _, _, H⟩; exact H
 ·rintro q1 L' h ⟨x3, x6, x7, x8, rfl, H⟩;unfold F.xao.l1 at H;refine tr_seq (tr_region (tq (y_lss rfl rfl) (tr_nil (tr_thenN (tr_seq ?_)))));refine tr_cond rfl (fun g1 => ?_) (fun g1 => ?_)
  ·replace H := H.1 g1;refine tr_skip (tr_thenN (tr_seq (tr_block (tr_seq (tr_region ?_)))));obtain ⟨a2, e3, H⟩ := H;refine tq (f_idx (s := x6) Tryz.runUnderlying42 Tryz.sizeOf3 rfl rfl e3) ?_;obtain ⟨y4, k5, H⟩ := H;refine tr_h (y_ld Tryz.isAgg3 rfl) k5 rfl rfl (tq (y_assign rfl) (tr_nil (tr_thenN (tr_seq (tr_region (tq (y_move rfl) (tq (y_move rfl) (tq (y_neq rfl rfl) (tr_nil (tr_thenN ?_))))))))));refine tr_cond rfl (fun g6 => ?_) (fun g6 => ?_)
   ·replace H := H.1 g6;refine tr_seq (tr_region (tq (y_move rfl) (tq (y_assign rfl) (tr_nil (tr_thenN (tr_ret (tr_blockR (tr_thenR (tr_thenR (tr_blockR (tr_thenR ?_)))))))))));exact tr_ret1 rfl rfl ⟨_, rfl, H⟩
   ·replace H := H.2 g6;refine tr_skip (tr_blockN (tr_thenN (tr_region (tq (y_add rfl rfl) (tq (y_move rfl) (tr_nil (tr_thenN ?_)))))));exact tr_join [(3, (.int .i64 x3)), (6, x6.enc), (7, (.int .i64 x7)), (8, (.int .i64 (IntKind.wrap .i64 (x8 + 1))))] ⟨rfl, rfl, rfl, rfl, trivial⟩ ⟨_, _, _, _, rfl, H⟩
  ·replace H := H.2 g1;refine tr_exit (tr_thenE (tr_thenE (tr_hit (tr_thenN (tr_seq (tr_region (tq (y_move rfl) (tq (y_assign rfl) (tr_nil (tr_thenN (tr_ret ?_)))))))))));exact tr_ret1 rfl rfl ⟨_, rfl, H⟩
def F.xcd (p0 : S_api_Cell) (p1 : S_api_Cell) (h : H) (Q : Int -> H -> Prop) : Prop :=
  new h p0.cells.toArray ty_35 fun a2 h1 =>
  new h1 p1.cells.toArray ty_35 fun a4 h3 =>
  ldI .i64 h3 (a2.add 0) fun y5 =>
  ldI .i64 h3 (a4.add 0) fun y7 =>
  ldS h3 (a2.add 1) fun y9 =>
  ldS h3 (a4.add 1) fun y11 =>
  ldI .i64 h3 (a2.add 2) fun y13 =>
  ldI .i64 h3 (a4.add 2) fun y15 =>
  F.xbd y5 y7 h3 fun r18 h17 =>
  cellH h17 (a4.add 2) = some (.int .i64 y15) ∧
  cellH h17 (a2.add 2) = some (.int .i64 y13) ∧
  cellH h17 (a4.add 1) = some (.string y11) ∧
  cellH h17 (a2.add 1) = some (.string y9) ∧
  F.xdj y9 y11 h17 fun r24 h23 =>
  cellH h23 (a4.add 2) = some (.int .i64 y15) ∧
  cellH h23 (a2.add 2) = some (.int .i64 y13) ∧
  F.xda y13 y15 h23 fun r28 h27 =>
  newL h27 #[(.int .i64 r18), (.int .i64 r24), (.int .i64 r28)] ty_3 3 fun s30 h29 =>
  F.xao s30 h29 fun r32 h31 =>
  Q r32 h31
theorem F.xcd_ok {p0 : S_api_Cell} {p1 : S_api_Cell} {h : H} {Q : Int -> H -> Prop} (H : F.xcd p0 p1 h Q) : Fn PP 17 ([(.agg p0.cells.toArray), (.agg p1.cells.toArray)] : List Value).toArray h fun r h' => ∃ r0, r = (.int .i64 r0) ∧ Q r0 h' := by
 unfold F.xcd at H;refine fn_of Tryz.func17 Tryz.ntmps17 rfl rfl fun w0 => (tr_sub [(0, (.agg p0.cells.toArray)), (1, (.agg p1.cells.toArray))] ⟨rfl, rfl, trivial⟩ (tr_seq (tr_region (tr_e (f_box (cs := p0.cells.toArray) rfl rfl H) rfl rfl ?_))));rintro _ h1 ⟨a2, rfl, H⟩;refine tr_e (f_box (cs := p1.cells.toArray) rfl rfl H) rfl rfl ?_;rintro _ h3 ⟨a4, rfl, H⟩;refine tq (y_assign rfl) (tr_nil (tr_thenN (tr_seq (tr_draw mixed [0, 1, 0, 4, 15, 0, 32, 0, 128, 511, 0, 1024, 0, 4096, 16383, 32767, 65535, 131071] (by kernel_rfl) (g_p 0 1 rfl (by kernel_rfl) (y_fa (off := 0) Tryz.runUnderlying35 fo_35_0 rfl) rfl rfl ?_)))));obtain ⟨y5, k6, H⟩ := H;refine g_h 1 3 rfl (by kernel_rfl) (y_ld Tryz.isAgg3 rfl) k6 rfl rfl (g_p 2 7 rfl (by kernel_rfl) (y_fa (off := 0) Tryz.runUnderlying35 fo_35_0 rfl) rfl rfl ?_);obtain ⟨y7, k8, H⟩ := H;refine g_h 3 15 rfl (by kernel_rfl) (y_ld Tryz.isAgg3 rfl) k8 rfl rfl (g_p 5 47 rfl (by kernel_rfl) (y_fa (off := 1) Tryz.runUnderlying35 fo_35_1 rfl) rfl rfl ?_);obtain ⟨y9, k10, H⟩ := H;refine g_h 6 111 rfl (by kernel_rfl) (y_ld Tryz.isAgg9 rfl) k10 rfl rfl (g_p 7 239 rfl (by kernel_rfl) (y_fa (off := 1) Tryz.runUnderlying35 fo_35_1 rfl) rfl rfl ?_);obtain ⟨y11, k12, H⟩ := H;refine g_h 8 495 rfl (by kernel_rfl) (y_ld Tryz.isAgg9 rfl) k12 rfl rfl (g_p 10 1519 rfl (by kernel_rfl) (y_fa (off := 2) Tryz.runUnderlying35 fo_35_2 rfl) rfl rfl ?_);obtain ⟨y13, k14, H⟩ := H;refine g_h 11 3567 rfl (by kernel_rfl) (y_ld Tryz.isAgg2 rfl) k14 rfl rfl (g_p 12 7663 rfl (by kernel_rfl) (y_fa (off := 2) Tryz.runUnderlying35 fo_35_2 rfl) rfl rfl ?_);obtain ⟨y15, k16, H⟩ := H;refine g_h 13 15855 rfl (by kernel_rfl) (y_ld Tryz.isAgg2 rfl) k16 rfl rfl (g_e 4 15871 [(13, fun h => cellH h (a4.add 2) = some (.int .i64 y15)), (11, fun h => cellH h (a2.add 2) = some (.int .i64 y13)), (8, fun h => cellH h (a4.add 1) = some (.string y11)), (6, fun h => cellH h (a2.add 1) = some (.string y9))] (by kernel_rfl) rfl (by kernel_rfl) (e_call Tryz.call48 rfl (F.xbd_ok H)) rfl rfl ?_);rintro _ h17 ⟨r18, rfl, H⟩;obtain ⟨k19, k20, k21, k22, H⟩ := H;refine ⟨And.intro k19 (And.intro k20 (And.intro k21 (And.intro k22 trivial))), ?_⟩;refine g_e 9 16383 [(13, fun h => cellH h (a4.add 2) = some (.int .i64 y15)), (11, fun h => cellH h (a2.add 2) = some (.int .i64 y13))] (by kernel_rfl) rfl (by kernel_rfl) (e_call Tryz.call49 rfl (F.xdj_ok H)) rfl rfl ?_;rintro _ h23 ⟨r24, rfl, H⟩;obtain ⟨k25, k26, H⟩ := H;refine ⟨And.intro k25 (And.intro k26 trivial), ?_⟩;refine g_e 14 32767 [] (by kernel_rfl) rfl (by kernel_rfl) (e_call Tryz.call50 rfl (F.xda_ok H)) rfl rfl ?_;rintro _ h27 ⟨r28, rfl, H⟩;refine ⟨trivial, ?_⟩;refine g_e 15 65535 [] (by kernel_rfl) rfl (by kernel_rfl) (f_buildL (cs := #[(.int .i64 r18), (.int .i64 r24), (.int .i64 r28)]) rfl rfl (bl_42_3_0_1_2 r18 r24 r28) H) rfl rfl ?_;rintro _ h29 ⟨s30, rfl, H⟩;refine ⟨trivial, ?_⟩;refine g_e 16 131071 [] (by kernel_rfl) rfl (by kernel_rfl) (e_call Tryz.call47 rfl (F.xao_ok H)) rfl rfl ?_;rintro _ h31 ⟨r32, rfl, H⟩;refine ⟨trivial, ?_⟩;refine g_p 17 262143 rfl (by kernel_rfl) (y_assign rfl) rfl rfl (g_d (by kernel_rfl) (tr_thenN (tr_ret ?_)));exact tr_ret1 rfl rfl ⟨_, rfl, H⟩
def F.xdi (p0 : S_api_Cell) (p1 : Addr) (p2 : Addr) (h : H) (Q : Bool -> H -> Prop) : Prop :=
  new h p0.cells.toArray ty_35 fun a2 h1 =>
  ld_S_api_Cell h1 p1 fun y3 =>
  ld_S_api_Cell h1 a2 fun y5 =>
  F.xcd y3 y5 h1 fun r8 h7 =>
  ((decide (r8 <= 0)) = true ->
  ld_S_api_Cell h7 a2 fun y10 =>
  ld_S_api_Cell h7 p2 fun y12 =>
  F.xcd y10 y12 h7 fun r15 h14 =>
  Q (decide (r15 < 0)) h14) ∧
  ((decide (r8 <= 0)) = false ->
  Q false h7)
theorem F.xdi_ok {p0 : S_api_Cell} {p1 : Addr} {p2 : Addr} {h : H} {Q : Bool -> H -> Prop} (H : F.xdi p0 p1 p2 h Q) : Fn PP 72 ([(.agg p0.cells.toArray), (.pointer (some p1)), (.pointer (some p2))] : List Value).toArray h fun r h' => ∃ r0, r = (.bool r0) ∧ Q r0 h' := by
 unfold F.xdi at H;refine fn_of Tryz.func72 Tryz.ntmps72 rfl rfl fun w0 => (tr_sub [(0, (.agg p0.cells.toArray)), (1, (.pointer (some p1))), (2, (.pointer (some p2)))] ⟨rfl, rfl, rfl, trivial⟩ (tr_seq (tr_region (tr_e (f_box (cs := p0.cells.toArray) rfl rfl H) rfl rfl ?_))));rintro _ h1 ⟨a2, rfl, H⟩;refine tq (y_assign rfl) (tr_nil (tr_thenN (tr_seq (tr_region ?_))));obtain ⟨y3, k4, H⟩ := H;refine tr_h (y_ldS Tryz.isAgg35 Tryz.sizeOf35 rfl rfl) k4 rfl rfl ?_;obtain ⟨y5, k6, H⟩ := H;refine tr_h (y_ldS Tryz.isAgg35 Tryz.sizeOf35 rfl rfl) k6 rfl rfl (tr_e (e_call Tryz.call17 rfl (F.xcd_ok H)) rfl rfl ?_);rintro _ h7 ⟨r8, rfl, H⟩;refine tq (y_leq rfl rfl) (tq (y_move rfl) ?_);refine tr_split (t := 9) rfl (fun g9 => ?_) (fun g9 => ?_)
 ·replace H := H.1 g9;obtain ⟨y10, k11, H⟩ := H;refine tr_h (y_ldS Tryz.isAgg35 Tryz.sizeOf35 rfl rfl) k11 rfl rfl ?_;obtain ⟨y12, k13, H⟩ := H;refine tr_h (y_ldS Tryz.isAgg35 Tryz.sizeOf35 rfl rfl) k13 rfl rfl (tr_e (e_call Tryz.call17 rfl (F.xcd_ok H)) rfl rfl ?_);rintro _ h14 ⟨r15, rfl, H⟩;refine tq (y_lss rfl rfl) (tq (y_pick_t rfl rfl) (tq (y_assign rfl) (tr_nil (tr_thenN (tr_ret ?_)))));exact tr_ret1 rfl rfl ⟨_, rfl, H⟩
 ·replace H := H.2 g9;refine ts (ts (ts (ts (tq (y_pick_f rfl rfl) (tq (y_assign rfl) (tr_nil (tr_thenN (tr_ret ?_))))))));exact tr_ret1 rfl rfl ⟨_, rfl, H⟩
def F.xbr.l1 (Q : H -> Prop) : Nat -> Value -> Addr -> H -> Prop
  | 0, _, _, _ => False
  | q1 + 1, x0, x5, h =>
    RunS PP (Instr.next (.pointer (some x5)) false 0) h fun u h5 => ∃ (b6 : Bool) (t7 : Array Value), u = (.tuple (#[.bool b6] ++ t7)) ∧
    (b6 = true ->
    RunS PP (Instr.entry (.pointer (some x5))) h5 fun u h9 => ∃ (r10 : ByteArray) (r11 : Option Addr), u = (.tuple #[(.string r10), (.pointer r11)]) ∧
    CV PP x0 [(.string r10)] h9 fun u h12 => ∃ (r13 : Bool), u = (.bool r13) ∧
    ((!r13) = true ->
    Q h12) ∧
    ((!r13) = false ->
    (F.xbr.l1 Q q1) x0 x5 h12)) ∧
    (b6 = false ->
    Q h5)
def F.xbr (p0 : Value) (p1 : Addr) (h : H) (Q : H -> Prop) : Prop :=
  ldM h p1 fun y1 =>
  RunS PP (Instr.range 153 (.map y1)) h fun u h3 => ∃ a4 : Addr, u = (.pointer (some a4)) ∧
  ∃ m, F.xbr.l1 Q m p0 a4 h3
theorem F.xbr_ok {p0 : Value} {p1 : Addr} {h : H} {Q : H -> Prop} (H : F.xbr p0 p1 h Q) : Fn PP 125 ([p0, (.pointer (some p1))] : List Value).toArray h fun r h' => r = .tuple #[] ∧ Q  h' := by
 unfold F.xbr at H;refine fn_of Tryz.func125 Tryz.ntmps125 rfl rfl fun w0 => (tr_sub [(0, p0), (1, (.pointer (some p1)))] ⟨rfl, rfl, trivial⟩ (tr_seq (tr_region ?_)));obtain ⟨y1, k2, H⟩ := H;refine tr_h (y_ld Tryz.isAgg153 rfl) k2 rfl rfl (tr_e (f_rg rfl H) rfl rfl ?_);rintro _ h3 ⟨a4, rfl, H⟩;refine tr_nil (tr_thenN (tr_block ?_));obtain ⟨m15, H⟩ := H;refine tr_sub [(0, p0), (5, (.pointer (some a4)))] ⟨rfl, rfl, trivial⟩ ?_;refine tr_loop_j (fun m L' h => ∃ (x0 : Value) (x5 : Addr), L' = [(0, x0), (5, (.pointer (some x5)))] ∧ F.xbr.l1 Q m x0 x5 h) ?_ ?_ m15 ⟨_, _, rfl, H⟩
 ·rintro L' h ⟨_, _, _, H⟩; exact H
 ·rintro q1 L' h ⟨x0, x5, rfl, H⟩;unfold F.xbr.l1 at H;refine tr_seq (tr_region (tr_e (f_nx rfl H) rfl rfl ?_));rintro _ h5 ⟨b6, t7, rfl, H⟩;refine tq (y_ext0 (t := t7) rfl) (tr_nil (tr_thenN (tr_seq ?_)));refine tr_cond rfl (fun g8 => ?_) (fun g8 => ?_)
  ·replace H := H.1 g8;refine tr_skip (tr_thenN (tr_block (tr_seq (tr_region (tr_e (f_en rfl H) rfl rfl ?_)))));rintro _ h9 ⟨r10, r11, rfl, H⟩;refine tq (y_ext rfl rfl) (tq (y_assign rfl) (tr_nil (tr_thenN (tr_seq (tr_region (tq (y_move rfl) (tq (y_move rfl) (tr_e (e_callD rfl rfl H) rfl rfl ?_))))))));rintro _ h12 ⟨r13, rfl, H⟩;refine tq (y_not rfl) (tr_nil (tr_thenN ?_));refine tr_cond rfl (fun g14 => ?_) (fun g14 => ?_)
   ·replace H := H.1 g14;refine tr_ret (tr_blockR (tr_thenR (tr_blockR ?_)));exact tr_ret0 rfl ⟨rfl, H⟩
   ·replace H := H.2 g14;refine tr_skip (tr_blockN (tr_thenN ?_));exact tr_join [(0, x0), (5, (.pointer (some x5)))] ⟨rfl, rfl, trivial⟩ ⟨_, _, rfl, H⟩
  ·replace H := H.2 g8;refine tr_exit (tr_thenE (tr_thenE (tr_hit ?_)));exact tr_end0 rfl ⟨rfl, H⟩
def F.xaw (p0 : Option Nat) (h : H) (Q : Value -> H -> Prop) : Prop :=
  new h #[(.map p0)] ty_153 fun a2 h1 =>
  Q (.func (.func 125) #[] #[(.pointer (some a2))]) h1
theorem F.xaw_ok {p0 : Option Nat} {h : H} {Q : Value -> H -> Prop} (H : F.xaw p0 h Q) : Fn PP 98 ([(.map p0)] : List Value).toArray h fun r h' => ∃ r0, r = r0 ∧ Q r0 h' := by
 unfold F.xaw at H;refine fn_of Tryz.func98 Tryz.ntmps98 rfl rfl fun w0 => (tr_sub [(0, (.map p0))] ⟨rfl, trivial⟩ (tr_seq (tr_region (tr_e (f_box (cs := #[(.map p0)]) rfl rfl H) rfl rfl ?_))));rintro _ h1 ⟨a2, rfl, H⟩;refine tq (y_assign rfl) (tr_nil (tr_thenN (tr_seq (tr_region (tq (y_fn rfl rfl) (tq (y_assign rfl) (tr_nil (tr_thenN (tr_ret ?_)))))))));exact tr_ret1 rfl rfl ⟨_, rfl, H⟩
def F.xcx (p0 : Sl) (p1 : Value) (h : H) (Q : Sl -> H -> Prop) : Prop :=
  new h #[p0.enc] ty_22 fun a2 h1 =>
  rng PP p1 h1 [] (fun bg1 l1 args h K1 J1 => ∃ (y1_7 : ByteArray), args = [(.string y1_7)] ∧
    bg1 h fun h3 =>
    ldL h3 a2 fun y4 =>
    newL h3 #[(.string y1_7)] ty_9 1 fun s7 h6 =>
    runL PP (Builtin.append_ #[22, 22] 22 #[y4.enc, s7.enc]) h6 fun s9 h8 =>
    stH h8 a2 [s9.enc] fun h10 =>
    K1 h10) (fun h11 =>
    ldL h11 a2 fun y12 =>
    shuts (h1.size :: ([] : List Nat)) h11 fun h14 =>
    Q y12 h14) (fun jj h15 =>
    True)
theorem F.xcx_ok {p0 : Sl} {p1 : Value} {h : H} {Q : Sl -> H -> Prop} (H : F.xcx p0 p1 h Q) : Fn PP 143 ([p0.enc, p1] : List Value).toArray h fun r h' => ∃ r0, r = r0.enc ∧ Q r0 h' := by
 unfold F.xcx at H;refine fn_ofM Tryz.func143 Tryz.ntmps143 rfl rfl fun w0 => (tr_sub [(0, p0.enc), (1, p1)] ⟨rfl, rfl, trivial⟩ (tr_seq (tr_region (tr_e (f_box (cs := #[p0.enc]) rfl rfl H) rfl rfl ?_))));rintro _ h1 ⟨a2, rfl, H⟩;refine tq (y_assign rfl) (tr_nil (tr_thenN (tr_seq (tr_seq (tr_region (tq (y_move rfl) (tr_nil (tr_thenN (tr_block ?_)))))))));refine tr_range rfl (by kernel_rfl) H ?_ ?_ ?_
 ·intro bg1 l1 args h K1 J1 w1 hbg1 H;obtain ⟨y1_7, rfl, H⟩ := H;refine ⟨rfl, ?_⟩;refine tr_sub [(0, p0.enc), (1, p1), (2, (.pointer (some a2))), (4, (⟨none, 0, 0⟩ : Sl).enc), (6, p1), (7, (.string y1_7))] ⟨rfl, rfl, rfl, rfl, rfl, rfl, trivial⟩ (tr_region (tq (y_assign rfl) (tr_nil (tr_thenN (tr_bgn hbg1 H fun h3 H => (tr_block (tr_region ?_)))))));obtain ⟨y4, k5, H⟩ := H;refine tr_h (y_ld Tryz.isAgg22 rfl) k5 rfl rfl (tq (y_move rfl) (tr_e (f_buildL (cs := #[(.string y1_7)]) rfl rfl (bl_22_1_0 y1_7) H) rfl rfl ?_));rintro _ h6 ⟨s7, rfl, H⟩;refine tr_e (f_app rfl H) rfl rfl ?_;rintro _ h8 ⟨s9, rfl, H⟩;refine tr_e (f_store (vs := [s9.enc]) Tryz.sizeOf22 rfl rfl rfl rfl (one1 rfl) H) rfl rfl ?_;rintro _ h10 ⟨rfl, H⟩;refine tr_nil (tr_blockN ?_);exact tr_rN H
 ·intro h11 H;refine tr_blockN (tr_thenN (tr_seq (tr_region ?_)));obtain ⟨y12, k13, H⟩ := H;refine tr_h (y_ld Tryz.isAgg22 rfl) k13 rfl rfl (tq (y_assign rfl) (tr_nil (tr_thenN (tr_ret (tr_shut (h1.size :: ([] : List Nat)) rfl H fun h14 H => ?_)))));exact tr_ret1 rfl rfl ⟨_, rfl, H⟩
 ·intro jj c h15 hjc H;simp at hjc
def F.xdh (p0 : Value) (h : H) (Q : Sl -> H -> Prop) : Prop :=
  F.xcx (⟨none, 0, 0⟩ : Sl) p0 h fun r2 h1 =>
  Q r2 h1
theorem F.xdh_ok {p0 : Value} {h : H} {Q : Sl -> H -> Prop} (H : F.xdh p0 h Q) : Fn PP 123 ([p0] : List Value).toArray h fun r h' => ∃ r0, r = r0.enc ∧ Q r0 h' := by
 unfold F.xdh at H;refine fn_of Tryz.func123 Tryz.ntmps123 rfl rfl fun w0 => (tr_sub [(0, p0)] ⟨rfl, trivial⟩ (tr_seq (tr_region (tq (y_assign rfl) (tr_nil (tr_thenN (tr_seq (tr_region (tq (y_move rfl) (tr_e (e_call Tryz.call143 rfl (F.xcx_ok H)) rfl rfl ?_))))))))));rintro _ h1 ⟨r2, rfl, H⟩;refine tq (y_assign rfl) (tr_nil (tr_thenN (tr_ret ?_)));exact tr_ret1 rfl rfl ⟨_, rfl, H⟩
def F.xcs (p0 : Value) (h : H) (Q : Sl -> H -> Prop) : Prop :=
  F.xdh p0 h fun r2 h1 =>
  Fn PP 124 [r2.enc].toArray h1 fun u h3 => u = (.tuple #[]) ∧
  Q r2 h3
theorem F.xcs_ok {p0 : Value} {h : H} {Q : Sl -> H -> Prop} (H : F.xcs p0 h Q) : Fn PP 97 ([p0] : List Value).toArray h fun r h' => ∃ r0, r = r0.enc ∧ Q r0 h' := by
 unfold F.xcs at H;refine fn_of Tryz.func97 Tryz.ntmps97 rfl rfl fun w0 => (tr_sub [(0, p0)] ⟨rfl, trivial⟩ (tr_seq (tr_region (tq (y_assign rfl) (tr_nil (tr_thenN (tr_seq (tr_region (tq (y_move rfl) (tr_e (e_call Tryz.call123 rfl (F.xdh_ok H)) rfl rfl ?_))))))))));rintro _ h1 ⟨r2, rfl, H⟩;refine tq (y_assign rfl) (tr_nil (tr_thenN (tr_seq (tr_region (tq (y_move rfl) (tr_e (e_call Tryz.call124 rfl H) rfl rfl ?_))))));rintro _ h3 ⟨rfl, H⟩;refine tr_nil (tr_thenN (tr_seq (tr_region (tq (y_move rfl) (tq (y_assign rfl) (tr_nil (tr_thenN (tr_ret ?_))))))));exact tr_ret1 rfl rfl ⟨_, rfl, H⟩
def F.xbv.l1 (Q : H -> Prop) : Nat -> Value -> Addr -> Sl -> Int -> Int -> H -> Prop
  | 0, _, _, _, _, _, _ => False
  | q1 + 1, x0, x2, x6, x7, x8, h =>
    ((decide (x8 < x7)) = true ->
    idxA x6 x8 1 fun a4 =>
    ldS h a4 fun y6 =>
    ldM h x2 fun y8 =>
    RunS PP (Instr.lookup 153 (.map y8) (.string y6) false) h fun u h10 => ∃ r11 : Option Addr, u = (.pointer r11) ∧
    CV PP x0 [(.string y6), (.pointer r11)] h10 fun u h12 => ∃ (r13 : Bool), u = (.bool r13) ∧
    ((!r13) = true ->
    Q h12) ∧
    ((!r13) = false ->
    (F.xbv.l1 Q q1) x0 x2 x6 x7 (IntKind.wrap .i64 (x8 + 1)) h12)) ∧
    ((decide (x8 < x7)) = false ->
    Q h)
def F.xbv (p0 : Value) (p1 : Addr) (p2 : Addr) (h : H) (Q : H -> Prop) : Prop :=
  ldL h p1 fun y1 =>
  ∃ m, F.xbv.l1 Q m p0 p2 y1 (y1.len : Int) 0 h
theorem F.xbv_ok {p0 : Value} {p1 : Addr} {p2 : Addr} {h : H} {Q : H -> Prop} (H : F.xbv p0 p1 p2 h Q) : Fn PP 99 ([p0, (.pointer (some p1)), (.pointer (some p2))] : List Value).toArray h fun r h' => r = .tuple #[] ∧ Q  h' := by
 unfold F.xbv at H;refine fn_of Tryz.func99 Tryz.ntmps99 rfl rfl fun w0 => (tr_sub [(0, p0), (1, (.pointer (some p1))), (2, (.pointer (some p2)))] ⟨rfl, rfl, rfl, trivial⟩ (tr_seq (tr_region ?_)));obtain ⟨y1, k2, H⟩ := H;refine tr_h (y_ld Tryz.isAgg22 rfl) k2 rfl rfl (tq (y_len (ts := #[]) Tryz.runUnderlying22 (o := y1.ptr) (n := y1.len) (cap := y1.cap) rfl) (tq (y_move rfl) (tr_nil (tr_thenN (tr_block ?_)))));obtain ⟨m15, H⟩ := H;refine tr_sub [(0, p0), (2, (.pointer (some p2))), (6, y1.enc), (7, (.int .i64 (y1.len : Int))), (8, (.int .i64 0))] ⟨rfl, rfl, rfl, rfl, rfl, trivial⟩ ?_;refine tr_loop_j (fun m L' h => ∃ (x0 : Value) (x2 : Addr) (x6 : Sl) (x7 : Int) (x8 : Int), L' = [(0, x0), (2, (.pointer (some x2))), (6, x6.enc), (7, (.int .i64 x7)), (8, (.int .i64 x8))] ∧ F.xbv.l1 Q m x0 x2 x6 x7 x8 h) ?_ ?_ m15 ⟨_, _, _, _, _, rfl, H⟩
 ·rintro L' h ⟨_, _, _, _, _, _, H⟩; exact H
 ·rintro q1 L' h ⟨x0, x2, x6, x7, x8, rfl, H⟩;unfold F.xbv.l1 at H;refine tr_seq (tr_region (tq (y_lss rfl rfl) (tr_nil (tr_thenN (tr_seq ?_)))));refine tr_cond rfl (fun g3 => ?_) (fun g3 => ?_)
  ·replace H := H.1 g3;refine tr_skip (tr_thenN (tr_seq (tr_block (tr_seq (tr_region ?_)))));obtain ⟨a4, e5, H⟩ := H;refine tq (f_idx (s := x6) Tryz.runUnderlying22 Tryz.sizeOf9 rfl rfl e5) ?_;obtain ⟨y6, k7, H⟩ := H;refine tr_h (y_ld Tryz.isAgg9 rfl) k7 rfl rfl (tq (y_assign rfl) (tr_nil (tr_thenN (tr_seq (tr_region (tq (y_move rfl) (tq (y_move rfl) ?_)))))));obtain ⟨y8, k9, H⟩ := H;refine tr_h (y_ld Tryz.isAgg153 rfl) k9 rfl rfl (tq (y_move rfl) (tr_e (f_lk rfl rfl H) rfl rfl ?_));rintro _ h10 ⟨r11, rfl, H⟩;refine tr_e (e_callD rfl rfl H) rfl rfl ?_;rintro _ h12 ⟨r13, rfl, H⟩;refine tq (y_not rfl) (tr_nil (tr_thenN ?_));refine tr_cond rfl (fun g14 => ?_) (fun g14 => ?_)
   ·replace H := H.1 g14;refine tr_ret (tr_blockR (tr_thenR (tr_thenR (tr_blockR ?_))));exact tr_ret0 rfl ⟨rfl, H⟩
   ·replace H := H.2 g14;refine tr_skip (tr_blockN (tr_thenN (tr_region (tq (y_add rfl rfl) (tq (y_move rfl) (tr_nil (tr_thenN ?_)))))));exact tr_join [(0, x0), (2, (.pointer (some x2))), (6, x6.enc), (7, (.int .i64 x7)), (8, (.int .i64 (IntKind.wrap .i64 (x8 + 1))))] ⟨rfl, rfl, rfl, rfl, rfl, trivial⟩ ⟨_, _, _, _, _, rfl, H⟩
  ·replace H := H.2 g3;refine tr_exit (tr_thenE (tr_thenE (tr_hit ?_)));exact tr_end0 rfl ⟨rfl, H⟩
def F.xad.l2 (Q : Value -> H -> Prop) (C1 : Addr -> Sl -> Int -> Int -> H -> Prop) : Nat -> Addr -> Sl -> Int -> Int -> Sl -> Int -> Int -> H -> Prop
  | 0, _, _, _, _, _, _, _, _ => False
  | q2 + 1, x3, x22, x23, x24, x28, x29, x30, h =>
    ((decide (x30 < x29)) = true ->
    idxA x28 x30 3 fun a26 =>
    ld_S_table_place_chain_Chain_api_Agg h a26 fun y28 =>
    new h (((⟨0, (⟨#[]⟩ : ByteArray), none⟩ : S_table_place_chain_Chain_api_Agg) : S_table_place_chain_Chain_api_Agg).cells.toArray) ty_156 fun a31 h30 =>
    stH h30 a31 y28.cells fun h32 =>
    ldI .u8 h32 (a31.add 0) fun y33 =>
    (((y33 == 1)) = true ->
    ldM h32 x3 fun y36 =>
    ldS h32 (a31.add 1) fun y38 =>
    ldP h32 (a31.add 2) fun y40 =>
    RunS PP (Instr.mapUpdate 153 (.map y36) (.string y38) (.pointer y40)) h32 fun _ h42 =>
    (F.xad.l2 Q C1 q2) x3 x22 x23 x24 x28 x29 (IntKind.wrap .i64 (x30 + 1)) h42) ∧
    (((y33 == 1)) = false ->
    (F.xad.l2 Q C1 q2) x3 x22 x23 x24 x28 x29 (IntKind.wrap .i64 (x30 + 1)) h32)) ∧
    ((decide (x30 < x29)) = false ->
    C1 x3 x22 x23 (IntKind.wrap .i64 (x24 + 1)) h)
def F.xad.l1 (Q : Value -> H -> Prop) : Nat -> Addr -> Sl -> Int -> Int -> H -> Prop
  | 0, _, _, _, _, _ => False
  | q1 + 1, x3, x22, x23, x24, h =>
    ((decide (x24 < x23)) = true ->
    idxA x22 x24 1 fun a21 =>
    ldL h a21 fun y23 =>
    ∃ m, F.xad.l2 Q (F.xad.l1 Q q1) m x3 x22 x23 x24 y23 (y23.len : Int) 0 h) ∧
    ((decide (x24 < x23)) = false ->
    ldM h x3 fun y44 =>
    F.xaw y44 h fun r47 h46 =>
    F.xcs r47 h46 fun r49 h48 =>
    new h48 #[(⟨none, 0, 0⟩ : Sl).enc] ty_22 fun a51 h50 =>
    stH h50 a51 [r49.enc] fun h52 =>
    Q (.func (.func 99) #[] #[(.pointer (some a51)), (.pointer (some x3))]) h52)
def F.xad (p0 : Option Addr) (h : H) (Q : Value -> H -> Prop) : Prop :=
  nn p0 fun a1 =>
  ldI .i64 h (a1.add 3) fun y3 =>
  RunS PP (Instr.makeMap 153 (some (.int .i64 y3))) h fun u h5 => ∃ m6 : Option Nat, u = (.map m6) ∧
  new h5 #[(.map none)] ty_153 fun a8 h7 =>
  stH h7 a8 [(.map m6)] fun h9 =>
  nn p0 fun a10 =>
  ldL h9 (a10.add 0) fun y12 =>
  nn p0 fun a14 =>
  ldL h9 (a14.add 1) fun y16 =>
  newL h9 #[y12.enc, y16.enc] ty_146 2 fun s19 h18 =>
  ∃ m, F.xad.l1 Q m a8 s19 (s19.len : Int) 0 h18
theorem F.xad_ok {p0 : Option Addr} {h : H} {Q : Value -> H -> Prop} (H : F.xad p0 h Q) : Fn PP 59 ([(.pointer p0)] : List Value).toArray h fun r h' => ∃ r0, r = r0 ∧ Q r0 h' := by
 unfold F.xad at H;refine fn_of Tryz.func59 Tryz.ntmps59 rfl rfl fun w0 => (tr_sub [(0, (.pointer p0))] ⟨rfl, trivial⟩ (tr_seq (tr_region (tq (y_assign rfl) (tr_nil (tr_thenN (tr_seq (tr_region (tq (y_move rfl) ?_)))))))));obtain ⟨a1, e2, H⟩ := H;refine tq (f_nn rfl e2) (tq (y_fa (off := 3) Tryz.runUnderlying148 fo_148_3 rfl) ?_);obtain ⟨y3, k4, H⟩ := H;refine tr_h (y_ld Tryz.isAgg3 rfl) k4 rfl rfl (tr_e (f_mkS rfl H) rfl rfl ?_);rintro _ h5 ⟨m6, rfl, H⟩;refine tr_e (f_alloc (cs := #[(.map none)]) Tryz.zeroValue153 rfl H) rfl rfl ?_;rintro _ h7 ⟨a8, rfl, H⟩;refine tr_e (f_store (vs := [(.map m6)]) Tryz.sizeOf153 rfl rfl rfl rfl (one1 rfl) H) rfl rfl ?_;rintro _ h9 ⟨rfl, H⟩;refine tr_nil (tr_thenN (tr_seq (tr_seq (tr_draw mixed [0, 1, 3, 7, 0, 16, 48, 112, 255, 511, 0] (by kernel_rfl) (g_p 0 1 rfl (by kernel_rfl) (y_move rfl) rfl rfl ?_)))));obtain ⟨a10, e11, H⟩ := H;refine g_p 1 3 rfl (by kernel_rfl) (f_nn rfl e11) rfl rfl (g_p 2 7 rfl (by kernel_rfl) (y_fa (off := 0) Tryz.runUnderlying148 fo_148_0 rfl) rfl rfl ?_);obtain ⟨y12, k13, H⟩ := H;refine g_h 3 15 rfl (by kernel_rfl) (y_ld Tryz.isAgg146 rfl) k13 rfl rfl (g_p 4 31 rfl (by kernel_rfl) (y_move rfl) rfl rfl ?_);obtain ⟨a14, e15, H⟩ := H;refine g_p 5 63 rfl (by kernel_rfl) (f_nn rfl e15) rfl rfl (g_p 6 127 rfl (by kernel_rfl) (y_fa (off := 1) Tryz.runUnderlying148 fo_148_1 rfl) rfl rfl ?_);obtain ⟨y16, k17, H⟩ := H;refine g_h 7 255 rfl (by kernel_rfl) (y_ld Tryz.isAgg146 rfl) k17 rfl rfl (g_p 10 1279 rfl (by kernel_rfl) (y_move rfl) rfl rfl (g_e 8 1535 [] (by kernel_rfl) rfl (by kernel_rfl) (f_buildL (cs := #[y12.enc, y16.enc]) rfl rfl (bl_154_2_0_1 y12 y16) H) rfl rfl ?_));rintro _ h18 ⟨s19, rfl, H⟩;refine ⟨trivial, ?_⟩;refine g_p 9 2047 rfl (by kernel_rfl) (y_len (ts := #[]) Tryz.runUnderlying154 (o := s19.ptr) (n := s19.len) (cap := s19.cap) rfl) rfl rfl (g_d (by kernel_rfl) (tr_thenN (tr_block ?_)));obtain ⟨m53, H⟩ := H;refine tr_sub [(3, (.pointer (some a8))), (22, s19.enc), (23, (.int .i64 (s19.len : Int))), (24, (.int .i64 0))] ⟨rfl, rfl, rfl, rfl, trivial⟩ ?_;refine tr_loop_j (fun m L' h => ∃ (x3 : Addr) (x22 : Sl) (x23 : Int) (x24 : Int), L' = [(3, (.pointer (some x3))), (22, x22.enc), (23, (.int .i64 x23)), (24, (.int .i64 x24))] ∧ F.xad.l1 Q m x3 x22 x23 x24 h) ?_ ?_ m53 ⟨_, _, _, _, rfl, H⟩
 ·rintro L' h ⟨_, _, _, _, _, H⟩; exact H
 ·rintro q1 L' h ⟨x3, x22, x23, x24, rfl, H⟩;unfold F.xad.l1 at H;refine tr_seq (tr_region (tq (y_lss rfl rfl) (tr_nil (tr_thenN (tr_seq ?_)))));refine tr_cond rfl (fun g20 => ?_) (fun g20 => ?_)
  ·replace H := H.1 g20;refine tr_skip (tr_thenN (tr_seq (tr_block (tr_seq (tr_region ?_)))));obtain ⟨a21, e22, H⟩ := H;refine tq (f_idx (s := x22) Tryz.runUnderlying154 Tryz.sizeOf146 rfl rfl e22) ?_;obtain ⟨y23, k24, H⟩ := H;refine tr_h (y_ld Tryz.isAgg146 rfl) k24 rfl rfl (tq (y_assign rfl) (tr_nil (tr_thenN (tr_seq (tr_region (tq (y_move rfl) (tq (y_len (ts := #[]) Tryz.runUnderlying146 (o := y23.ptr) (n := y23.len) (cap := y23.cap) rfl) (tq (y_move rfl) (tr_nil (tr_thenN (tr_block ?_)))))))))));obtain ⟨m43, H⟩ := H;refine tr_sub [(3, (.pointer (some x3))), (22, x22.enc), (23, (.int .i64 x23)), (24, (.int .i64 x24)), (28, y23.enc), (29, (.int .i64 (y23.len : Int))), (30, (.int .i64 0))] ⟨rfl, rfl, rfl, rfl, rfl, rfl, rfl, trivial⟩ ?_;refine tr_loop_j (fun m L' h => ∃ (x3 : Addr) (x22 : Sl) (x23 : Int) (x24 : Int) (x28 : Sl) (x29 : Int) (x30 : Int), L' = [(3, (.pointer (some x3))), (22, x22.enc), (23, (.int .i64 x23)), (24, (.int .i64 x24)), (28, x28.enc), (29, (.int .i64 x29)), (30, (.int .i64 x30))] ∧ F.xad.l2 Q (F.xad.l1 Q q1) m x3 x22 x23 x24 x28 x29 x30 h) ?_ ?_ m43 ⟨_, _, _, _, _, _, _, rfl, H⟩
   ·rintro L' h ⟨_, _, _, _, _, _, _, _, H⟩; exact H
   ·rintro q2 L' h ⟨x3, x22, x23, x24, x28, x29, x30, rfl, H⟩;unfold F.xad.l2 at H;refine tr_seq (tr_region (tq (y_lss rfl rfl) (tr_nil (tr_thenN (tr_seq ?_)))));refine tr_cond rfl (fun g25 => ?_) (fun g25 => ?_)
    ·replace H := H.1 g25;refine tr_skip (tr_thenN (tr_seq (tr_block (tr_seq (tr_region ?_)))));obtain ⟨a26, e27, H⟩ := H;refine tq (f_idx (s := x28) Tryz.runUnderlying146 Tryz.sizeOf156 rfl rfl e27) ?_;obtain ⟨y28, k29, H⟩ := H;refine tr_h (y_ldS Tryz.isAgg156 Tryz.sizeOf156 rfl rfl) k29 rfl rfl (tr_e (f_alloc (cs := ((⟨0, (⟨#[]⟩ : ByteArray), none⟩ : S_table_place_chain_Chain_api_Agg) : S_table_place_chain_Chain_api_Agg).cells.toArray) Tryz.zeroValue156 rfl H) rfl rfl ?_);rintro _ h30 ⟨a31, rfl, H⟩;refine tr_e (f_store (vs := y28.cells) Tryz.sizeOf156 rfl rfl cellsOfStruct rfl (by intro v hv; exact ones_S_table_place_chain_Chain_api_Agg _ v hv) H) rfl rfl ?_;rintro _ h32 ⟨rfl, H⟩;refine tr_nil (tr_thenN (tr_seq (tr_region (tq (y_fa (off := 0) Tryz.runUnderlying156 fo_156_0 rfl) ?_))));obtain ⟨y33, k34, H⟩ := H;refine tr_h (y_ld Tryz.isAgg5 rfl) k34 rfl rfl (tq (y_eql rfl rfl) (tr_nil (tr_thenN ?_)));refine tr_cond rfl (fun g35 => ?_) (fun g35 => ?_)
     ·replace H := H.1 g35;refine tr_region ?_;obtain ⟨y36, k37, H⟩ := H;refine tr_h (y_ld Tryz.isAgg153 rfl) k37 rfl rfl (tq (y_fa (off := 1) Tryz.runUnderlying156 fo_156_1 rfl) ?_);obtain ⟨y38, k39, H⟩ := H;refine tr_h (y_ld Tryz.isAgg9 rfl) k39 rfl rfl (tq (y_fa (off := 2) Tryz.runUnderlying156 fo_156_2 rfl) ?_);obtain ⟨y40, k41, H⟩ := H;refine tr_h (y_ld Tryz.isAgg107 rfl) k41 rfl rfl (tr_e (f_mu rfl rfl rfl H) rfl rfl ?_);rintro _ h42 ⟨rfl, H⟩;refine tr_nil (tr_blockN (tr_thenN (tr_region (tq (y_add rfl rfl) (tq (y_move rfl) (tr_nil (tr_thenN ?_)))))));exact tr_join [(3, (.pointer (some x3))), (22, x22.enc), (23, (.int .i64 x23)), (24, (.int .i64 x24)), (28, x28.enc), (29, (.int .i64 x29)), (30, (.int .i64 (IntKind.wrap .i64 (x30 + 1))))] ⟨rfl, rfl, rfl, rfl, rfl, rfl, rfl, trivial⟩ ⟨_, _, _, _, _, _, _, rfl, H⟩
     ·replace H := H.2 g35;refine tr_skip (tr_blockN (tr_thenN (tr_region (tq (y_add rfl rfl) (tq (y_move rfl) (tr_nil (tr_thenN ?_)))))));exact tr_join [(3, (.pointer (some x3))), (22, x22.enc), (23, (.int .i64 x23)), (24, (.int .i64 x24)), (28, x28.enc), (29, (.int .i64 x29)), (30, (.int .i64 (IntKind.wrap .i64 (x30 + 1))))] ⟨rfl, rfl, rfl, rfl, rfl, rfl, rfl, trivial⟩ ⟨_, _, _, _, _, _, _, rfl, H⟩
    ·replace H := H.2 g25;refine tr_exit (tr_thenE (tr_thenE (tr_hit (tr_blockN (tr_thenN (tr_region (tq (y_add rfl rfl) (tq (y_move rfl) (tr_nil (tr_thenN ?_))))))))));exact tr_join [(3, (.pointer (some x3))), (22, x22.enc), (23, (.int .i64 x23)), (24, (.int .i64 (IntKind.wrap .i64 (x24 + 1))))] ⟨rfl, rfl, rfl, rfl, trivial⟩ ⟨_, _, _, _, rfl, H⟩
  ·replace H := H.2 g20;refine tr_exit (tr_thenE (tr_thenE (tr_hit (tr_thenN (tr_seq (tr_region ?_))))));obtain ⟨y44, k45, H⟩ := H;refine tr_h (y_ld Tryz.isAgg153 rfl) k45 rfl rfl (tr_e (e_call Tryz.call98 rfl (F.xaw_ok H)) rfl rfl ?_);rintro r47 h46 ⟨_, rfl, H⟩;refine tr_e (e_call Tryz.call97 rfl (F.xcs_ok H)) rfl rfl ?_;rintro _ h48 ⟨r49, rfl, H⟩;refine tr_e (f_alloc (cs := #[(⟨none, 0, 0⟩ : Sl).enc]) Tryz.zeroValue22 rfl H) rfl rfl ?_;rintro _ h50 ⟨a51, rfl, H⟩;refine tr_e (f_store (vs := [r49.enc]) Tryz.sizeOf22 rfl rfl rfl rfl (one1 rfl) H) rfl rfl ?_;rintro _ h52 ⟨rfl, H⟩;refine tr_nil (tr_thenN (tr_seq (tr_region (tq (y_fn rfl rfl) (tq (y_assign rfl) (tr_nil (tr_thenN (tr_ret ?_))))))));exact tr_ret1 rfl rfl ⟨_, rfl, H⟩
def F.xaq.l2 (Q : S_api_Cell -> Int -> H -> Prop) : Nat -> ByteArray -> Addr -> Addr -> Int -> Sl -> Int -> H -> Prop
  | 0, _, _, _, _, _, _, _ => False
  | q2 + 1, x0, x2, x4, x5, x6, x8, h =>
    ((decide (x5 < (x0.size : Int))) = true ->
    0 <= (8 : Int) ∧
    idxS x0 x5 fun b42 =>
    (F.xaq.l2 Q q2) x0 x2 x4 (IntKind.wrap .i64 (x5 + 1)) x6 (bitsOf .or .u64 (IntKind.wrap .u64 (x8 * (2 ^ (min (8 : Int).toNat (IntKind.bits .u64)) : Int))) (IntKind.wrap .u64 b42)) h) ∧
    ((decide (x5 < (x0.size : Int))) = false ->
    runT PP (convert 93 9 x6.enc) h fun s45 h44 =>
    stH h44 (x4.add 1) [(.string s45)] fun h46 =>
    stH h46 (x4.add 2) [(.int .i64 (IntKind.wrap .i64 (IntKind.wrap .u64 (x8 - 9223372036854775808))))] fun h47 =>
    ld_S_api_Cell h47 x4 fun y48 =>
    F.xat y48 h47 fun r51 h50 =>
    (((r51 != 0)) = true ->
    stH h50 x2 ((⟨0, (⟨#[]⟩ : ByteArray), 0⟩ : S_api_Cell).cells) fun h53 =>
    ld_S_api_Cell h53 x2 fun y54 =>
    Q y54 r51 h53) ∧
    (((r51 != 0)) = false ->
    ld_S_api_Cell h50 x4 fun y56 =>
    stH h50 x2 y56.cells fun h58 =>
    ld_S_api_Cell h58 x2 fun y59 =>
    Q y59 0 h58))
def F.xaq.l1 (Q : S_api_Cell -> Int -> H -> Prop) : Nat -> ByteArray -> Addr -> Addr -> Int -> Sl -> H -> Prop
  | 0, _, _, _, _, _, _ => False
  | q1 + 1, x0, x2, x4, x5, x6, h =>
    (((x5 == (x0.size : Int))) = true ->
    stH h x2 ((⟨0, (⟨#[]⟩ : ByteArray), 0⟩ : S_api_Cell).cells) fun h13 =>
    ld_S_api_Cell h13 x2 fun y14 =>
    Q y14 11 h13) ∧
    (((x5 == (x0.size : Int))) = false ->
    idxS x0 x5 fun b16 =>
    (((b16 != 0)) = true ->
    idxS x0 x5 fun b19 =>
    newL h #[(.int .u8 b19)] ty_5 1 fun s22 h21 =>
    runL PP (Builtin.append_ #[93, 93] 93 #[x6.enc, s22.enc]) h21 fun s24 h23 =>
    (F.xaq.l1 Q q1) x0 x2 x4 (IntKind.wrap .i64 (x5 + 1)) s24 h23) ∧
    (((b16 != 0)) = false ->
    ((((IntKind.wrap .i64 (x5 + 1)) == (x0.size : Int))) = true ->
    stH h x2 ((⟨0, (⟨#[]⟩ : ByteArray), 0⟩ : S_api_Cell).cells) fun h26 =>
    ld_S_api_Cell h26 x2 fun y27 =>
    Q y27 11 h26) ∧
    ((((IntKind.wrap .i64 (x5 + 1)) == (x0.size : Int))) = false ->
    idxS x0 (IntKind.wrap .i64 ((IntKind.wrap .i64 (x5 + 2)) - 1)) fun b29 =>
    (((b29 == 1)) = true ->
    ((decide ((IntKind.wrap .i64 ((x0.size : Int) - (IntKind.wrap .i64 (x5 + 2)))) < 8)) = true ->
    stH h x2 ((⟨0, (⟨#[]⟩ : ByteArray), 0⟩ : S_api_Cell).cells) fun h33 =>
    ld_S_api_Cell h33 x2 fun y34 =>
    Q y34 11 h33) ∧
    ((decide ((IntKind.wrap .i64 ((x0.size : Int) - (IntKind.wrap .i64 (x5 + 2)))) < 8)) = false ->
    ((decide ((IntKind.wrap .i64 ((x0.size : Int) - (IntKind.wrap .i64 (x5 + 2)))) > 8)) = true ->
    stH h x2 ((⟨0, (⟨#[]⟩ : ByteArray), 0⟩ : S_api_Cell).cells) fun h37 =>
    ld_S_api_Cell h37 x2 fun y38 =>
    Q y38 13 h37) ∧
    ((decide ((IntKind.wrap .i64 ((x0.size : Int) - (IntKind.wrap .i64 (x5 + 2)))) > 8)) = false ->
    ∃ m, F.xaq.l2 Q m x0 x2 x4 (IntKind.wrap .i64 (x5 + 2)) x6 0 h))) ∧
    (((b29 == 1)) = false ->
    idxS x0 (IntKind.wrap .i64 ((IntKind.wrap .i64 (x5 + 2)) - 1)) fun b62 =>
    (((b62 != 255)) = true ->
    stH h x2 ((⟨0, (⟨#[]⟩ : ByteArray), 0⟩ : S_api_Cell).cells) fun h65 =>
    ld_S_api_Cell h65 x2 fun y66 =>
    Q y66 12 h65) ∧
    (((b62 != 255)) = false ->
    newL h #[(.int .u8 0)] ty_5 1 fun s69 h68 =>
    runL PP (Builtin.append_ #[93, 93] 93 #[x6.enc, s69.enc]) h68 fun s71 h70 =>
    (F.xaq.l1 Q q1) x0 x2 x4 (IntKind.wrap .i64 (x5 + 2)) s71 h70)))))
def F.xaq (p0 : ByteArray) (h : H) (Q : S_api_Cell -> Int -> H -> Prop) : Prop :=
  new h (((⟨0, (⟨#[]⟩ : ByteArray), 0⟩ : S_api_Cell) : S_api_Cell).cells.toArray) ty_35 fun a2 h1 =>
  ((p0.toList == (⟨#[]⟩ : ByteArray).toList) = true ->
  stH h1 a2 ((⟨0, (⟨#[]⟩ : ByteArray), 0⟩ : S_api_Cell).cells) fun h4 =>
  ld_S_api_Cell h4 a2 fun y5 =>
  Q y5 11 h4) ∧
  ((p0.toList == (⟨#[]⟩ : ByteArray).toList) = false ->
  idxS p0 0 fun b7 =>
  new h1 (((⟨0, (⟨#[]⟩ : ByteArray), 0⟩ : S_api_Cell) : S_api_Cell).cells.toArray) ty_35 fun a10 h9 =>
  stH h9 a10 ((⟨(IntKind.wrap .i64 b7), (⟨#[]⟩ : ByteArray), 0⟩ : S_api_Cell).cells) fun h11 =>
  ∃ m, F.xaq.l1 Q m p0 a2 a10 1 (⟨none, 0, 0⟩ : Sl) h11)
theorem F.xaq_ok {p0 : ByteArray} {h : H} {Q : S_api_Cell -> Int -> H -> Prop} (H : F.xaq p0 h Q) : Fn PP 73 ([(.string p0)] : List Value).toArray h fun r h' => ∃ r0 r1, r = .tuple #[(.agg r0.cells.toArray), (.int .i64 r1)] ∧ Q r0 r1 h' := by
 unfold F.xaq at H;refine fn_of Tryz.func73 Tryz.ntmps73 rfl rfl fun w0 => (tr_sub [(0, (.string p0))] ⟨rfl, trivial⟩ (tr_seq (tr_region (tr_e (f_alloc (cs := ((⟨0, (⟨#[]⟩ : ByteArray), 0⟩ : S_api_Cell) : S_api_Cell).cells.toArray) Tryz.zeroValue35 rfl H) rfl rfl ?_))));rintro _ h1 ⟨a2, rfl, H⟩;refine tq (y_assign rfl) (tr_nil (tr_thenN (tr_seq (tr_seq (tr_region (tq (y_move rfl) (tq (y_seql rfl rfl) (tr_nil (tr_thenN ?_)))))))));refine tr_cond rfl (fun g3 => ?_) (fun g3 => ?_)
 ·replace H := H.1 g3;refine tr_seq (tr_region (tq (f_build rfl (bd_35_ )) (tr_e (f_store (vs := (⟨0, (⟨#[]⟩ : ByteArray), 0⟩ : S_api_Cell).cells) Tryz.sizeOf35 rfl rfl cellsOfStruct rfl (by intro v hv; exact ones_S_api_Cell _ v hv) H) rfl rfl ?_)));rintro _ h4 ⟨rfl, H⟩;refine tq (y_assign rfl) (tr_nil (tr_thenN (tr_ret (tr_thenR ?_))));obtain ⟨y5, k6, H⟩ := H;exact tr_rv2 rfl (rv_cellS Tryz.isAgg35 Tryz.sizeOf35 rfl rfl k6) (rv_tmp rfl) ⟨_, _, rfl, H⟩
 ·replace H := H.2 g3;refine tr_skip (tr_thenN (tr_seq (tr_region (tq (y_move rfl) ?_))));obtain ⟨b7, e8, H⟩ := H;refine tq (f_idxS Tryz.runUnderlying9 rfl rfl e8) (tq (y_cvt Tryz.runUnderlying5 Tryz.runUnderlying3 rfl) (tq (f_build rfl (bd_35_0 (IntKind.wrap .i64 b7))) (tr_e (f_alloc (cs := ((⟨0, (⟨#[]⟩ : ByteArray), 0⟩ : S_api_Cell) : S_api_Cell).cells.toArray) Tryz.zeroValue35 rfl H) rfl rfl ?_)));rintro _ h9 ⟨a10, rfl, H⟩;refine tr_e (f_store (vs := (⟨(IntKind.wrap .i64 b7), (⟨#[]⟩ : ByteArray), 0⟩ : S_api_Cell).cells) Tryz.sizeOf35 rfl rfl cellsOfStruct rfl (by intro v hv; exact ones_S_api_Cell _ v hv) H) rfl rfl ?_;rintro _ h11 ⟨rfl, H⟩;refine tr_nil (tr_thenN (tr_seq (tr_region (tq (y_assign rfl) (tr_nil (tr_thenN (tr_seq (tr_region (tq (y_assign rfl) (tr_nil (tr_thenN (tr_seq (tr_block ?_)))))))))))));obtain ⟨m72, H⟩ := H;refine tr_sub [(0, (.string p0)), (2, (.pointer (some a2))), (4, (.pointer (some a10))), (5, (.int .i64 1)), (6, (⟨none, 0, 0⟩ : Sl).enc)] ⟨rfl, rfl, rfl, rfl, rfl, trivial⟩ ?_;refine tr_loop_j (fun m L' h => ∃ (x0 : ByteArray) (x2 : Addr) (x4 : Addr) (x5 : Int) (x6 : Sl), L' = [(0, (.string x0)), (2, (.pointer (some x2))), (4, (.pointer (some x4))), (5, (.int .i64 x5)), (6, x6.enc)] ∧ F.xaq.l1 Q m x0 x2 x4 x5 x6 h) ?_ ?_ m72 ⟨_, _, _, _, _, rfl, H⟩
  ·rintro L' h ⟨_, _, _, _, _, _, H⟩; exact H
  ·rintro q1 L' h ⟨x0, x2, x4, x5, x6, rfl, H⟩;unfold F.xaq.l1 at H;refine tr_block (tr_seq (tr_seq (tr_region (tq (y_move rfl) (tq (y_move rfl) (tq (y_lenS Tryz.runUnderlying9 rfl) (tq (y_eql rfl rfl) (tr_nil (tr_thenN ?_)))))))));refine tr_cond rfl (fun g12 => ?_) (fun g12 => ?_)
   ·replace H := H.1 g12;refine tr_seq (tr_region (tq (f_build rfl (bd_35_ )) (tr_e (f_store (vs := (⟨0, (⟨#[]⟩ : ByteArray), 0⟩ : S_api_Cell).cells) Tryz.sizeOf35 rfl rfl cellsOfStruct rfl (by intro v hv; exact ones_S_api_Cell _ v hv) H) rfl rfl ?_)));rintro _ h13 ⟨rfl, H⟩;refine tq (y_assign rfl) (tr_nil (tr_thenN (tr_ret (tr_thenR (tr_blockR (tr_thenR (tr_blockR (tr_thenR ?_))))))));obtain ⟨y14, k15, H⟩ := H;exact tr_rv2 rfl (rv_cellS Tryz.isAgg35 Tryz.sizeOf35 rfl rfl k15) (rv_tmp rfl) ⟨_, _, rfl, H⟩
   ·replace H := H.2 g12;refine tr_skip (tr_thenN (tr_seq (tr_seq (tr_region (tq (y_move rfl) (tq (y_move rfl) ?_))))));obtain ⟨b16, e17, H⟩ := H;refine tq (f_idxS Tryz.runUnderlying9 rfl rfl e17) (tq (y_neq rfl rfl) (tr_nil (tr_thenN ?_)));refine tr_cond rfl (fun g18 => ?_) (fun g18 => ?_)
    ·replace H := H.1 g18;refine tr_seq (tr_region (tq (y_move rfl) (tq (y_move rfl) (tq (y_move rfl) ?_))));obtain ⟨b19, e20, H⟩ := H;refine tq (f_idxS Tryz.runUnderlying9 rfl rfl e20) (tr_e (f_buildL (cs := #[(.int .u8 b19)]) rfl rfl (bl_93_1_0 b19) H) rfl rfl ?_);rintro _ h21 ⟨s22, rfl, H⟩;refine tr_e (f_app rfl H) rfl rfl ?_;rintro _ h23 ⟨s24, rfl, H⟩;refine tq (y_assign rfl) (tr_nil (tr_thenN (tr_seq (tr_region (tq (y_move rfl) (tq (y_add rfl rfl) (tq (y_assign rfl) (tr_nil (tr_thenN (tr_exit (tr_thenE (tr_hit (tr_thenN ?_)))))))))))));exact tr_join [(0, (.string x0)), (2, (.pointer (some x2))), (4, (.pointer (some x4))), (5, (.int .i64 (IntKind.wrap .i64 (x5 + 1)))), (6, s24.enc)] ⟨rfl, rfl, rfl, rfl, rfl, trivial⟩ ⟨_, _, _, _, _, rfl, H⟩
    ·replace H := H.2 g18;refine tr_skip (tr_thenN (tr_seq (tr_seq (tr_region (tq (y_move rfl) (tq (y_add rfl rfl) (tq (y_move rfl) (tq (y_lenS Tryz.runUnderlying9 rfl) (tq (y_eql rfl rfl) (tr_nil (tr_thenN ?_)))))))))));refine tr_cond rfl (fun g25 => ?_) (fun g25 => ?_)
     ·replace H := H.1 g25;refine tr_seq (tr_region (tq (f_build rfl (bd_35_ )) (tr_e (f_store (vs := (⟨0, (⟨#[]⟩ : ByteArray), 0⟩ : S_api_Cell).cells) Tryz.sizeOf35 rfl rfl cellsOfStruct rfl (by intro v hv; exact ones_S_api_Cell _ v hv) H) rfl rfl ?_)));rintro _ h26 ⟨rfl, H⟩;refine tq (y_assign rfl) (tr_nil (tr_thenN (tr_ret (tr_thenR (tr_blockR (tr_thenR (tr_blockR (tr_thenR ?_))))))));obtain ⟨y27, k28, H⟩ := H;exact tr_rv2 rfl (rv_cellS Tryz.isAgg35 Tryz.sizeOf35 rfl rfl k28) (rv_tmp rfl) ⟨_, _, rfl, H⟩
     ·replace H := H.2 g25;refine tr_skip (tr_thenN (tr_seq (tr_region (tq (y_move rfl) (tq (y_add rfl rfl) (tq (y_assign rfl) (tr_nil (tr_thenN (tr_seq (tr_seq (tr_region (tq (y_move rfl) (tq (y_move rfl) ?_)))))))))))));refine tq (y_sub rfl rfl) ?_;obtain ⟨b29, e30, H⟩ := H;refine tq (f_idxS Tryz.runUnderlying9 rfl rfl e30) (tq (y_eql rfl rfl) (tr_nil (tr_thenN ?_)));refine tr_cond rfl (fun g31 => ?_) (fun g31 => ?_)
      ·replace H := H.1 g31;refine tr_exit (tr_thenE (tr_miss rfl (tr_thenE (tr_hit (tr_thenN (tr_seq (tr_seq (tr_region (tq (y_move rfl) (tq (y_lenS Tryz.runUnderlying9 rfl) (tq (y_move rfl) (tq (y_sub rfl rfl) (tq (y_assign rfl) ?_)))))))))))));refine tr_nil (tr_thenN (tr_block (tr_seq (tr_region (tq (y_move rfl) (tq (y_lss rfl rfl) (tq (y_assign rfl) (tr_nil (tr_thenN ?_)))))))));refine tr_cond rfl (fun g32 => ?_) (fun g32 => ?_)
       ·replace H := H.1 g32;refine tr_seq (tr_region (tq (f_build rfl (bd_35_ )) (tr_e (f_store (vs := (⟨0, (⟨#[]⟩ : ByteArray), 0⟩ : S_api_Cell).cells) Tryz.sizeOf35 rfl rfl cellsOfStruct rfl (by intro v hv; exact ones_S_api_Cell _ v hv) H) rfl rfl ?_)));rintro _ h33 ⟨rfl, H⟩;refine tq (y_assign rfl) (tr_nil (tr_thenN (tr_ret (tr_blockR (tr_thenR ?_)))));obtain ⟨y34, k35, H⟩ := H;exact tr_rv2 rfl (rv_cellS Tryz.isAgg35 Tryz.sizeOf35 rfl rfl k35) (rv_tmp rfl) ⟨_, _, rfl, H⟩
       ·replace H := H.2 g32;refine tr_seq (tr_region (tq (y_move rfl) (tq (y_gtr rfl rfl) (tq (y_assign rfl) (tr_nil (tr_thenN ?_))))));refine tr_cond rfl (fun g36 => ?_) (fun g36 => ?_)
        ·replace H := H.1 g36;refine tr_seq (tr_region (tq (f_build rfl (bd_35_ )) (tr_e (f_store (vs := (⟨0, (⟨#[]⟩ : ByteArray), 0⟩ : S_api_Cell).cells) Tryz.sizeOf35 rfl rfl cellsOfStruct rfl (by intro v hv; exact ones_S_api_Cell _ v hv) H) rfl rfl ?_)));rintro _ h37 ⟨rfl, H⟩;refine tq (y_assign rfl) (tr_nil (tr_thenN (tr_ret (tr_blockR (tr_thenR ?_)))));obtain ⟨y38, k39, H⟩ := H;exact tr_rv2 rfl (rv_cellS Tryz.isAgg35 Tryz.sizeOf35 rfl rfl k39) (rv_tmp rfl) ⟨_, _, rfl, H⟩
        ·replace H := H.2 g36;refine tr_skip (tr_blockN (tr_thenN (tr_seq (tr_region (tq (y_assign rfl) (tr_nil (tr_thenN (tr_seq (tr_block ?_)))))))));obtain ⟨m61, H⟩ := H;refine tr_sub [(0, (.string x0)), (2, (.pointer (some x2))), (4, (.pointer (some x4))), (5, (.int .i64 (IntKind.wrap .i64 (x5 + 2)))), (6, x6.enc), (8, (.int .u64 0))] ⟨rfl, rfl, rfl, rfl, rfl, rfl, trivial⟩ ?_;refine tr_loop_j (fun m L' h => ∃ (x0 : ByteArray) (x2 : Addr) (x4 : Addr) (x5 : Int) (x6 : Sl) (x8 : Int), L' = [(0, (.string x0)), (2, (.pointer (some x2))), (4, (.pointer (some x4))), (5, (.int .i64 x5)), (6, x6.enc), (8, (.int .u64 x8))] ∧ F.xaq.l2 Q m x0 x2 x4 x5 x6 x8 h) ?_ ?_ m61 ⟨_, _, _, _, _, _, rfl, H⟩
         ·rintro L' h ⟨_, _, _, _, _, _, _, H⟩; exact H
         ·rintro q2 L' h ⟨x0, x2, x4, x5, x6, x8, rfl, H⟩;unfold F.xaq.l2 at H;refine tr_seq (tr_seq (tr_region (tq (y_move rfl) (tq (y_move rfl) (tq (y_lenS Tryz.runUnderlying9 rfl) (tq (y_lss rfl rfl) (tr_nil (tr_thenN ?_))))))));refine tr_cond rfl (fun g40 => ?_) (fun g40 => ?_)
          ·replace H := H.1 g40;refine tr_skip (tr_thenN (tr_seq (tr_block (tr_region (tq (y_move rfl) ?_)))));obtain ⟨e41, H⟩ := H;refine tq (y_shl rfl rfl e41) (tq (y_move rfl) (tq (y_move rfl) ?_));obtain ⟨b42, e43, H⟩ := H;refine tq (f_idxS Tryz.runUnderlying9 rfl rfl e43) (tq (y_cvt Tryz.runUnderlying5 Tryz.runUnderlying90 rfl) (tq (y_or rfl rfl) (tq (y_assign rfl) (tr_nil (tr_blockN (tr_thenN (tr_region (tq (y_move rfl) (tq (y_add rfl rfl) (tq (y_assign rfl) (tr_nil (tr_thenN ?_))))))))))));exact tr_join [(0, (.string x0)), (2, (.pointer (some x2))), (4, (.pointer (some x4))), (5, (.int .i64 (IntKind.wrap .i64 (x5 + 1)))), (6, x6.enc), (8, (.int .u64 (bitsOf .or .u64 (IntKind.wrap .u64 (x8 * (2 ^ (min (8 : Int).toNat (IntKind.bits .u64)) : Int))) (IntKind.wrap .u64 b42))))] ⟨rfl, rfl, rfl, rfl, rfl, rfl, trivial⟩ ⟨_, _, _, _, _, _, rfl, H⟩
          ·replace H := H.2 g40;refine tr_exit (tr_thenE (tr_thenE (tr_hit (tr_thenN (tr_seq (tr_region (tq (y_move rfl) (tr_e (f_cvtT rfl H) rfl rfl ?_))))))));rintro _ h44 ⟨s45, rfl, H⟩;refine tq (y_move rfl) (tq (y_sub rfl rfl) (tq (y_cvt Tryz.runUnderlying90 Tryz.runUnderlying2 rfl) (tq (y_fa (off := 1) Tryz.runUnderlying35 fo_35_1 rfl) (tr_e (f_store (vs := [(.string s45)]) Tryz.sizeOf9 rfl rfl rfl rfl (one1 rfl) H) rfl rfl ?_))));rintro _ h46 ⟨rfl, H⟩;refine tq (y_fa (off := 2) Tryz.runUnderlying35 fo_35_2 rfl) (tr_e (f_store (vs := [(.int .i64 (IntKind.wrap .i64 (IntKind.wrap .u64 (x8 - 9223372036854775808))))]) Tryz.sizeOf2 rfl rfl rfl rfl (one1 rfl) H) rfl rfl ?_);rintro _ h47 ⟨rfl, H⟩;refine tr_nil (tr_thenN (tr_seq (tr_seq (tr_region ?_))));obtain ⟨y48, k49, H⟩ := H;refine tr_h (y_ldS Tryz.isAgg35 Tryz.sizeOf35 rfl rfl) k49 rfl rfl (tr_e (e_call Tryz.call109 rfl (F.xat_ok H)) rfl rfl ?_);rintro _ h50 ⟨r51, rfl, H⟩;refine tq (y_assign rfl) (tr_nil (tr_thenN (tr_seq (tr_region (tq (y_move rfl) (tq (y_neq rfl rfl) (tr_nil (tr_thenN ?_))))))));refine tr_cond rfl (fun g52 => ?_) (fun g52 => ?_)
           ·replace H := H.1 g52;refine tr_seq (tr_region (tq (f_build rfl (bd_35_ )) (tq (y_move rfl) (tr_e (f_store (vs := (⟨0, (⟨#[]⟩ : ByteArray), 0⟩ : S_api_Cell).cells) Tryz.sizeOf35 rfl rfl cellsOfStruct rfl (by intro v hv; exact ones_S_api_Cell _ v hv) H) rfl rfl ?_))));rintro _ h53 ⟨rfl, H⟩;refine tq (y_assign rfl) (tr_nil (tr_thenN (tr_ret (tr_thenR ?_))));obtain ⟨y54, k55, H⟩ := H;exact tr_rv2 rfl (rv_cellS Tryz.isAgg35 Tryz.sizeOf35 rfl rfl k55) (rv_tmp rfl) ⟨_, _, rfl, H⟩
           ·replace H := H.2 g52;refine tr_skip (tr_thenN (tr_seq (tr_region ?_)));obtain ⟨y56, k57, H⟩ := H;refine tr_h (y_ldS Tryz.isAgg35 Tryz.sizeOf35 rfl rfl) k57 rfl rfl (tr_e (f_store (vs := y56.cells) Tryz.sizeOf35 rfl rfl cellsOfStruct rfl (by intro v hv; exact ones_S_api_Cell _ v hv) H) rfl rfl ?_);rintro _ h58 ⟨rfl, H⟩;refine tq (y_assign rfl) (tr_nil (tr_thenN (tr_ret ?_)));obtain ⟨y59, k60, H⟩ := H;exact tr_rv2 rfl (rv_cellS Tryz.isAgg35 Tryz.sizeOf35 rfl rfl k60) (rv_tmp rfl) ⟨_, _, rfl, H⟩
      ·replace H := H.2 g31;refine tr_skip (tr_thenN (tr_seq (tr_seq (tr_region (tq (y_move rfl) (tq (y_move rfl) (tq (y_sub rfl rfl) ?_)))))));obtain ⟨b62, e63, H⟩ := H;refine tq (f_idxS Tryz.runUnderlying9 rfl rfl e63) (tq (y_neq rfl rfl) (tr_nil (tr_thenN ?_)));refine tr_cond rfl (fun g64 => ?_) (fun g64 => ?_)
       ·replace H := H.1 g64;refine tr_seq (tr_region (tq (f_build rfl (bd_35_ )) (tr_e (f_store (vs := (⟨0, (⟨#[]⟩ : ByteArray), 0⟩ : S_api_Cell).cells) Tryz.sizeOf35 rfl rfl cellsOfStruct rfl (by intro v hv; exact ones_S_api_Cell _ v hv) H) rfl rfl ?_)));rintro _ h65 ⟨rfl, H⟩;refine tq (y_assign rfl) (tr_nil (tr_thenN (tr_ret (tr_thenR (tr_blockR (tr_thenR (tr_blockR (tr_thenR ?_))))))));obtain ⟨y66, k67, H⟩ := H;exact tr_rv2 rfl (rv_cellS Tryz.isAgg35 Tryz.sizeOf35 rfl rfl k67) (rv_tmp rfl) ⟨_, _, rfl, H⟩
       ·replace H := H.2 g64;refine tr_skip (tr_thenN (tr_region (tq (y_move rfl) (tr_e (f_buildL (cs := #[(.int .u8 0)]) rfl rfl (bl_93_1_0 0) H) rfl rfl ?_))));rintro _ h68 ⟨s69, rfl, H⟩;refine tr_e (f_app rfl H) rfl rfl ?_;rintro _ h70 ⟨s71, rfl, H⟩;refine tq (y_assign rfl) (tr_nil (tr_blockN (tr_thenN ?_)));exact tr_join [(0, (.string x0)), (2, (.pointer (some x2))), (4, (.pointer (some x4))), (5, (.int .i64 (IntKind.wrap .i64 (x5 + 2)))), (6, s71.enc)] ⟨rfl, rfl, rfl, rfl, rfl, trivial⟩ ⟨_, _, _, _, _, rfl, H⟩
def F.xbq.l1 (Q : Int -> Bool -> H -> Prop) : Nat -> Sl -> Int -> Value -> Int -> Int -> Int -> H -> Prop
  | 0, _, _, _, _, _, _, _ => False
  | q1 + 1, x0, x1, x2, x8, x9, x10, h =>
    ((decide (x9 < x10)) = true ->
    0 <= (1 : Int) ∧
    idxA x0 (IntKind.wrap .i64 (Int.fdiv (IntKind.wrap .u64 (IntKind.wrap .i64 (x9 + x10))) (2 ^ (min (1 : Int).toNat (IntKind.bits .u64)) : Int))) 6 fun a3 =>
    ld_S_chain_version_api_Agg h a3 fun y5 =>
    CV PP x2 [(.agg y5.cells.toArray), (.int .i64 x1)] h fun u h7 => ∃ (r8 : Int), u = (.int .i64 r8) ∧
    ((decide (r8 < 0)) = true ->
    (F.xbq.l1 Q q1) x0 x1 x2 x8 (IntKind.wrap .i64 ((IntKind.wrap .i64 (Int.fdiv (IntKind.wrap .u64 (IntKind.wrap .i64 (x9 + x10))) (2 ^ (min (1 : Int).toNat (IntKind.bits .u64)) : Int))) + 1)) x10 h7) ∧
    ((decide (r8 < 0)) = false ->
    (F.xbq.l1 Q q1) x0 x1 x2 x8 x9 (IntKind.wrap .i64 (Int.fdiv (IntKind.wrap .u64 (IntKind.wrap .i64 (x9 + x10))) (2 ^ (min (1 : Int).toNat (IntKind.bits .u64)) : Int))) h7)) ∧
    ((decide (x9 < x10)) = false ->
    ((decide (x9 < x8)) = true ->
    idxA x0 x9 6 fun a11 =>
    ld_S_chain_version_api_Agg h a11 fun y13 =>
    CV PP x2 [(.agg y13.cells.toArray), (.int .i64 x1)] h fun u h15 => ∃ (r16 : Int), u = (.int .i64 r16) ∧
    Q x9 ((r16 == 0)) h15) ∧
    ((decide (x9 < x8)) = false ->
    Q x9 false h))
def F.xbq (p0 : Sl) (p1 : Int) (p2 : Value) (h : H) (Q : Int -> Bool -> H -> Prop) : Prop :=
  ∃ m, F.xbq.l1 Q m p0 p1 p2 (p0.len : Int) 0 (p0.len : Int) h
theorem F.xbq_ok {p0 : Sl} {p1 : Int} {p2 : Value} {h : H} {Q : Int -> Bool -> H -> Prop} (H : F.xbq p0 p1 p2 h Q) : Fn PP 126 ([p0.enc, (.int .i64 p1), p2] : List Value).toArray h fun r h' => ∃ r0 r1, r = .tuple #[(.int .i64 r0), (.bool r1)] ∧ Q r0 r1 h' := by
 unfold F.xbq at H;refine fn_of Tryz.func126 Tryz.ntmps126 rfl rfl fun w0 => (tr_sub [(0, p0.enc), (1, (.int .i64 p1)), (2, p2)] ⟨rfl, rfl, rfl, trivial⟩ (tr_seq (tr_region (tq (y_assign rfl) (tq (y_assign rfl) (tr_nil (tr_thenN (tr_seq (tr_region (tq (y_move rfl) (tq (y_len (ts := #[]) Tryz.runUnderlying162 (o := p0.ptr) (n := p0.len) (cap := p0.cap) rfl) (tq (y_assign rfl) (tr_nil ?_)))))))))))));refine tr_thenN (tr_seq (tr_region (tq (y_move rfl) (tq (y_assign rfl) (tq (y_assign rfl) (tr_nil (tr_thenN (tr_seq (tr_block ?_)))))))));obtain ⟨m17, H⟩ := H;refine tr_sub [(0, p0.enc), (1, (.int .i64 p1)), (2, p2), (8, (.int .i64 (p0.len : Int))), (9, (.int .i64 0)), (10, (.int .i64 (p0.len : Int)))] ⟨rfl, rfl, rfl, rfl, rfl, rfl, trivial⟩ ?_;refine tr_loop_j (fun m L' h => ∃ (x0 : Sl) (x1 : Int) (x2 : Value) (x8 : Int) (x9 : Int) (x10 : Int), L' = [(0, x0.enc), (1, (.int .i64 x1)), (2, x2), (8, (.int .i64 x8)), (9, (.int .i64 x9)), (10, (.int .i64 x10))] ∧ F.xbq.l1 Q m x0 x1 x2 x8 x9 x10 h) ?_ ?_ m17 ⟨_, _, _, _, _, _, rfl, H⟩
 ·rintro L' h ⟨_, _, _, _, _, _, _, H⟩; exact H
 ·rintro q1 L' h ⟨x0, x1, x2, x8, x9, x10, rfl, H⟩;unfold F.xbq.l1 at H;refine tr_seq (tr_seq (tr_region (tq (y_move rfl) (tq (y_move rfl) (tq (y_lss rfl rfl) (tr_nil (tr_thenN ?_)))))));refine tr_cond rfl (fun g1 => ?_) (fun g1 => ?_)
  ·replace H := H.1 g1;refine tr_skip (tr_thenN (tr_block (tr_seq (tr_region (tq (y_move rfl) (tq (y_move rfl) (tq (y_add rfl rfl) (tq (y_cvt Tryz.runUnderlying3 Tryz.runUnderlying177 rfl) ?_))))))));obtain ⟨e2, H⟩ := H;refine tq (y_shr rfl rfl e2) (tq (y_cvt Tryz.runUnderlying177 Tryz.runUnderlying3 rfl) (tq (y_assign rfl) (tr_nil (tr_thenN (tr_seq (tr_region (tq (y_move rfl) (tq (y_move rfl) (tq (y_move rfl) ?_)))))))));obtain ⟨a3, e4, H⟩ := H;refine tq (f_idx (s := x0) Tryz.runUnderlying162 Tryz.sizeOf152 rfl rfl e4) ?_;obtain ⟨y5, k6, H⟩ := H;refine tr_h (y_ldS Tryz.isAgg152 Tryz.sizeOf152 rfl rfl) k6 rfl rfl (tq (y_move rfl) (tr_e (e_callD rfl rfl H) rfl rfl ?_));rintro _ h7 ⟨r8, rfl, H⟩;refine tq (y_lss rfl rfl) (tr_nil (tr_thenN ?_));refine tr_cond rfl (fun g9 => ?_) (fun g9 => ?_)
   ·replace H := H.1 g9;refine tr_region (tq (y_move rfl) (tq (y_add rfl rfl) (tq (y_assign rfl) (tr_nil (tr_blockN (tr_thenN ?_))))));exact tr_join [(0, x0.enc), (1, (.int .i64 x1)), (2, x2), (8, (.int .i64 x8)), (9, (.int .i64 (IntKind.wrap .i64 ((IntKind.wrap .i64 (Int.fdiv (IntKind.wrap .u64 (IntKind.wrap .i64 (x9 + x10))) (2 ^ (min (1 : Int).toNat (IntKind.bits .u64)) : Int))) + 1)))), (10, (.int .i64 x10))] ⟨rfl, rfl, rfl, rfl, rfl, rfl, trivial⟩ ⟨_, _, _, _, _, _, rfl, H⟩
   ·replace H := H.2 g9;refine tr_region (tq (y_move rfl) (tq (y_assign rfl) (tr_nil (tr_blockN (tr_thenN ?_)))));exact tr_join [(0, x0.enc), (1, (.int .i64 x1)), (2, x2), (8, (.int .i64 x8)), (9, (.int .i64 x9)), (10, (.int .i64 (IntKind.wrap .i64 (Int.fdiv (IntKind.wrap .u64 (IntKind.wrap .i64 (x9 + x10))) (2 ^ (min (1 : Int).toNat (IntKind.bits .u64)) : Int)))))] ⟨rfl, rfl, rfl, rfl, rfl, rfl, trivial⟩ ⟨_, _, _, _, _, _, rfl, H⟩
  ·replace H := H.2 g1;refine tr_exit (tr_thenE (tr_thenE (tr_hit (tr_thenN (tr_seq (tr_region (tq (y_move rfl) (tq (y_move rfl) (tq (y_move rfl) (tq (y_lss rfl rfl) (tq (y_move rfl) ?_)))))))))));refine tr_split (t := 39) rfl (fun g10 => ?_) (fun g10 => ?_)
   ·replace H := H.1 g10;refine tq (y_move rfl) (tq (y_move rfl) (tq (y_move rfl) ?_));obtain ⟨a11, e12, H⟩ := H;refine tq (f_idx (s := x0) Tryz.runUnderlying162 Tryz.sizeOf152 rfl rfl e12) ?_;obtain ⟨y13, k14, H⟩ := H;refine tr_h (y_ldS Tryz.isAgg152 Tryz.sizeOf152 rfl rfl) k14 rfl rfl (tq (y_move rfl) (tr_e (e_callD rfl rfl H) rfl rfl ?_));rintro _ h15 ⟨r16, rfl, H⟩;refine tq (y_eql rfl rfl) (tq (y_pick_t rfl rfl) (tq (y_assign rfl) (tq (y_assign rfl) (tr_nil (tr_thenN (tr_ret ?_))))));exact tr_ret2 rfl rfl rfl ⟨_, _, rfl, H⟩
   ·replace H := H.2 g10;refine ts (ts (ts (ts (ts (ts (ts (ts (tq (y_pick_f rfl rfl) (tq (y_assign rfl) (tq (y_assign rfl) (tr_nil (tr_thenN (tr_ret ?_)))))))))))));exact tr_ret2 rfl rfl rfl ⟨_, _, rfl, H⟩
def F.xdk (p0 : S_chain_version_api_Agg) (p1 : Int) (h : H) (Q : Int -> H -> Prop) : Prop :=
  new h p0.cells.toArray ty_152 fun a2 h1 =>
  ldI .i64 h1 (a2.add 0) fun y3 =>
  ((decide (y3 <= p1)) = true ->
  Q (-1) h1) ∧
  ((decide (y3 <= p1)) = false ->
  Q 1 h1)
theorem F.xdk_ok {p0 : S_chain_version_api_Agg} {p1 : Int} {h : H} {Q : Int -> H -> Prop} (H : F.xdk p0 p1 h Q) : Fn PP 127 ([(.agg p0.cells.toArray), (.int .i64 p1)] : List Value).toArray h fun r h' => ∃ r0, r = (.int .i64 r0) ∧ Q r0 h' := by
 unfold F.xdk at H;refine fn_of Tryz.func127 Tryz.ntmps127 rfl rfl fun w0 => (tr_sub [(0, (.agg p0.cells.toArray)), (1, (.int .i64 p1))] ⟨rfl, rfl, trivial⟩ (tr_seq (tr_region (tr_e (f_box (cs := p0.cells.toArray) rfl rfl H) rfl rfl ?_))));rintro _ h1 ⟨a2, rfl, H⟩;refine tq (y_assign rfl) (tr_nil (tr_thenN (tr_seq (tr_seq (tr_region (tq (y_fa (off := 0) Tryz.runUnderlying152 fo_152_0 rfl) ?_))))));obtain ⟨y3, k4, H⟩ := H;refine tr_h (y_ld Tryz.isAgg3 rfl) k4 rfl rfl (tq (y_move rfl) (tq (y_leq rfl rfl) (tr_nil (tr_thenN ?_))));refine tr_cond rfl (fun g5 => ?_) (fun g5 => ?_)
 ·replace H := H.1 g5;refine tr_seq (tr_region (tq (y_assign rfl) (tr_nil (tr_thenN (tr_ret (tr_thenR ?_))))));exact tr_ret1 rfl rfl ⟨_, rfl, H⟩
 ·replace H := H.2 g5;refine tr_skip (tr_thenN (tr_seq (tr_region (tq (y_assign rfl) (tr_nil (tr_thenN (tr_ret ?_)))))));exact tr_ret1 rfl rfl ⟨_, rfl, H⟩
def F.xbg (p0 : Option Addr) (p1 : Int) (h : H) (Q : Int -> H -> Prop) : Prop :=
  nn p0 fun a1 =>
  ldL h (a1.add 0) fun y3 =>
  F.xbq y3 p1 (.func (.func 127) #[] #[]) h fun r6 r7 h5 =>
  Q (IntKind.wrap .i64 (r6 - 1)) h5
theorem F.xbg_ok {p0 : Option Addr} {p1 : Int} {h : H} {Q : Int -> H -> Prop} (H : F.xbg p0 p1 h Q) : Fn PP 100 ([(.pointer p0), (.int .i64 p1)] : List Value).toArray h fun r h' => ∃ r0, r = (.int .i64 r0) ∧ Q r0 h' := by
 unfold F.xbg at H;refine fn_of Tryz.func100 Tryz.ntmps100 rfl rfl fun w0 => (tr_sub [(0, (.pointer p0)), (1, (.int .i64 p1))] ⟨rfl, rfl, trivial⟩ (tr_seq (tr_region (tq (y_assign rfl) (tr_nil (tr_thenN (tr_seq (tr_region (tq (y_move rfl) ?_)))))))));obtain ⟨a1, e2, H⟩ := H;refine tq (f_nn rfl e2) (tq (y_fa (off := 0) Tryz.runUnderlying164 fo_164_0 rfl) ?_);obtain ⟨y3, k4, H⟩ := H;refine tr_h (y_ld Tryz.isAgg162 rfl) k4 rfl rfl (tq (y_move rfl) (tr_e (e_call Tryz.call126 rfl (F.xbq_ok H)) rfl rfl ?_));rintro _ h5 ⟨r6, r7, rfl, H⟩;refine tq (y_move rfl) (tq (y_ext rfl rfl) (tq (y_ext rfl rfl) (tq (y_assign rfl) (tq (y_assign rfl) (tr_nil (tr_thenN (tr_seq (tr_region (tq (y_move rfl) (tq (y_sub rfl rfl) (tq (y_assign rfl) (tr_nil (tr_thenN ?_)))))))))))));refine tr_ret ?_;exact tr_ret1 rfl rfl ⟨_, rfl, H⟩
def F.xbb.j1 (Q : S_api_Agg -> Bool -> H -> Prop) (x4 : Addr) (h : H) : Prop :=
  ld_S_api_Agg h x4 fun y3 =>
  stH h x4 y3.cells fun h5 =>
  ld_S_api_Agg h5 x4 fun y6 =>
  Q y6 false h5
def F.xbb.j2 (Q : S_api_Agg -> Bool -> H -> Prop) (x0 : Option Addr) (x4 : Addr) (x6 : Int) (x22 : Bool) (h : H) : Prop :=
  (x22 = true ->
  nn x0 fun a11 =>
  ldL h (a11.add 0) fun y13 =>
  idxA y13 x6 6 fun a15 =>
  ld_S_api_Agg h (a15.add 1) fun y17 =>
  stH h x4 y17.cells fun h19 =>
  ld_S_api_Agg h19 x4 fun y20 =>
  Q y20 true h19) ∧
  (x22 = false ->
  F.xbb.j1 Q x4 h)
def F.xbb (p0 : Option Addr) (p1 : Int) (h : H) (Q : S_api_Agg -> Bool -> H -> Prop) : Prop :=
  new h (((⟨0, 0, 0, 0⟩ : S_api_Agg) : S_api_Agg).cells.toArray) ty_40 fun a2 h1 =>
  F.xbg p0 p1 h1 fun r9 h8 =>
  ((decide (r9 >= 0)) = true ->
  nn p0 fun a23 =>
  ldL h8 (a23.add 0) fun y25 =>
  idxA y25 r9 6 fun a27 =>
  ldB h8 (a27.add 5) fun y29 =>
  F.xbb.j2 Q p0 a2 r9 (!y29) h8) ∧
  ((decide (r9 >= 0)) = false ->
  F.xbb.j2 Q p0 a2 r9 false h8)
theorem F.xbb_ok {p0 : Option Addr} {p1 : Int} {h : H} {Q : S_api_Agg -> Bool -> H -> Prop} (H : F.xbb p0 p1 h Q) : Fn PP 108 ([(.pointer p0), (.int .i64 p1)] : List Value).toArray h fun r h' => ∃ r0 r1, r = .tuple #[(.agg r0.cells.toArray), (.bool r1)] ∧ Q r0 r1 h' := by
 unfold F.xbb at H;refine fn_of Tryz.func108 Tryz.ntmps108 rfl rfl fun w0 => (tr_sub [(0, (.pointer p0)), (1, (.int .i64 p1))] ⟨rfl, rfl, trivial⟩ (tr_seq (tr_region (tr_e (f_alloc (cs := ((⟨0, 0, 0, 0⟩ : S_api_Agg) : S_api_Agg).cells.toArray) Tryz.zeroValue40 rfl H) rfl rfl ?_))));rintro _ h1 ⟨a2, rfl, H⟩;refine tq (y_assign rfl) (tr_nil (tr_thenN ?_));refine tr_seq_j (fun L' h => ∃ (x4 : Addr), L' = [(4, (.pointer (some x4)))] ∧ F.xbb.j1 Q x4 h) ?_ ?_
 ·rintro L' h ⟨x4, rfl, H⟩;unfold F.xbb.j1 at H;refine tr_seq (tr_region ?_);obtain ⟨y3, k4, H⟩ := H;refine tr_h (y_ldS Tryz.isAgg40 Tryz.sizeOf40 rfl rfl) k4 rfl rfl (tr_e (f_store (vs := y3.cells) Tryz.sizeOf40 rfl rfl cellsOfStruct rfl (by intro v hv; exact ones_S_api_Agg _ v hv) H) rfl rfl ?_);rintro _ h5 ⟨rfl, H⟩;refine tq (y_assign rfl) (tr_nil (tr_thenN (tr_ret ?_)));obtain ⟨y6, k7, H⟩ := H;exact tr_rv2 rfl (rv_cellS Tryz.isAgg40 Tryz.sizeOf40 rfl rfl k7) (rv_tmp rfl) ⟨_, _, rfl, H⟩
 ·refine tr_seq (tr_region (tq (y_move rfl) (tq (y_move rfl) (tr_e (e_call Tryz.call100 rfl (F.xbg_ok H)) rfl rfl ?_))));rintro _ h8 ⟨r9, rfl, H⟩;refine tq (y_assign rfl) (tr_nil (tr_thenN ?_));refine tr_seq_j (fun L' h => ∃ (x0 : Option Addr) (x4 : Addr) (x6 : Int) (x22 : Bool), L' = [(0, (.pointer x0)), (4, (.pointer (some x4))), (6, (.int .i64 x6)), (22, (.bool x22))] ∧ F.xbb.j2 Q x0 x4 x6 x22 h) ?_ ?_
  ·rintro L' h ⟨x0, x4, x6, x22, rfl, H⟩;unfold F.xbb.j2 at H;refine tr_cond rfl (fun g10 => ?_) (fun g10 => ?_)
   ·replace H := H.1 g10;refine tr_seq (tr_region (tq (y_move rfl) ?_));obtain ⟨a11, e12, H⟩ := H;refine tq (f_nn rfl e12) (tq (y_fa (off := 0) Tryz.runUnderlying164 fo_164_0 rfl) ?_);obtain ⟨y13, k14, H⟩ := H;refine tr_h (y_ld Tryz.isAgg162 rfl) k14 rfl rfl (tq (y_move rfl) ?_);obtain ⟨a15, e16, H⟩ := H;refine tq (f_idx (s := y13) Tryz.runUnderlying162 Tryz.sizeOf152 rfl rfl e16) (tq (y_fa (off := 1) Tryz.runUnderlying152 fo_152_1 rfl) ?_);obtain ⟨y17, k18, H⟩ := H;refine tr_h (y_ldS Tryz.isAgg40 Tryz.sizeOf40 rfl rfl) k18 rfl rfl (tr_e (f_store (vs := y17.cells) Tryz.sizeOf40 rfl rfl cellsOfStruct rfl (by intro v hv; exact ones_S_api_Agg _ v hv) H) rfl rfl ?_);rintro _ h19 ⟨rfl, H⟩;refine tq (y_assign rfl) (tr_nil (tr_thenN (tr_ret (tr_thenR ?_))));obtain ⟨y20, k21, H⟩ := H;exact tr_rv2 rfl (rv_cellS Tryz.isAgg40 Tryz.sizeOf40 rfl rfl k21) (rv_tmp rfl) ⟨_, _, rfl, H⟩
   ·replace H := H.2 g10;refine tr_skip (tr_thenN ?_);exact tr_join [(4, (.pointer (some x4)))] ⟨rfl, trivial⟩ ⟨_, rfl, H⟩
  ·refine tr_region (tq (y_move rfl) (tq (y_geq rfl rfl) (tq (y_move rfl) ?_)));refine tr_split (t := 12) rfl (fun g22 => ?_) (fun g22 => ?_)
   ·replace H := H.1 g22;refine tq (y_move rfl) ?_;obtain ⟨a23, e24, H⟩ := H;refine tq (f_nn rfl e24) (tq (y_fa (off := 0) Tryz.runUnderlying164 fo_164_0 rfl) ?_);obtain ⟨y25, k26, H⟩ := H;refine tr_h (y_ld Tryz.isAgg162 rfl) k26 rfl rfl (tq (y_move rfl) ?_);obtain ⟨a27, e28, H⟩ := H;refine tq (f_idx (s := y25) Tryz.runUnderlying162 Tryz.sizeOf152 rfl rfl e28) (tq (y_fa (off := 5) Tryz.runUnderlying152 fo_152_2 rfl) ?_);obtain ⟨y29, k30, H⟩ := H;refine tr_h (y_ld Tryz.isAgg4 rfl) k30 rfl rfl (tq (y_not rfl) (tq (y_pick_t rfl rfl) (tr_nil (tr_thenN ?_))));exact tr_join [(0, (.pointer p0)), (4, (.pointer (some a2))), (6, (.int .i64 r9)), (22, (.bool (!y29)))] ⟨rfl, rfl, rfl, rfl, trivial⟩ ⟨_, _, _, _, rfl, H⟩
   ·replace H := H.2 g22;refine ts (ts (ts (ts (ts (ts (ts (ts (ts (tq (y_pick_f rfl rfl) (tr_nil (tr_thenN ?_)))))))))));exact tr_join [(0, (.pointer p0)), (4, (.pointer (some a2))), (6, (.int .i64 r9)), (22, (.bool false))] ⟨rfl, rfl, rfl, rfl, trivial⟩ ⟨_, _, _, _, rfl, H⟩
def F.xbx (p0 : Option Addr) (p1 : Int) (h : H) (Q : S_api_Agg -> Bool -> H -> Prop) : Prop :=
  new h (((⟨0, 0, 0, 0⟩ : S_api_Agg) : S_api_Agg).cells.toArray) ty_40 fun a2 h1 =>
  (p0.isNone = true ->
  stH h1 a2 ((⟨0, 0, 0, 0⟩ : S_api_Agg).cells) fun h4 =>
  ld_S_api_Agg h4 a2 fun y5 =>
  Q y5 false h4) ∧
  (p0.isNone = false ->
  (((p1 == 0)) = true ->
  F.xbt p0 h1 fun r9 r10 r11 h8 =>
  new h8 (((⟨0, 0, 0, 0⟩ : S_api_Agg) : S_api_Agg).cells.toArray) ty_40 fun a13 h12 =>
  stH h12 a13 r9.cells fun h14 =>
  ld_S_api_Agg h14 a13 fun y15 =>
  stH h14 a2 y15.cells fun h17 =>
  ld_S_api_Agg h17 a2 fun y18 =>
  Q y18 r11 h17) ∧
  (((p1 == 0)) = false ->
  F.xbb p0 p1 h1 fun r21 r22 h20 =>
  stH h20 a2 r21.cells fun h23 =>
  ld_S_api_Agg h23 a2 fun y24 =>
  Q y24 r22 h23))
theorem F.xbx_ok {p0 : Option Addr} {p1 : Int} {h : H} {Q : S_api_Agg -> Bool -> H -> Prop} (H : F.xbx p0 p1 h Q) : Fn PP 71 ([(.pointer p0), (.int .i64 p1)] : List Value).toArray h fun r h' => ∃ r0 r1, r = .tuple #[(.agg r0.cells.toArray), (.bool r1)] ∧ Q r0 r1 h' := by
 unfold F.xbx at H;refine fn_of Tryz.func71 Tryz.ntmps71 rfl rfl fun w0 => (tr_sub [(0, (.pointer p0)), (1, (.int .i64 p1))] ⟨rfl, rfl, trivial⟩ (tr_seq (tr_region (tr_e (f_alloc (cs := ((⟨0, 0, 0, 0⟩ : S_api_Agg) : S_api_Agg).cells.toArray) Tryz.zeroValue40 rfl H) rfl rfl ?_))));rintro _ h1 ⟨a2, rfl, H⟩;refine tq (y_assign rfl) (tr_nil (tr_thenN (tr_seq (tr_seq (tr_region (tq (y_move rfl) (tq (y_pnil_eql Tryz.runUnderlying107 rfl rfl) (tr_nil (tr_thenN ?_)))))))));refine tr_cond rfl (fun g3 => ?_) (fun g3 => ?_)
 ·replace H := H.1 g3;refine tr_seq (tr_region (tq (f_build rfl (bd_40_ )) (tr_e (f_store (vs := (⟨0, 0, 0, 0⟩ : S_api_Agg).cells) Tryz.sizeOf40 rfl rfl cellsOfStruct rfl (by intro v hv; exact ones_S_api_Agg _ v hv) H) rfl rfl ?_)));rintro _ h4 ⟨rfl, H⟩;refine tq (y_assign rfl) (tr_nil (tr_thenN (tr_ret (tr_thenR ?_))));obtain ⟨y5, k6, H⟩ := H;exact tr_rv2 rfl (rv_cellS Tryz.isAgg40 Tryz.sizeOf40 rfl rfl k6) (rv_tmp rfl) ⟨_, _, rfl, H⟩
 ·replace H := H.2 g3;refine tr_skip (tr_thenN (tr_seq (tr_seq (tr_region (tq (y_move rfl) (tq (y_eql rfl rfl) (tr_nil (tr_thenN ?_))))))));refine tr_cond rfl (fun g7 => ?_) (fun g7 => ?_)
  ·replace H := H.1 g7;refine tr_seq (tr_region (tq (y_move rfl) (tr_e (e_call Tryz.call65 rfl (F.xbt_ok H)) rfl rfl ?_)));rintro _ h8 ⟨r9, r10, r11, rfl, H⟩;refine tq (y_move rfl) (tq (y_ext rfl rfl) (tq (y_ext rfl rfl) (tq (y_ext rfl rfl) (tr_e (f_alloc (cs := ((⟨0, 0, 0, 0⟩ : S_api_Agg) : S_api_Agg).cells.toArray) Tryz.zeroValue40 rfl H) rfl rfl ?_))));rintro _ h12 ⟨a13, rfl, H⟩;refine tr_e (f_store (vs := r9.cells) Tryz.sizeOf40 rfl rfl cellsOfStruct rfl (by intro v hv; exact ones_S_api_Agg _ v hv) H) rfl rfl ?_;rintro _ h14 ⟨rfl, H⟩;refine tq (y_assign rfl) (tq (y_assign rfl) (tr_nil (tr_thenN (tr_seq (tr_region ?_)))));obtain ⟨y15, k16, H⟩ := H;refine tr_h (y_ldS Tryz.isAgg40 Tryz.sizeOf40 rfl rfl) k16 rfl rfl (tq (y_move rfl) (tr_e (f_store (vs := y15.cells) Tryz.sizeOf40 rfl rfl cellsOfStruct rfl (by intro v hv; exact ones_S_api_Agg _ v hv) H) rfl rfl ?_));rintro _ h17 ⟨rfl, H⟩;refine tq (y_assign rfl) (tr_nil (tr_thenN (tr_ret (tr_thenR ?_))));obtain ⟨y18, k19, H⟩ := H;exact tr_rv2 rfl (rv_cellS Tryz.isAgg40 Tryz.sizeOf40 rfl rfl k19) (rv_tmp rfl) ⟨_, _, rfl, H⟩
  ·replace H := H.2 g7;refine tr_skip (tr_thenN (tr_seq (tr_region (tq (y_move rfl) (tq (y_move rfl) (tr_e (e_call Tryz.call108 rfl (F.xbb_ok H)) rfl rfl ?_))))));rintro _ h20 ⟨r21, r22, rfl, H⟩;refine tq (y_ext rfl rfl) (tq (y_ext rfl rfl) (tr_e (f_store (vs := r21.cells) Tryz.sizeOf40 rfl rfl cellsOfStruct rfl (by intro v hv; exact ones_S_api_Agg _ v hv) H) rfl rfl ?_));rintro _ h23 ⟨rfl, H⟩;refine tq (y_assign rfl) (tr_nil (tr_thenN (tr_ret ?_)));obtain ⟨y24, k25, H⟩ := H;exact tr_rv2 rfl (rv_cellS Tryz.isAgg40 Tryz.sizeOf40 rfl rfl k25) (rv_tmp rfl) ⟨_, _, rfl, H⟩
def F.xaj.j1 (Q : Sl -> H -> Prop) (ds : List Nat) (x11 : Addr) (h : H) : Prop :=
  ldL h x11 fun y14 =>
  shuts ds h fun h16 =>
  Q y14 h16
def F.xaj.j2 (Q : Sl -> H -> Prop) (K1 : H -> Prop) (J1 : Nat -> H -> Prop) (l1 : Nat) (x11 : Addr) (x15 : Addr) (x17 : Addr) (x47 : Bool) (h : H) : Prop :=
  (x47 = true ->
  ldL h x11 fun y44 =>
  ld_S_api_Cell h x15 fun y46 =>
  ld_S_api_Agg h x17 fun y48 =>
  newL h (((⟨y46, y48⟩ : S_api_Row).cells).toArray) ty_49 1 fun s51 h50 =>
  runL PP (Builtin.append_ #[51, 51] 51 #[y44.enc, s51.enc]) h50 fun s53 h52 =>
  stH h52 x11 [s53.enc] fun h54 =>
  K1 h54) ∧
  (x47 = false ->
  K1 h)
def F.xaj (p0 : Option Addr) (p1 : Int) (p2 : S_api_Cell) (p3 : S_api_Cell) (p4 : Int) (h : H) (Q : Sl -> H -> Prop) : Prop :=
  new h #[(.int .i64 p1)] ty_3 fun a2 h1 =>
  new h1 p2.cells.toArray ty_35 fun a4 h3 =>
  new h3 p3.cells.toArray ty_35 fun a6 h5 =>
  new h5 #[(.int .i64 p4)] ty_3 fun a8 h7 =>
  new h7 #[(⟨none, 0, 0⟩ : Sl).enc] ty_51 fun a10 h9 =>
  new h9 #[.nilFunc] ty_128 fun a12 h11 =>
  stH h11 a12 [(.func (.func 72) #[] #[(.pointer (some a4)), (.pointer (some a6))])] fun h13 =>
  nn p0 fun a17 =>
  ldP h13 (a17.add 3) fun y19 =>
  F.xad y19 h13 fun r22 h21 =>
  rng PP r22 h21 [Code.exit 0] (fun bg1 l1 args h K1 J1 => ∃ (y1_25 : ByteArray), ∃ (y1_26 : Option Addr), args = [(.string y1_25), (.pointer y1_26)] ∧
    bg1 h fun h23 =>
    ldL h23 a10 fun y24 =>
    ldI .i64 h23 a8 fun y26 =>
    ((decide ((y24.len : Int) >= y26)) = true ->
    J1 0 h23) ∧
    ((decide ((y24.len : Int) >= y26)) = false ->
    F.xaq y1_25 h23 fun r30 r31 h29 =>
    new h29 (((⟨0, (⟨#[]⟩ : ByteArray), 0⟩ : S_api_Cell) : S_api_Cell).cells.toArray) ty_35 fun a33 h32 =>
    stH h32 a33 r30.cells fun h34 =>
    ldI .i64 h34 a2 fun y35 =>
    F.xbx y1_26 y35 h34 fun r38 r39 h37 =>
    new h37 (((⟨0, 0, 0, 0⟩ : S_api_Agg) : S_api_Agg).cells.toArray) ty_40 fun a41 h40 =>
    stH h40 a41 r38.cells fun h42 =>
    (r39 = true ->
    ldV h42 a12 fun y56 =>
    ld_S_api_Cell h42 a33 fun y58 =>
    CV PP y56 [(.agg y58.cells.toArray)] h42 fun u h60 => ∃ (r61 : Bool), u = (.bool r61) ∧
    F.xaj.j2 Q K1 J1 l1 a10 a33 a41 r61 h60) ∧
    (r39 = false ->
    F.xaj.j2 Q K1 J1 l1 a10 a33 a41 false h42))) (fun h62 =>
    F.xaj.j1 Q (h21.size :: ([] : List Nat)) a10 h62) (fun jj h63 =>
    (jj = 0 ->
      F.xaj.j1 Q (h21.size :: ([] : List Nat)) a10 h63))
theorem F.xaj_ok {p0 : Option Addr} {p1 : Int} {p2 : S_api_Cell} {p3 : S_api_Cell} {p4 : Int} {h : H} {Q : Sl -> H -> Prop} (H : F.xaj p0 p1 p2 p3 p4 h Q) : Fn PP 39 ([(.pointer p0), (.int .i64 p1), (.agg p2.cells.toArray), (.agg p3.cells.toArray), (.int .i64 p4)] : List Value).toArray h fun r h' => ∃ r0, r = r0.enc ∧ Q r0 h' := by
  unfold F.xaj at H
  refine fn_ofM Tryz.func39 Tryz.ntmps39 rfl rfl fun w0 => ?_
  refine tr_sub [(0, (.pointer p0)), (1, (.int .i64 p1)), (2, (.agg p2.cells.toArray)), (3, (.agg p3.cells.toArray)), (4, (.int .i64 p4))] ⟨rfl, rfl, rfl, rfl, rfl, trivial⟩ ?_
  refine tr_seq ?_
  refine tr_region ?_
  refine tr_e (f_box (cs := #[(.int .i64 p1)]) rfl rfl H) rfl rfl ?_
  rintro _ h1 ⟨a2, rfl, H⟩
  refine tr_e (f_box (cs := p2.cells.toArray) rfl rfl H) rfl rfl ?_
  rintro _ h3 ⟨a4, rfl, H⟩
  refine tr_e (f_box (cs := p3.cells.toArray) rfl rfl H) rfl rfl ?_
  rintro _ h5 ⟨a6, rfl, H⟩
  refine tr_e (f_box (cs := #[(.int .i64 p4)]) rfl rfl H) rfl rfl ?_
  rintro _ h7 ⟨a8, rfl, H⟩
  refine tr_p (y_assign rfl) rfl rfl ?_
  refine tr_nil ?_
  refine tr_thenN ?_
  refine tr_seq ?_
  refine tr_region ?_
  refine tr_e (f_alloc (cs := #[(⟨none, 0, 0⟩ : Sl).enc]) Tryz.zeroValue51 rfl H) rfl rfl ?_
  rintro _ h9 ⟨a10, rfl, H⟩
  refine tr_nil ?_
  refine tr_thenN ?_
  refine tr_seq ?_
  refine tr_region ?_
  refine tr_p (y_fn rfl rfl) rfl rfl ?_
  refine tr_e (f_alloc (cs := #[.nilFunc]) Tryz.zeroValue128 rfl H) rfl rfl ?_
  rintro _ h11 ⟨a12, rfl, H⟩
  refine tr_e (f_store (vs := [(.func (.func 72) #[] #[(.pointer (some a4)), (.pointer (some a6))])]) Tryz.sizeOf128 rfl rfl rfl rfl (one1 (by rfl)) H) rfl rfl ?_
  rintro _ h13 ⟨rfl, H⟩
  refine tr_nil ?_
  refine tr_thenN ?_
  refine tr_seq_jD (fun ds L' h => ∃ (x11 : Addr), L' = [(11, (.pointer (some x11)))] ∧ F.xaj.j1 Q ds x11 h) ?_ ?_
  · rintro ds L' h ⟨x11, rfl, H⟩
    unfold F.xaj.j1 at H
    refine tr_seq ?_
    refine tr_region ?_
    obtain ⟨y14, k15, H⟩ := H
    refine tr_h (y_ld Tryz.isAgg51 rfl) k15 rfl rfl ?_
    refine tr_p (y_assign rfl) rfl rfl ?_
    refine tr_nil ?_
    refine tr_thenN ?_
    refine tr_ret ?_
    refine tr_shut ds rfl H fun h16 H => ?_
    exact tr_ret1 rfl rfl ⟨_, rfl, H⟩
  · refine tr_seq ?_
    refine tr_region ?_
    refine tr_p (y_move rfl) rfl rfl ?_
    obtain ⟨a17, e18, H⟩ := H
    refine tr_p (f_nn rfl e18) rfl rfl ?_
    refine tr_p (y_fa (off := 3) Tryz.runUnderlying74 fo_74_1 rfl) rfl rfl ?_
    obtain ⟨y19, k20, H⟩ := H
    refine tr_h (y_ld Tryz.isAgg72 rfl) k20 rfl rfl ?_
    refine tr_e (e_call Tryz.call59 rfl (F.xad_ok H)) rfl rfl ?_
    rintro r22 h21 ⟨_, rfl, H⟩
    refine tr_nil ?_
    refine tr_thenN ?_
    refine tr_block ?_
    refine tr_range rfl (by kernel_rfl) H ?_ ?_ ?_
    · intro bg1 l1 args h K1 J1 w1 hbg1 H
      obtain ⟨y1_25, y1_26, rfl, H⟩ := H
      refine ⟨rfl, ?_⟩
      refine tr_sub [(0, (.pointer p0)), (1, (.int .i64 p1)), (2, (.agg p2.cells.toArray)), (3, (.agg p3.cells.toArray)), (4, (.int .i64 p4)), (6, (.pointer (some a2))), (7, (.pointer (some a4))), (8, (.pointer (some a6))), (9, (.pointer (some a8))), (10, (⟨none, 0, 0⟩ : Sl).enc), (11, (.pointer (some a10))), (19, (.func (.func 72) #[] #[(.pointer (some a4)), (.pointer (some a6))])), (12, (.pointer (some a12))), (20, (.pointer p0)), (21, (.pointer (some a17))), (22, (.pointer (some (a17.add 3)))), (23, (.pointer y19)), (24, r22), (25, (.string y1_25)), (26, (.pointer y1_26))] ⟨rfl, rfl, rfl, rfl, rfl, rfl, rfl, rfl, rfl, rfl, rfl, rfl, rfl, rfl, rfl, rfl, rfl, rfl, rfl, rfl, trivial⟩ ?_
      refine tr_seq ?_
      refine tr_region ?_
      refine tr_p (y_assign rfl) rfl rfl ?_
      refine tr_nil ?_
      refine tr_thenN ?_
      refine tr_region ?_
      refine tr_p (y_assign rfl) rfl rfl ?_
      refine tr_nil ?_
      refine tr_thenN ?_
      refine tr_bgn hbg1 H fun h23 H => ?_
      refine tr_block ?_
      refine tr_seq ?_
      refine tr_seq ?_
      refine tr_region ?_
      obtain ⟨y24, k25, H⟩ := H
      refine tr_h (y_ld Tryz.isAgg51 rfl) k25 rfl rfl ?_
      refine tr_p (y_len (ts := #[]) Tryz.runUnderlying51 (o := y24.ptr) (n := y24.len) (cap := y24.cap) rfl) rfl rfl ?_
      obtain ⟨y26, k27, H⟩ := H
      refine tr_h (y_ld Tryz.isAgg3 rfl) k27 rfl rfl ?_
      refine tr_p (y_geq rfl rfl) rfl rfl ?_
      refine tr_nil ?_
      refine tr_thenN ?_
      refine tr_cond rfl (fun g28 => ?_) (fun g28 => ?_)
      · replace H := H.1 g28
        refine tr_exit ?_
        refine tr_thenE ?_
        refine tr_miss rfl ?_
        exact tr_rE 0 rfl H
      · replace H := H.2 g28
        refine tr_skip ?_
        refine tr_thenN ?_
        refine tr_seq ?_
        refine tr_region ?_
        refine tr_p (y_move rfl) rfl rfl ?_
        refine tr_e (e_call Tryz.call73 rfl (F.xaq_ok H)) rfl rfl ?_
        rintro _ h29 ⟨r30, r31, rfl, H⟩
        refine tr_p (y_move rfl) rfl rfl ?_
        refine tr_p (y_ext rfl rfl) rfl rfl ?_
        refine tr_p (y_ext rfl rfl) rfl rfl ?_
        refine tr_e (f_alloc (cs := ((⟨0, (⟨#[]⟩ : ByteArray), 0⟩ : S_api_Cell) : S_api_Cell).cells.toArray) Tryz.zeroValue35 rfl H) rfl rfl ?_
        rintro _ h32 ⟨a33, rfl, H⟩
        refine tr_e (f_store (vs := r30.cells) Tryz.sizeOf35 rfl rfl cellsOfStruct rfl (by intro v hv; exact ones_S_api_Cell _ v hv) H) rfl rfl ?_
        rintro _ h34 ⟨rfl, H⟩
        refine tr_p (y_assign rfl) rfl rfl ?_
        refine tr_nil ?_
        refine tr_thenN ?_
        refine tr_seq ?_
        refine tr_region ?_
        refine tr_p (y_move rfl) rfl rfl ?_
        obtain ⟨y35, k36, H⟩ := H
        refine tr_h (y_ld Tryz.isAgg3 rfl) k36 rfl rfl ?_
        refine tr_e (e_call Tryz.call71 rfl (F.xbx_ok H)) rfl rfl ?_
        rintro _ h37 ⟨r38, r39, rfl, H⟩
        refine tr_p (y_move rfl) rfl rfl ?_
        refine tr_p (y_ext rfl rfl) rfl rfl ?_
        refine tr_p (y_ext rfl rfl) rfl rfl ?_
        refine tr_e (f_alloc (cs := ((⟨0, 0, 0, 0⟩ : S_api_Agg) : S_api_Agg).cells.toArray) Tryz.zeroValue40 rfl H) rfl rfl ?_
        rintro _ h40 ⟨a41, rfl, H⟩
        refine tr_e (f_store (vs := r38.cells) Tryz.sizeOf40 rfl rfl cellsOfStruct rfl (by intro v hv; exact ones_S_api_Agg _ v hv) H) rfl rfl ?_
        rintro _ h42 ⟨rfl, H⟩
        refine tr_p (y_assign rfl) rfl rfl ?_
        refine tr_nil ?_
        refine tr_thenN ?_
        refine tr_seq_j (fun L' h => ∃ (x11 : Addr) (x15 : Addr) (x17 : Addr) (x47 : Bool), L' = [(11, (.pointer (some x11))), (15, (.pointer (some x15))), (17, (.pointer (some x17))), (47, (.bool x47))] ∧ F.xaj.j2 Q K1 J1 l1 x11 x15 x17 x47 h) ?_ ?_
        · rintro L' h ⟨x11, x15, x17, x47, rfl, H⟩
          unfold F.xaj.j2 at H
          refine tr_cond rfl (fun g43 => ?_) (fun g43 => ?_)
          · replace H := H.1 g43
            refine tr_region ?_
            obtain ⟨y44, k45, H⟩ := H
            refine tr_h (y_ld Tryz.isAgg51 rfl) k45 rfl rfl ?_
            obtain ⟨y46, k47, H⟩ := H
            refine tr_h (y_ldS Tryz.isAgg35 Tryz.sizeOf35 rfl rfl) k47 rfl rfl ?_
            obtain ⟨y48, k49, H⟩ := H
            refine tr_h (y_ldS Tryz.isAgg40 Tryz.sizeOf40 rfl rfl) k49 rfl rfl ?_
            refine tr_p (f_build rfl (bd_49_0_1 y46 y48)) rfl rfl ?_
            refine tr_e (f_buildL (cs := ((⟨y46, y48⟩ : S_api_Row).cells).toArray) rfl rfl (bl_51_1_0 (⟨y46, y48⟩ : S_api_Row)) H) rfl rfl ?_
            rintro _ h50 ⟨s51, rfl, H⟩
            refine tr_e (f_app rfl H) rfl rfl ?_
            rintro _ h52 ⟨s53, rfl, H⟩
            refine tr_e (f_store (vs := [s53.enc]) Tryz.sizeOf51 rfl rfl rfl rfl (one1 rfl) H) rfl rfl ?_
            rintro _ h54 ⟨rfl, H⟩
            refine tr_nil ?_
            refine tr_blockN ?_
            exact tr_rN H
          · replace H := H.2 g43
            refine tr_skip ?_
            refine tr_blockN ?_
            exact tr_rN H
        · refine tr_region ?_
          refine tr_p (y_move rfl) rfl rfl ?_
          refine tr_p (y_move rfl) rfl rfl ?_
          refine tr_split (t := 43) rfl (fun g55 => ?_) (fun g55 => ?_)
          · replace H := H.1 g55
            obtain ⟨y56, k57, H⟩ := H
            refine tr_h (y_ld Tryz.isAgg128 rfl) k57 rfl rfl ?_
            obtain ⟨y58, k59, H⟩ := H
            refine tr_h (y_ldS Tryz.isAgg35 Tryz.sizeOf35 rfl rfl) k59 rfl rfl ?_
            refine tr_e (e_callD rfl rfl H) rfl rfl ?_
            rintro _ h60 ⟨r61, rfl, H⟩
            refine tr_p (y_pick_t rfl rfl) rfl rfl ?_
            refine tr_nil ?_
            refine tr_thenN ?_
            exact tr_join [(11, (.pointer (some a10))), (15, (.pointer (some a33))), (17, (.pointer (some a41))), (47, (.bool r61))] ⟨rfl, rfl, rfl, rfl, trivial⟩ ⟨_, _, _, _, rfl, H⟩
          · replace H := H.2 g55
            refine tr_s rfl rfl ?_
            refine tr_s rfl rfl ?_
            refine tr_s rfl rfl ?_
            refine tr_p (y_pick_f rfl rfl) rfl rfl ?_
            refine tr_nil ?_
            refine tr_thenN ?_
            exact tr_join [(11, (.pointer (some a10))), (15, (.pointer (some a33))), (17, (.pointer (some a41))), (47, (.bool false))] ⟨rfl, rfl, rfl, rfl, trivial⟩ ⟨_, _, _, _, rfl, H⟩
    · intro h62 H
      refine tr_blockN ?_
      refine tr_thenN ?_
      exact tr_joinD (h21.size :: ([] : List Nat)) [(11, (.pointer (some a10)))] rfl ⟨rfl, trivial⟩ ⟨_, rfl, H⟩
    · intro jj c h63 hjc H
      rcases jj with _ | jj
      · obtain rfl : Code.exit 0 = c := by simpa using hjc
        replace H := H rfl
        refine tr_exit ?_
        refine tr_hit ?_
        refine tr_thenN ?_
        exact tr_joinD (h21.size :: ([] : List Nat)) [(11, (.pointer (some a10)))] rfl ⟨rfl, trivial⟩ ⟨_, rfl, H⟩
      · simp at hjc
def F.xbw (p0 : Sl) (h : H) (Q : Int -> H -> Prop) : Prop :=
  Q (p0.len : Int) h
theorem F.xbw_ok {p0 : Sl} {h : H} {Q : Int -> H -> Prop} (H : F.xbw p0 h Q) : Fn PP 204 ([p0.enc] : List Value).toArray h fun r h' => ∃ r0, r = (.int .i64 r0) ∧ Q r0 h' := by
 unfold F.xbw at H;refine fn_of Tryz.func204 Tryz.ntmps204 rfl rfl fun w0 => (tr_sub [(0, p0.enc)] ⟨rfl, trivial⟩ (tr_seq (tr_region (tq (y_assign rfl) (tr_nil (tr_thenN (tr_seq (tr_region (tq (y_move rfl) (tq (y_len (ts := #[]) Tryz.runUnderlying99 (o := p0.ptr) (n := p0.len) (cap := p0.cap) rfl) (tq (y_assign rfl) (tr_nil (tr_thenN ?_)))))))))))));refine tr_ret ?_;exact tr_ret1 rfl rfl ⟨_, rfl, H⟩
def F.xcf (p0 : Sl) (p1 : Int) (p2 : Int) (h : H) (Q : Bool -> H -> Prop) : Prop :=
  idxA p0 p1 2 fun a1 =>
  ldL h (a1.add 0) fun y3 =>
  idxA y3 0 7 fun a5 =>
  ld_S_api_Cell h (a5.add 0) fun y7 =>
  idxA p0 p2 2 fun a9 =>
  ldL h (a9.add 0) fun y11 =>
  idxA y11 0 7 fun a13 =>
  ld_S_api_Cell h (a13.add 0) fun y15 =>
  idxA p0 p1 2 fun a17 =>
  ldI .i64 h (a17.add 1) fun y19 =>
  idxA p0 p2 2 fun a21 =>
  ldI .i64 h (a21.add 1) fun y23 =>
  F.xcd y7 y15 h fun r26 h25 =>
  cellH h25 (a21.add 1) = some (.int .i64 y23) ∧
  cellH h25 (a17.add 1) = some (.int .i64 y19) ∧
  F.xbd y19 y23 h25 fun r30 h29 =>
  newL h29 #[(.int .i64 r26), (.int .i64 r30)] ty_3 2 fun s32 h31 =>
  F.xao s32 h31 fun r34 h33 =>
  Q (decide (r34 < 0)) h33
theorem F.xcf_ok {p0 : Sl} {p1 : Int} {p2 : Int} {h : H} {Q : Bool -> H -> Prop} (H : F.xcf p0 p1 p2 h Q) : Fn PP 205 ([p0.enc, (.int .i64 p1), (.int .i64 p2)] : List Value).toArray h fun r h' => ∃ r0, r = (.bool r0) ∧ Q r0 h' := by
 unfold F.xcf at H;refine fn_of Tryz.func205 Tryz.ntmps205 rfl rfl fun w0 => (tr_sub [(0, p0.enc), (1, (.int .i64 p1)), (2, (.int .i64 p2))] ⟨rfl, rfl, rfl, trivial⟩ (tr_seq (tr_region (tq (y_assign rfl) (tr_nil (tr_thenN (tr_seq (tr_draw mixed [0, 0, 3, 7, 15, 31, 63, 127, 0, 0, 768, 1792, 3840, 7936, 16128, 32512, 65535, 0, 0, 393216, 917504, 1966080, 0, 0, 12582912, 29360128, 62914560, 134217727, 268435455, 536870911, 1073741823, 2147483647] (by kernel_rfl) (g_p 0 1 rfl (by kernel_rfl) (y_move rfl) rfl rfl (g_p 1 3 rfl (by kernel_rfl) (y_move rfl) rfl rfl ?_))))))))));obtain ⟨a1, e2, H⟩ := H;refine g_p 2 7 rfl (by kernel_rfl) (f_idx (s := p0) Tryz.runUnderlying99 Tryz.sizeOf101 rfl rfl e2) rfl rfl (g_p 3 15 rfl (by kernel_rfl) (y_fa (off := 0) Tryz.runUnderlying101 fo_101_0 rfl) rfl rfl ?_);obtain ⟨y3, k4, H⟩ := H;refine g_h 4 31 rfl (by kernel_rfl) (y_ld Tryz.isAgg51 rfl) k4 rfl rfl ?_;obtain ⟨a5, e6, H⟩ := H;refine g_p 5 63 rfl (by kernel_rfl) (f_idx (s := y3) Tryz.runUnderlying51 Tryz.sizeOf49 rfl rfl e6) rfl rfl (g_p 6 127 rfl (by kernel_rfl) (y_fa (off := 0) Tryz.runUnderlying49 fo_49_0 rfl) rfl rfl ?_);obtain ⟨y7, k8, H⟩ := H;refine g_h 7 255 rfl (by kernel_rfl) (y_ldS Tryz.isAgg35 Tryz.sizeOf35 rfl rfl) k8 rfl rfl (g_p 8 511 rfl (by kernel_rfl) (y_move rfl) rfl rfl (g_p 9 1023 rfl (by kernel_rfl) (y_move rfl) rfl rfl ?_));obtain ⟨a9, e10, H⟩ := H;refine g_p 10 2047 rfl (by kernel_rfl) (f_idx (s := p0) Tryz.runUnderlying99 Tryz.sizeOf101 rfl rfl e10) rfl rfl (g_p 11 4095 rfl (by kernel_rfl) (y_fa (off := 0) Tryz.runUnderlying101 fo_101_0 rfl) rfl rfl ?_);obtain ⟨y11, k12, H⟩ := H;refine g_h 12 8191 rfl (by kernel_rfl) (y_ld Tryz.isAgg51 rfl) k12 rfl rfl ?_;obtain ⟨a13, e14, H⟩ := H;refine g_p 13 16383 rfl (by kernel_rfl) (f_idx (s := y11) Tryz.runUnderlying51 Tryz.sizeOf49 rfl rfl e14) rfl rfl (g_p 14 32767 rfl (by kernel_rfl) (y_fa (off := 0) Tryz.runUnderlying49 fo_49_0 rfl) rfl rfl ?_);obtain ⟨y15, k16, H⟩ := H;refine g_h 15 65535 rfl (by kernel_rfl) (y_ldS Tryz.isAgg35 Tryz.sizeOf35 rfl rfl) k16 rfl rfl (g_p 17 196607 rfl (by kernel_rfl) (y_move rfl) rfl rfl (g_p 18 458751 rfl (by kernel_rfl) (y_move rfl) rfl rfl ?_));obtain ⟨a17, e18, H⟩ := H;refine g_p 19 983039 rfl (by kernel_rfl) (f_idx (s := p0) Tryz.runUnderlying99 Tryz.sizeOf101 rfl rfl e18) rfl rfl (g_p 20 2031615 rfl (by kernel_rfl) (y_fa (off := 1) Tryz.runUnderlying101 fo_101_1 rfl) rfl rfl ?_);obtain ⟨y19, k20, H⟩ := H;refine g_h 21 4128767 rfl (by kernel_rfl) (y_ld Tryz.isAgg3 rfl) k20 rfl rfl (g_p 22 8323071 rfl (by kernel_rfl) (y_move rfl) rfl rfl (g_p 23 16711679 rfl (by kernel_rfl) (y_move rfl) rfl rfl ?_));obtain ⟨a21, e22, H⟩ := H;refine g_p 24 33488895 rfl (by kernel_rfl) (f_idx (s := p0) Tryz.runUnderlying99 Tryz.sizeOf101 rfl rfl e22) rfl rfl (g_p 25 67043327 rfl (by kernel_rfl) (y_fa (off := 1) Tryz.runUnderlying101 fo_101_1 rfl) rfl rfl ?_);obtain ⟨y23, k24, H⟩ := H;refine g_h 26 134152191 rfl (by kernel_rfl) (y_ld Tryz.isAgg3 rfl) k24 rfl rfl (g_e 16 134217727 [(26, fun h => cellH h (a21.add 1) = some (.int .i64 y23)), (21, fun h => cellH h (a17.add 1) = some (.int .i64 y19))] (by kernel_rfl) rfl (by kernel_rfl) (e_call Tryz.call17 rfl (F.xcd_ok H)) rfl rfl ?_);rintro _ h25 ⟨r26, rfl, H⟩;obtain ⟨k27, k28, H⟩ := H;refine ⟨And.intro k27 (And.intro k28 trivial), ?_⟩;refine g_e 27 268435455 [] (by kernel_rfl) rfl (by kernel_rfl) (e_call Tryz.call48 rfl (F.xbd_ok H)) rfl rfl ?_;rintro _ h29 ⟨r30, rfl, H⟩;refine ⟨trivial, ?_⟩;refine g_e 28 536870911 [] (by kernel_rfl) rfl (by kernel_rfl) (f_buildL (cs := #[(.int .i64 r26), (.int .i64 r30)]) rfl rfl (bl_42_2_0_1 r26 r30) H) rfl rfl ?_;rintro _ h31 ⟨s32, rfl, H⟩;refine ⟨trivial, ?_⟩;refine g_e 29 1073741823 [] (by kernel_rfl) rfl (by kernel_rfl) (e_call Tryz.call47 rfl (F.xao_ok H)) rfl rfl ?_;rintro _ h33 ⟨r34, rfl, H⟩;refine ⟨trivial, ?_⟩;refine g_p 30 2147483647 rfl (by kernel_rfl) (y_lss rfl rfl) rfl rfl (g_p 31 4294967295 rfl (by kernel_rfl) (y_assign rfl) rfl rfl (g_d (by kernel_rfl) (tr_thenN (tr_ret ?_))));exact tr_ret1 rfl rfl ⟨_, rfl, H⟩
def F.xca (p0 : Sl) (p1 : Int) (p2 : Int) (h : H) (Q : H -> Prop) : Prop :=
  idxA p0 p2 2 fun a1 =>
  ld_S_merge_front h a1 fun y3 =>
  idxA p0 p1 2 fun a5 =>
  ld_S_merge_front h a5 fun y7 =>
  idxA p0 p1 2 fun a9 =>
  stH h a9 y3.cells fun h11 =>
  idxA p0 p2 2 fun a12 =>
  stH h11 a12 y7.cells fun h14 =>
  Q h14
theorem F.xca_ok {p0 : Sl} {p1 : Int} {p2 : Int} {h : H} {Q : H -> Prop} (H : F.xca p0 p1 p2 h Q) : Fn PP 206 ([p0.enc, (.int .i64 p1), (.int .i64 p2)] : List Value).toArray h fun r h' => r = .tuple #[] ∧ Q  h' := by
 unfold F.xca at H;refine fn_of Tryz.func206 Tryz.ntmps206 rfl rfl fun w0 => (tr_sub [(0, p0.enc), (1, (.int .i64 p1)), (2, (.int .i64 p2))] ⟨rfl, rfl, rfl, trivial⟩ (tr_draw mixed [0, 0, 0, 0, 0, 0, 48, 112, 0, 0, 768, 1792, 4083, 8179, 16383, 32767] (by kernel_rfl) (g_p 0 1 rfl (by kernel_rfl) (y_move rfl) rfl rfl (g_p 1 3 rfl (by kernel_rfl) (y_move rfl) rfl rfl (g_p 2 7 rfl (by kernel_rfl) (y_move rfl) rfl rfl (g_p 3 15 rfl (by kernel_rfl) (y_move rfl) rfl rfl (g_p 4 31 rfl (by kernel_rfl) (y_move rfl) rfl rfl (g_p 5 63 rfl (by kernel_rfl) (y_move rfl) rfl rfl ?_))))))));obtain ⟨a1, e2, H⟩ := H;refine g_p 6 127 rfl (by kernel_rfl) (f_idx (s := p0) Tryz.runUnderlying99 Tryz.sizeOf101 rfl rfl e2) rfl rfl ?_;obtain ⟨y3, k4, H⟩ := H;refine g_h 7 255 rfl (by kernel_rfl) (y_ldS Tryz.isAgg101 Tryz.sizeOf101 rfl rfl) k4 rfl rfl (g_p 8 511 rfl (by kernel_rfl) (y_move rfl) rfl rfl (g_p 9 1023 rfl (by kernel_rfl) (y_move rfl) rfl rfl ?_));obtain ⟨a5, e6, H⟩ := H;refine g_p 10 2047 rfl (by kernel_rfl) (f_idx (s := p0) Tryz.runUnderlying99 Tryz.sizeOf101 rfl rfl e6) rfl rfl ?_;obtain ⟨y7, k8, H⟩ := H;refine g_h 11 4095 rfl (by kernel_rfl) (y_ldS Tryz.isAgg101 Tryz.sizeOf101 rfl rfl) k8 rfl rfl ?_;obtain ⟨a9, e10, H⟩ := H;refine g_p 12 8191 rfl (by kernel_rfl) (f_idx (s := p0) Tryz.runUnderlying99 Tryz.sizeOf101 rfl rfl e10) rfl rfl (g_e 13 16383 [] (by kernel_rfl) rfl (by kernel_rfl) (f_store (vs := y3.cells) Tryz.sizeOf101 rfl rfl cellsOfStruct rfl (by intro v hv; exact ones_S_merge_front _ v hv) H) rfl rfl ?_);rintro _ h11 ⟨rfl, H⟩;refine ⟨trivial, ?_⟩;obtain ⟨a12, e13, H⟩ := H;refine g_p 14 32767 rfl (by kernel_rfl) (f_idx (s := p0) Tryz.runUnderlying99 Tryz.sizeOf101 rfl rfl e13) rfl rfl (g_e 15 65535 [] (by kernel_rfl) rfl (by kernel_rfl) (f_store (vs := y7.cells) Tryz.sizeOf101 rfl rfl cellsOfStruct rfl (by intro v hv; exact ones_S_merge_front _ v hv) H) rfl rfl ?_);rintro _ h14 ⟨rfl, H⟩;refine ⟨trivial, ?_⟩;refine g_d (by kernel_rfl) ?_;exact tr_end0 rfl ⟨rfl, H⟩
def F.xab.j1 (Q : Bool -> H -> Prop) (x1 : Int) (x7 : Int) (h : H) : Prop :=
  Q (decide (x7 > x1)) h
def F.xab.j4 (Q : Bool -> H -> Prop) (C1 : (Option Addr) -> Int -> Int -> Int -> H -> Prop) (x0 : Option Addr) (x1 : Int) (x2 : Int) (x7 : Int) (x9 : Int) (h : H) : Prop :=
  nn x0 fun a2 =>
  ldL h a2 fun y3 =>
  F.xcf y3 x9 x7 h fun r4 h1 =>
  ((!r4) = true ->
  F.xab.j1 Q x1 x7 h1) ∧
  ((!r4) = false ->
  nn x0 fun a7 =>
  ldL h1 a7 fun y8 =>
  F.xca y8 x7 x9 h1 fun h6 =>
  C1 x0 x1 x2 x9 h6)
def F.xab.j5 (Q : Bool -> H -> Prop) (C1 : (Option Addr) -> Int -> Int -> Int -> H -> Prop) (x0 : Option Addr) (x1 : Int) (x2 : Int) (x7 : Int) (x9 : Int) (x10 : Int) (x33 : Bool) (h : H) : Prop :=
  (x33 = true ->
  F.xab.j4 Q C1 x0 x1 x2 x7 x10 h) ∧
  (x33 = false ->
  F.xab.j4 Q C1 x0 x1 x2 x7 x9 h)
def F.xab.j3 (Q : Bool -> H -> Prop) (C1 : (Option Addr) -> Int -> Int -> Int -> H -> Prop) (x0 : Option Addr) (x1 : Int) (x2 : Int) (x7 : Int) (x8 : Int) (h : H) : Prop :=
  ((decide ((IntKind.wrap .i64 (x8 + 1)) < x2)) = true ->
  nn x0 fun a12 =>
  ldL h a12 fun y13 =>
  F.xcf y13 (IntKind.wrap .i64 (x8 + 1)) x8 h fun r14 h11 =>
  F.xab.j5 Q C1 x0 x1 x2 x7 x8 (IntKind.wrap .i64 (x8 + 1)) r14 h11) ∧
  ((decide ((IntKind.wrap .i64 (x8 + 1)) < x2)) = false ->
  F.xab.j5 Q C1 x0 x1 x2 x7 x8 (IntKind.wrap .i64 (x8 + 1)) false h)
def F.xab.j6 (Q : Bool -> H -> Prop) (C1 : (Option Addr) -> Int -> Int -> Int -> H -> Prop) (x0 : Option Addr) (x1 : Int) (x2 : Int) (x7 : Int) (x8 : Int) (x21 : Bool) (h : H) : Prop :=
  (x21 = true ->
  F.xab.j1 Q x1 x7 h) ∧
  (x21 = false ->
  F.xab.j3 Q C1 x0 x1 x2 x7 x8 h)
def F.xab.l2 (Q : Bool -> H -> Prop) : Nat -> (Option Addr) -> Int -> Int -> Int -> H -> Prop
  | 0, _, _, _, _, _ => False
  | q2 + 1, x0, x1, x2, x7, h =>
    ((decide ((IntKind.wrap .i64 ((IntKind.wrap .i64 (2 * x7)) + 1)) >= x2)) = true ->
    F.xab.j6 Q (F.xab.l2 Q q2) x0 x1 x2 x7 (IntKind.wrap .i64 ((IntKind.wrap .i64 (2 * x7)) + 1)) true h) ∧
    ((decide ((IntKind.wrap .i64 ((IntKind.wrap .i64 (2 * x7)) + 1)) >= x2)) = false ->
    F.xab.j6 Q (F.xab.l2 Q q2) x0 x1 x2 x7 (IntKind.wrap .i64 ((IntKind.wrap .i64 (2 * x7)) + 1)) (decide ((IntKind.wrap .i64 ((IntKind.wrap .i64 (2 * x7)) + 1)) < 0)) h)
def F.xab (p0 : Option Addr) (p1 : Int) (p2 : Int) (h : H) (Q : Bool -> H -> Prop) : Prop :=
  ∃ m, F.xab.l2 Q m p0 p1 p2 p1 h
theorem F.xab_ok {p0 : Option Addr} {p1 : Int} {p2 : Int} {h : H} {Q : Bool -> H -> Prop} (H : F.xab p0 p1 p2 h Q) : Fn PP 92 ([(.iface 103 (.pointer p0)), (.int .i64 p1), (.int .i64 p2)] : List Value).toArray h fun r h' => ∃ r0, r = (.bool r0) ∧ Q r0 h' := by
 unfold F.xab at H;refine fn_of Tryz.func92 Tryz.ntmps92 rfl rfl fun w0 => (tr_sub [(0, (.iface 103 (.pointer p0))), (1, (.int .i64 p1)), (2, (.int .i64 p2))] ⟨rfl, rfl, rfl, trivial⟩ (tr_seq (tr_region (tq (y_assign rfl) (tr_nil (tr_thenN (tr_seq (tr_region (tq (y_move rfl) (tq (y_assign rfl) (tr_nil (tr_thenN ?_))))))))))));refine tr_seq_j (fun L' h => ∃ (x1 : Int) (x7 : Int), L' = [(1, (.int .i64 x1)), (7, (.int .i64 x7))] ∧ F.xab.j1 Q x1 x7 h) ?_ ?_
 ·rintro L' h ⟨x1, x7, rfl, H⟩;unfold F.xab.j1 at H;refine tr_seq (tr_region (tq (y_move rfl) (tq (y_move rfl) (tq (y_gtr rfl rfl) (tq (y_assign rfl) (tr_nil (tr_thenN (tr_ret ?_))))))));exact tr_ret1 rfl rfl ⟨_, rfl, H⟩
 ·refine tr_block ?_;obtain ⟨m17, H⟩ := H;refine tr_sub [(0, (.iface 103 (.pointer p0))), (1, (.int .i64 p1)), (2, (.int .i64 p2)), (7, (.int .i64 p1))] ⟨rfl, rfl, rfl, rfl, trivial⟩ ?_;refine tr_loop_j (fun m L' h => ∃ (x0 : Option Addr) (x1 : Int) (x2 : Int) (x7 : Int), L' = [(0, (.iface 103 (.pointer x0))), (1, (.int .i64 x1)), (2, (.int .i64 x2)), (7, (.int .i64 x7))] ∧ F.xab.l2 Q m x0 x1 x2 x7 h) ?_ ?_ m17 ⟨_, _, _, _, rfl, H⟩
  ·rintro L' h ⟨_, _, _, _, _, H⟩; exact H
  ·rintro q2 L' h ⟨x0, x1, x2, x7, rfl, H⟩;unfold F.xab.l2 at H;refine tr_block (tr_seq (tr_region (tq (y_move rfl) (tq (y_mul rfl rfl) (tq (y_add rfl rfl) (tq (y_assign rfl) (tr_nil (tr_thenN ?_))))))));refine tr_seq_j (fun L' h => ∃ (x0 : Option Addr) (x1 : Int) (x2 : Int) (x7 : Int) (x8 : Int), L' = [(0, (.iface 103 (.pointer x0))), (1, (.int .i64 x1)), (2, (.int .i64 x2)), (7, (.int .i64 x7)), (8, (.int .i64 x8))] ∧ F.xab.j3 Q (F.xab.l2 Q q2) x0 x1 x2 x7 x8 h) ?_ ?_
   ·rintro L' h ⟨x0, x1, x2, x7, x8, rfl, H⟩;unfold F.xab.j3 at H;refine tr_seq (tr_region (tq (y_move rfl) (tq (y_assign rfl) (tr_nil (tr_thenN ?_)))));refine tr_seq_j (fun L' h => ∃ (x0 : Option Addr) (x1 : Int) (x2 : Int) (x7 : Int) (x9 : Int), L' = [(0, (.iface 103 (.pointer x0))), (1, (.int .i64 x1)), (2, (.int .i64 x2)), (7, (.int .i64 x7)), (9, (.int .i64 x9))] ∧ F.xab.j4 Q (F.xab.l2 Q q2) x0 x1 x2 x7 x9 h) ?_ ?_
    ·rintro L' h ⟨x0, x1, x2, x7, x9, rfl, H⟩;unfold F.xab.j4 at H;refine tr_seq (tr_seq (tr_region (tq (y_move rfl) (tq (y_move rfl) (tq (y_move rfl) (tr_e (e_invL mt_103_Less Tryz.isAgg99 Tryz.call205 rfl rfl (inv_map (fun y3 H => (F.xcf_ok H)) H)) rfl rfl ?_))))));rintro _ h1 ⟨r4, rfl, H⟩;refine tq (y_not rfl) (tr_nil (tr_thenN ?_));refine tr_cond rfl (fun g5 => ?_) (fun g5 => ?_)
     ·replace H := H.1 g5;refine tr_exit (tr_thenE (tr_miss rfl (tr_thenE (tr_hit (tr_thenN ?_)))));exact tr_join [(1, (.int .i64 x1)), (7, (.int .i64 x7))] ⟨rfl, rfl, trivial⟩ ⟨_, _, rfl, H⟩
     ·replace H := H.2 g5;refine tr_skip (tr_thenN (tr_seq (tr_region (tq (y_move rfl) (tq (y_move rfl) (tq (y_move rfl) (tr_e (e_invL mt_103_Swap Tryz.isAgg99 Tryz.call206 rfl rfl (inv_map (fun y8 H => (F.xca_ok H)) H)) rfl rfl ?_)))))));rintro _ h6 ⟨rfl, H⟩;refine tr_nil (tr_thenN (tr_region (tq (y_move rfl) (tq (y_assign rfl) (tr_nil (tr_blockN (tr_thenN ?_)))))));exact tr_join [(0, (.iface 103 (.pointer x0))), (1, (.int .i64 x1)), (2, (.int .i64 x2)), (7, (.int .i64 x9))] ⟨rfl, rfl, rfl, rfl, trivial⟩ ⟨_, _, _, _, rfl, H⟩
    ·refine tr_seq (tr_region (tq (y_move rfl) (tq (y_add rfl rfl) (tq (y_assign rfl) (tr_nil (tr_thenN ?_))))));refine tr_seq_j (fun L' h => ∃ (x0 : Option Addr) (x1 : Int) (x2 : Int) (x7 : Int) (x9 : Int) (x10 : Int) (x33 : Bool), L' = [(0, (.iface 103 (.pointer x0))), (1, (.int .i64 x1)), (2, (.int .i64 x2)), (7, (.int .i64 x7)), (9, (.int .i64 x9)), (10, (.int .i64 x10)), (33, (.bool x33))] ∧ F.xab.j5 Q (F.xab.l2 Q q2) x0 x1 x2 x7 x9 x10 x33 h) ?_ ?_
     ·rintro L' h ⟨x0, x1, x2, x7, x9, x10, x33, rfl, H⟩;unfold F.xab.j5 at H;refine tr_cond rfl (fun g9 => ?_) (fun g9 => ?_)
      ·replace H := H.1 g9;refine tr_region (tq (y_move rfl) (tq (y_assign rfl) (tr_nil (tr_thenN ?_))));exact tr_join [(0, (.iface 103 (.pointer x0))), (1, (.int .i64 x1)), (2, (.int .i64 x2)), (7, (.int .i64 x7)), (9, (.int .i64 x10))] ⟨rfl, rfl, rfl, rfl, rfl, trivial⟩ ⟨_, _, _, _, _, rfl, H⟩
      ·replace H := H.2 g9;refine tr_skip (tr_thenN ?_);exact tr_join [(0, (.iface 103 (.pointer x0))), (1, (.int .i64 x1)), (2, (.int .i64 x2)), (7, (.int .i64 x7)), (9, (.int .i64 x9))] ⟨rfl, rfl, rfl, rfl, rfl, trivial⟩ ⟨_, _, _, _, _, rfl, H⟩
     ·refine tr_region (tq (y_move rfl) (tq (y_move rfl) (tq (y_lss rfl rfl) (tq (y_move rfl) ?_))));refine tr_split (t := 28) rfl (fun g10 => ?_) (fun g10 => ?_)
      ·replace H := H.1 g10;refine tq (y_move rfl) (tq (y_move rfl) (tq (y_move rfl) (tr_e (e_invL mt_103_Less Tryz.isAgg99 Tryz.call205 rfl rfl (inv_map (fun y13 H => (F.xcf_ok H)) H)) rfl rfl ?_)));rintro _ h11 ⟨r14, rfl, H⟩;refine tq (y_pick_t rfl rfl) (tr_nil (tr_thenN ?_));exact tr_join [(0, (.iface 103 (.pointer x0))), (1, (.int .i64 x1)), (2, (.int .i64 x2)), (7, (.int .i64 x7)), (9, (.int .i64 x8)), (10, (.int .i64 (IntKind.wrap .i64 (x8 + 1)))), (33, (.bool r14))] ⟨rfl, rfl, rfl, rfl, rfl, rfl, rfl, trivial⟩ ⟨_, _, _, _, _, _, _, rfl, H⟩
      ·replace H := H.2 g10;refine ts (ts (ts (ts (tq (y_pick_f rfl rfl) (tr_nil (tr_thenN ?_))))));exact tr_join [(0, (.iface 103 (.pointer x0))), (1, (.int .i64 x1)), (2, (.int .i64 x2)), (7, (.int .i64 x7)), (9, (.int .i64 x8)), (10, (.int .i64 (IntKind.wrap .i64 (x8 + 1)))), (33, (.bool false))] ⟨rfl, rfl, rfl, rfl, rfl, rfl, rfl, trivial⟩ ⟨_, _, _, _, _, _, _, rfl, H⟩
   ·refine tr_seq_j (fun L' h => ∃ (x0 : Option Addr) (x1 : Int) (x2 : Int) (x7 : Int) (x8 : Int) (x21 : Bool), L' = [(0, (.iface 103 (.pointer x0))), (1, (.int .i64 x1)), (2, (.int .i64 x2)), (7, (.int .i64 x7)), (8, (.int .i64 x8)), (21, (.bool x21))] ∧ F.xab.j6 Q (F.xab.l2 Q q2) x0 x1 x2 x7 x8 x21 h) ?_ ?_
    ·rintro L' h ⟨x0, x1, x2, x7, x8, x21, rfl, H⟩;unfold F.xab.j6 at H;refine tr_cond rfl (fun g15 => ?_) (fun g15 => ?_)
     ·replace H := H.1 g15;refine tr_exit (tr_thenE (tr_miss rfl (tr_thenE (tr_hit (tr_thenN ?_)))));exact tr_join [(1, (.int .i64 x1)), (7, (.int .i64 x7))] ⟨rfl, rfl, trivial⟩ ⟨_, _, rfl, H⟩
     ·replace H := H.2 g15;refine tr_skip (tr_thenN ?_);exact tr_join [(0, (.iface 103 (.pointer x0))), (1, (.int .i64 x1)), (2, (.int .i64 x2)), (7, (.int .i64 x7)), (8, (.int .i64 x8))] ⟨rfl, rfl, rfl, rfl, rfl, trivial⟩ ⟨_, _, _, _, _, rfl, H⟩
    ·refine tr_region (tq (y_move rfl) (tq (y_move rfl) (tq (y_geq rfl rfl) (tq (y_move rfl) ?_))));refine tr_split (t := 18) rfl (fun g16 => ?_) (fun g16 => ?_)
     ·replace H := H.1 g16;refine ts (ts (tq (y_pick_t rfl rfl) (tr_nil (tr_thenN ?_))));exact tr_join [(0, (.iface 103 (.pointer x0))), (1, (.int .i64 x1)), (2, (.int .i64 x2)), (7, (.int .i64 x7)), (8, (.int .i64 (IntKind.wrap .i64 ((IntKind.wrap .i64 (2 * x7)) + 1)))), (21, (.bool true))] ⟨rfl, rfl, rfl, rfl, rfl, rfl, trivial⟩ ⟨_, _, _, _, _, _, rfl, H⟩
     ·replace H := H.2 g16;refine tq (y_move rfl) (tq (y_lss rfl rfl) (tq (y_pick_f rfl rfl) (tr_nil (tr_thenN ?_))));exact tr_join [(0, (.iface 103 (.pointer x0))), (1, (.int .i64 x1)), (2, (.int .i64 x2)), (7, (.int .i64 x7)), (8, (.int .i64 (IntKind.wrap .i64 ((IntKind.wrap .i64 (2 * x7)) + 1)))), (21, (.bool (decide ((IntKind.wrap .i64 ((IntKind.wrap .i64 (2 * x7)) + 1)) < 0))))] ⟨rfl, rfl, rfl, rfl, rfl, rfl, trivial⟩ ⟨_, _, _, _, _, _, rfl, H⟩
def F.xbm.l1 (Q : H -> Prop) : Nat -> (Option Addr) -> Int -> Int -> H -> Prop
  | 0, _, _, _, _ => False
  | q1 + 1, x0, x2, x3, h =>
    ((decide (x3 >= 0)) = true ->
    F.xab x0 x3 x2 h fun r8 h7 =>
    (F.xbm.l1 Q q1) x0 x2 (IntKind.wrap .i64 (x3 - 1)) h7) ∧
    ((decide (x3 >= 0)) = false ->
    Q h)
def F.xbm (p0 : Option Addr) (h : H) (Q : H -> Prop) : Prop :=
  nn p0 fun a2 =>
  ldL h a2 fun y3 =>
  F.xbw y3 h fun r4 h1 =>
  (2 : Int) ≠ 0 ∧
  ∃ m, F.xbm.l1 Q m p0 r4 (IntKind.wrap .i64 ((IntKind.wrap .i64 (Int.tdiv r4 2)) - 1)) h1
theorem F.xbm_ok {p0 : Option Addr} {h : H} {Q : H -> Prop} (H : F.xbm p0 h Q) : Fn PP 52 ([(.iface 103 (.pointer p0))] : List Value).toArray h fun r h' => r = .tuple #[] ∧ Q  h' := by
 unfold F.xbm at H;refine fn_of Tryz.func52 Tryz.ntmps52 rfl rfl fun w0 => (tr_sub [(0, (.iface 103 (.pointer p0)))] ⟨rfl, trivial⟩ (tr_seq (tr_region (tq (y_move rfl) (tr_e (e_invL mt_103_Len Tryz.isAgg99 Tryz.call204 rfl rfl (inv_map (fun y3 H => (F.xbw_ok H)) H)) rfl rfl ?_)))));rintro _ h1 ⟨r4, rfl, H⟩;refine tq (y_assign rfl) (tr_nil (tr_thenN (tr_seq (tr_region (tq (y_move rfl) ?_)))));obtain ⟨e5, H⟩ := H;refine tq (y_quo rfl rfl e5) (tq (y_sub rfl rfl) (tq (y_assign rfl) (tr_nil (tr_thenN (tr_block ?_)))));obtain ⟨m9, H⟩ := H;refine tr_sub [(0, (.iface 103 (.pointer p0))), (2, (.int .i64 r4)), (3, (.int .i64 (IntKind.wrap .i64 ((IntKind.wrap .i64 (Int.tdiv r4 2)) - 1))))] ⟨rfl, rfl, rfl, trivial⟩ ?_;refine tr_loop_j (fun m L' h => ∃ (x0 : Option Addr) (x2 : Int) (x3 : Int), L' = [(0, (.iface 103 (.pointer x0))), (2, (.int .i64 x2)), (3, (.int .i64 x3))] ∧ F.xbm.l1 Q m x0 x2 x3 h) ?_ ?_ m9 ⟨_, _, _, rfl, H⟩
 ·rintro L' h ⟨_, _, _, _, H⟩; exact H
 ·rintro q1 L' h ⟨x0, x2, x3, rfl, H⟩;unfold F.xbm.l1 at H;refine tr_seq (tr_seq (tr_region (tq (y_move rfl) (tq (y_geq rfl rfl) (tr_nil (tr_thenN ?_))))));refine tr_cond rfl (fun g6 => ?_) (fun g6 => ?_)
  ·replace H := H.1 g6;refine tr_skip (tr_thenN (tr_seq (tr_block (tr_region (tq (y_move rfl) (tq (y_move rfl) (tq (y_move rfl) (tr_e (e_call Tryz.call92 rfl (F.xab_ok H)) rfl rfl ?_))))))));rintro _ h7 ⟨r8, rfl, H⟩;refine tr_nil (tr_blockN (tr_thenN (tr_region (tq (y_move rfl) (tq (y_sub rfl rfl) (tq (y_assign rfl) (tr_nil (tr_thenN ?_))))))));exact tr_join [(0, (.iface 103 (.pointer x0))), (2, (.int .i64 x2)), (3, (.int .i64 (IntKind.wrap .i64 (x3 - 1))))] ⟨rfl, rfl, rfl, trivial⟩ ⟨_, _, _, rfl, H⟩
  ·replace H := H.2 g6;refine tr_exit (tr_thenE (tr_thenE (tr_hit ?_)));exact tr_end0 rfl ⟨rfl, H⟩
def F.xdc (p0 : Option Addr) (h : H) (Q : Value -> H -> Prop) : Prop :=
  nn p0 fun a1 =>
  ldL h a1 fun y3 =>
  idxA y3 (IntKind.wrap .i64 ((y3.len : Int) - 1)) 2 fun a5 =>
  ld_S_merge_front h a5 fun y7 =>
  new h (((⟨(⟨none, 0, 0⟩ : Sl), 0⟩ : S_merge_front) : S_merge_front).cells.toArray) ty_101 fun a10 h9 =>
  stH h9 a10 y7.cells fun h11 =>
  cutL y3 0 (IntKind.wrap .i64 ((y3.len : Int) - 1)) 2 fun s13 =>
  nn p0 fun a14 =>
  stH h11 a14 [s13.enc] fun h16 =>
  ld_S_merge_front h16 a10 fun y17 =>
  Q (.iface 101 (.agg y17.cells.toArray)) h16
theorem F.xdc_ok {p0 : Option Addr} {h : H} {Q : Value -> H -> Prop} (H : F.xdc p0 h Q) : Fn PP 207 ([(.pointer p0)] : List Value).toArray h fun r h' => ∃ r0, r = r0 ∧ Q r0 h' := by
 unfold F.xdc at H;refine fn_of Tryz.func207 Tryz.ntmps207 rfl rfl fun w0 => (tr_sub [(0, (.pointer p0))] ⟨rfl, trivial⟩ (tr_seq (tr_region (tq (y_assign rfl) (tr_nil (tr_thenN (tr_seq (tr_region (tq (y_move rfl) ?_)))))))));obtain ⟨a1, e2, H⟩ := H;refine tq (f_nn rfl e2) ?_;obtain ⟨y3, k4, H⟩ := H;refine tr_h (y_ld Tryz.isAgg99 rfl) k4 rfl rfl (tq (y_assign rfl) (tr_nil (tr_thenN (tr_seq (tr_region (tq (y_move rfl) (tq (y_move rfl) (tq (y_len (ts := #[]) Tryz.runUnderlying99 (o := y3.ptr) (n := y3.len) (cap := y3.cap) rfl) (tq (y_sub rfl rfl) ?_)))))))));obtain ⟨a5, e6, H⟩ := H;refine tq (f_idx (s := y3) Tryz.runUnderlying99 Tryz.sizeOf101 rfl rfl e6) ?_;obtain ⟨y7, k8, H⟩ := H;refine tr_h (y_ldS Tryz.isAgg101 Tryz.sizeOf101 rfl rfl) k8 rfl rfl (tr_e (f_alloc (cs := ((⟨(⟨none, 0, 0⟩ : Sl), 0⟩ : S_merge_front) : S_merge_front).cells.toArray) Tryz.zeroValue101 rfl H) rfl rfl ?_);rintro _ h9 ⟨a10, rfl, H⟩;refine tr_e (f_store (vs := y7.cells) Tryz.sizeOf101 rfl rfl cellsOfStruct rfl (by intro v hv; exact ones_S_merge_front _ v hv) H) rfl rfl ?_;rintro _ h11 ⟨rfl, H⟩;refine tr_nil (tr_thenN (tr_seq (tr_region (tq (y_move rfl) (tq (y_move rfl) (tq (y_move rfl) (tq (y_len (ts := #[]) Tryz.runUnderlying99 (o := y3.ptr) (n := y3.len) (cap := y3.cap) rfl) (tq (y_sub rfl rfl) ?_))))))));obtain ⟨s13, e12, H⟩ := H;refine tq (f_cutL (s := y3) none (some (.i64, (IntKind.wrap .i64 ((y3.len : Int) - 1)))) Tryz.runUnderlying99 Tryz.sizeOf101 rfl rfl rfl e12) ?_;obtain ⟨a14, e15, H⟩ := H;refine tq (f_nn rfl e15) (tr_e (f_store (vs := [s13.enc]) Tryz.sizeOf99 rfl rfl rfl rfl (one1 rfl) H) rfl rfl ?_);rintro _ h16 ⟨rfl, H⟩;refine tr_nil (tr_thenN (tr_seq (tr_region ?_)));obtain ⟨y17, k18, H⟩ := H;refine tr_h (y_ldS Tryz.isAgg101 Tryz.sizeOf101 rfl rfl) k18 rfl rfl (tq (y_mkif Tryz.runUnderlying101 rfl rfl) (tq (y_assign rfl) (tr_nil (tr_thenN (tr_ret ?_)))));exact tr_ret1 rfl rfl ⟨_, rfl, H⟩
def F.xdd (p0 : Option Addr) (h : H) (Q : Value -> H -> Prop) : Prop :=
  nn p0 fun a2 =>
  ldL h a2 fun y3 =>
  F.xbw y3 h fun r4 h1 =>
  nn p0 fun a6 =>
  ldL h1 a6 fun y7 =>
  F.xca y7 0 (IntKind.wrap .i64 (r4 - 1)) h1 fun h5 =>
  F.xab p0 0 (IntKind.wrap .i64 (r4 - 1)) h5 fun r9 h8 =>
  F.xdc p0 h8 fun r11 h10 =>
  Q r11 h10
theorem F.xdd_ok {p0 : Option Addr} {h : H} {Q : Value -> H -> Prop} (H : F.xdd p0 h Q) : Fn PP 53 ([(.iface 103 (.pointer p0))] : List Value).toArray h fun r h' => ∃ r0, r = r0 ∧ Q r0 h' := by
 unfold F.xdd at H;refine fn_of Tryz.func53 Tryz.ntmps53 rfl rfl fun w0 => (tr_sub [(0, (.iface 103 (.pointer p0)))] ⟨rfl, trivial⟩ (tr_seq (tr_region (tq (y_assign rfl) (tr_nil (tr_thenN (tr_seq (tr_region (tq (y_move rfl) (tr_e (e_invL mt_103_Len Tryz.isAgg99 Tryz.call204 rfl rfl (inv_map (fun y3 H => (F.xbw_ok H)) H)) rfl rfl ?_))))))))));rintro _ h1 ⟨r4, rfl, H⟩;refine tq (y_sub rfl rfl) (tq (y_assign rfl) (tr_nil (tr_thenN (tr_seq (tr_region (tq (y_move rfl) (tq (y_move rfl) (tr_e (e_invL mt_103_Swap Tryz.isAgg99 Tryz.call206 rfl rfl (inv_map (fun y7 H => (F.xca_ok H)) H)) rfl rfl ?_))))))));rintro _ h5 ⟨rfl, H⟩;refine tr_nil (tr_thenN (tr_seq (tr_region (tq (y_move rfl) (tq (y_move rfl) (tr_e (e_call Tryz.call92 rfl (F.xab_ok H)) rfl rfl ?_))))));rintro _ h8 ⟨r9, rfl, H⟩;refine tr_nil (tr_thenN (tr_seq (tr_region (tq (y_move rfl) (tr_e (e_invP mt_103_Pop Tryz.call207 rfl rfl (F.xdc_ok H)) rfl rfl ?_)))));rintro r11 h10 ⟨_, rfl, H⟩;refine tq (y_assign rfl) (tr_nil (tr_thenN (tr_ret ?_)));exact tr_ret1 rfl rfl ⟨_, rfl, H⟩
def F.xal.j2 (Q : H -> Prop) (C1 : (Option Addr) -> Int -> H -> Prop) (x0 : Option Addr) (x1 : Int) (x4 : Int) (h : H) : Prop :=
  nn x0 fun a3 =>
  ldL h a3 fun y4 =>
  F.xca y4 x4 x1 h fun h2 =>
  C1 x0 x4 h2
def F.xal.j3 (Q : H -> Prop) (C1 : (Option Addr) -> Int -> H -> Prop) (x0 : Option Addr) (x1 : Int) (x4 : Int) (x17 : Bool) (h : H) : Prop :=
  (x17 = true ->
  Q h) ∧
  (x17 = false ->
  F.xal.j2 Q C1 x0 x1 x4 h)
def F.xal.l1 (Q : H -> Prop) : Nat -> (Option Addr) -> Int -> H -> Prop
  | 0, _, _, _ => False
  | q1 + 1, x0, x1, h =>
    (2 : Int) ≠ 0 ∧
    ((((IntKind.wrap .i64 (Int.tdiv (IntKind.wrap .i64 (x1 - 1)) 2)) == x1)) = true ->
    F.xal.j3 Q (F.xal.l1 Q q1) x0 x1 (IntKind.wrap .i64 (Int.tdiv (IntKind.wrap .i64 (x1 - 1)) 2)) true h) ∧
    ((((IntKind.wrap .i64 (Int.tdiv (IntKind.wrap .i64 (x1 - 1)) 2)) == x1)) = false ->
    nn x0 fun a8 =>
    ldL h a8 fun y9 =>
    F.xcf y9 x1 (IntKind.wrap .i64 (Int.tdiv (IntKind.wrap .i64 (x1 - 1)) 2)) h fun r10 h7 =>
    F.xal.j3 Q (F.xal.l1 Q q1) x0 x1 (IntKind.wrap .i64 (Int.tdiv (IntKind.wrap .i64 (x1 - 1)) 2)) (!r10) h7)
def F.xal (p0 : Option Addr) (p1 : Int) (h : H) (Q : H -> Prop) : Prop :=
  ∃ m, F.xal.l1 Q m p0 p1 h
theorem F.xal_ok {p0 : Option Addr} {p1 : Int} {h : H} {Q : H -> Prop} (H : F.xal p0 p1 h Q) : Fn PP 93 ([(.iface 103 (.pointer p0)), (.int .i64 p1)] : List Value).toArray h fun r h' => r = .tuple #[] ∧ Q  h' := by
 unfold F.xal at H;refine fn_of Tryz.func93 Tryz.ntmps93 rfl rfl fun w0 => (tr_sub [(0, (.iface 103 (.pointer p0))), (1, (.int .i64 p1))] ⟨rfl, rfl, trivial⟩ (tr_block ?_));obtain ⟨m11, H⟩ := H;refine tr_sub [(0, (.iface 103 (.pointer p0))), (1, (.int .i64 p1))] ⟨rfl, rfl, trivial⟩ ?_;refine tr_loop_j (fun m L' h => ∃ (x0 : Option Addr) (x1 : Int), L' = [(0, (.iface 103 (.pointer x0))), (1, (.int .i64 x1))] ∧ F.xal.l1 Q m x0 x1 h) ?_ ?_ m11 ⟨_, _, rfl, H⟩
 ·rintro L' h ⟨_, _, _, H⟩; exact H
 ·rintro q1 L' h ⟨x0, x1, rfl, H⟩;unfold F.xal.l1 at H;refine tr_block (tr_seq (tr_region (tq (y_move rfl) (tq (y_sub rfl rfl) ?_))));obtain ⟨e1, H⟩ := H;refine tq (y_quo rfl rfl e1) (tq (y_assign rfl) (tr_nil (tr_thenN ?_)));refine tr_seq_j (fun L' h => ∃ (x0 : Option Addr) (x1 : Int) (x4 : Int), L' = [(0, (.iface 103 (.pointer x0))), (1, (.int .i64 x1)), (4, (.int .i64 x4))] ∧ F.xal.j2 Q (F.xal.l1 Q q1) x0 x1 x4 h) ?_ ?_
  ·rintro L' h ⟨x0, x1, x4, rfl, H⟩;unfold F.xal.j2 at H;refine tr_seq (tr_region (tq (y_move rfl) (tq (y_move rfl) (tq (y_move rfl) (tr_e (e_invL mt_103_Swap Tryz.isAgg99 Tryz.call206 rfl rfl (inv_map (fun y4 H => (F.xca_ok H)) H)) rfl rfl ?_)))));rintro _ h2 ⟨rfl, H⟩;refine tr_nil (tr_thenN (tr_region (tq (y_move rfl) (tq (y_assign rfl) (tr_nil (tr_blockN (tr_thenN ?_)))))));exact tr_join [(0, (.iface 103 (.pointer x0))), (1, (.int .i64 x4))] ⟨rfl, rfl, trivial⟩ ⟨_, _, rfl, H⟩
  ·refine tr_seq_j (fun L' h => ∃ (x0 : Option Addr) (x1 : Int) (x4 : Int) (x17 : Bool), L' = [(0, (.iface 103 (.pointer x0))), (1, (.int .i64 x1)), (4, (.int .i64 x4)), (17, (.bool x17))] ∧ F.xal.j3 Q (F.xal.l1 Q q1) x0 x1 x4 x17 h) ?_ ?_
   ·rintro L' h ⟨x0, x1, x4, x17, rfl, H⟩;unfold F.xal.j3 at H;refine tr_cond rfl (fun g5 => ?_) (fun g5 => ?_)
    ·replace H := H.1 g5;refine tr_exit (tr_thenE (tr_miss rfl (tr_thenE (tr_hit ?_))));exact tr_end0 rfl ⟨rfl, H⟩
    ·replace H := H.2 g5;refine tr_skip (tr_thenN ?_);exact tr_join [(0, (.iface 103 (.pointer x0))), (1, (.int .i64 x1)), (4, (.int .i64 x4))] ⟨rfl, rfl, rfl, trivial⟩ ⟨_, _, _, rfl, H⟩
   ·refine tr_region (tq (y_move rfl) (tq (y_move rfl) (tq (y_eql rfl rfl) (tq (y_move rfl) ?_))));refine tr_split (t := 11) rfl (fun g6 => ?_) (fun g6 => ?_)
    ·replace H := H.1 g6;refine ts (ts (ts (ts (ts (tq (y_pick_t rfl rfl) (tr_nil (tr_thenN ?_)))))));exact tr_join [(0, (.iface 103 (.pointer x0))), (1, (.int .i64 x1)), (4, (.int .i64 (IntKind.wrap .i64 (Int.tdiv (IntKind.wrap .i64 (x1 - 1)) 2)))), (17, (.bool true))] ⟨rfl, rfl, rfl, rfl, trivial⟩ ⟨_, _, _, _, rfl, H⟩
    ·replace H := H.2 g6;refine tq (y_move rfl) (tq (y_move rfl) (tq (y_move rfl) (tr_e (e_invL mt_103_Less Tryz.isAgg99 Tryz.call205 rfl rfl (inv_map (fun y9 H => (F.xcf_ok H)) H)) rfl rfl ?_)));rintro _ h7 ⟨r10, rfl, H⟩;refine tq (y_not rfl) (tq (y_pick_f rfl rfl) (tr_nil (tr_thenN ?_)));exact tr_join [(0, (.iface 103 (.pointer x0))), (1, (.int .i64 x1)), (4, (.int .i64 (IntKind.wrap .i64 (Int.tdiv (IntKind.wrap .i64 (x1 - 1)) 2)))), (17, (.bool (!r10)))] ⟨rfl, rfl, rfl, rfl, trivial⟩ ⟨_, _, _, _, rfl, H⟩
def F.xcv (p0 : Option Addr) (p1 : Int) (h : H) (Q : H -> Prop) : Prop :=
  nn p0 fun a2 =>
  ldL h a2 fun y3 =>
  F.xbw y3 h fun r4 h1 =>
  F.xab p0 p1 r4 h1 fun r6 h5 =>
  ((!r6) = true ->
  F.xal p0 p1 h5 fun h8 =>
  Q h8) ∧
  ((!r6) = false ->
  Q h5)
theorem F.xcv_ok {p0 : Option Addr} {p1 : Int} {h : H} {Q : H -> Prop} (H : F.xcv p0 p1 h Q) : Fn PP 54 ([(.iface 103 (.pointer p0)), (.int .i64 p1)] : List Value).toArray h fun r h' => r = .tuple #[] ∧ Q  h' := by
 unfold F.xcv at H;refine fn_of Tryz.func54 Tryz.ntmps54 rfl rfl fun w0 => (tr_sub [(0, (.iface 103 (.pointer p0))), (1, (.int .i64 p1))] ⟨rfl, rfl, trivial⟩ (tr_seq (tr_region (tq (y_move rfl) (tq (y_move rfl) (tq (y_move rfl) (tr_e (e_invL mt_103_Len Tryz.isAgg99 Tryz.call204 rfl rfl (inv_map (fun y3 H => (F.xbw_ok H)) H)) rfl rfl ?_)))))));rintro _ h1 ⟨r4, rfl, H⟩;refine tr_e (e_call Tryz.call92 rfl (F.xab_ok H)) rfl rfl ?_;rintro _ h5 ⟨r6, rfl, H⟩;refine tq (y_not rfl) (tr_nil (tr_thenN ?_));refine tr_cond rfl (fun g7 => ?_) (fun g7 => ?_)
 ·replace H := H.1 g7;refine tr_region (tq (y_move rfl) (tq (y_move rfl) (tr_e (e_call Tryz.call93 rfl (F.xal_ok H)) rfl rfl ?_)));rintro _ h8 ⟨rfl, H⟩;refine tr_nil ?_;exact tr_end0 rfl ⟨rfl, H⟩
 ·replace H := H.2 g7;refine tr_skip ?_;exact tr_end0 rfl ⟨rfl, H⟩
def F.xai.j3 (Q : Sl -> H -> Prop) (C1 : Int -> Addr -> Sl -> H -> Prop) (x0 : Int) (x5 : Addr) (x8 : Sl) (h : H) : Prop :=
  ldL h x5 fun y17 =>
  idxA y17 0 2 fun a19 =>
  ldL h (a19.add 0) fun y21 =>
  idxA y21 0 7 fun a23 =>
  ld_S_api_Row h a23 fun y25 =>
  newL h ((y25.cells).toArray) ty_49 1 fun s28 h27 =>
  runL PP (Builtin.append_ #[51, 51] 51 #[x8.enc, s28.enc]) h27 fun s30 h29 =>
  ldL h29 x5 fun y31 =>
  ldL h29 x5 fun y33 =>
  idxA y33 0 2 fun a35 =>
  ldL h29 (a35.add 0) fun y37 =>
  cutL y37 1 (y37.len : Int) 7 fun s40 =>
  idxA y31 0 2 fun a41 =>
  stH h29 (a41.add 0) [s40.enc] fun h43 =>
  ldL h43 x5 fun y44 =>
  idxA y44 0 2 fun a46 =>
  ldL h43 (a46.add 0) fun y48 =>
  ((((y48.len : Int) == 0)) = true ->
  F.xdd (some x5) h43 fun r52 h51 =>
  C1 x0 x5 s30 h51) ∧
  ((((y48.len : Int) == 0)) = false ->
  F.xcv (some x5) 0 h43 fun h53 =>
  C1 x0 x5 s30 h53)
def F.xai.j4 (Q : Sl -> H -> Prop) (C1 : Int -> Addr -> Sl -> H -> Prop) (x0 : Int) (x5 : Addr) (x8 : Sl) (x36 : Bool) (h : H) : Prop :=
  (x36 = true ->
  F.xai.j3 Q C1 x0 x5 x8 h) ∧
  (x36 = false ->
  Q x8 h)
def F.xai.l2 (Q : Sl -> H -> Prop) : Nat -> Int -> Addr -> Sl -> H -> Prop
  | 0, _, _, _, _ => False
  | q2 + 1, x0, x5, x8, h =>
    ldL h x5 fun y55 =>
    ((decide ((y55.len : Int) > 0)) = true ->
    F.xai.j4 Q (F.xai.l2 Q q2) x0 x5 x8 (decide ((x8.len : Int) < x0)) h) ∧
    ((decide ((y55.len : Int) > 0)) = false ->
    F.xai.j4 Q (F.xai.l2 Q q2) x0 x5 x8 false h)
def F.xai.l1 (Q : Sl -> H -> Prop) : Nat -> Int -> Addr -> Sl -> Int -> Int -> H -> Prop
  | 0, _, _, _, _, _, _ => False
  | q1 + 1, x0, x5, x9, x10, x11, h =>
    ((decide (x11 < x10)) = true ->
    idxA x9 x11 1 fun a4 =>
    ldL h a4 fun y6 =>
    ((decide ((y6.len : Int) > 0)) = true ->
    ldL h x5 fun y9 =>
    newL h (((⟨y6, x11⟩ : S_merge_front).cells).toArray) ty_101 1 fun s12 h11 =>
    runL PP (Builtin.append_ #[99, 99] 99 #[y9.enc, s12.enc]) h11 fun s14 h13 =>
    stH h13 x5 [s14.enc] fun h15 =>
    (F.xai.l1 Q q1) x0 x5 x9 x10 (IntKind.wrap .i64 (x11 + 1)) h15) ∧
    ((decide ((y6.len : Int) > 0)) = false ->
    (F.xai.l1 Q q1) x0 x5 x9 x10 (IntKind.wrap .i64 (x11 + 1)) h)) ∧
    ((decide (x11 < x10)) = false ->
    F.xbm (some x5) h fun h16 =>
    ∃ m, F.xai.l2 Q m x0 x5 (⟨none, 0, 0⟩ : Sl) h16)
def F.xai (p0 : Int) (p1 : Sl) (h : H) (Q : Sl -> H -> Prop) : Prop :=
  new h #[(⟨none, 0, 0⟩ : Sl).enc] ty_99 fun a2 h1 =>
  ∃ m, F.xai.l1 Q m p0 a2 p1 (p1.len : Int) 0 h1
theorem F.xai_ok {p0 : Int} {p1 : Sl} {h : H} {Q : Sl -> H -> Prop} (H : F.xai p0 p1 h Q) : Fn PP 22 ([(.int .i64 p0), p1.enc] : List Value).toArray h fun r h' => ∃ r0, r = r0.enc ∧ Q r0 h' := by
 unfold F.xai at H;refine fn_of Tryz.func22 Tryz.ntmps22 rfl rfl fun w0 => (tr_sub [(0, (.int .i64 p0)), (1, p1.enc)] ⟨rfl, rfl, trivial⟩ (tr_seq (tr_region (tq (y_assign rfl) (tr_nil (tr_thenN (tr_seq (tr_region (tr_e (f_alloc (cs := #[(⟨none, 0, 0⟩ : Sl).enc]) Tryz.zeroValue99 rfl H) rfl rfl ?_)))))))));rintro _ h1 ⟨a2, rfl, H⟩;refine tr_nil (tr_thenN (tr_seq (tr_seq (tr_region (tq (y_move rfl) (tq (y_len (ts := #[]) Tryz.runUnderlying55 (o := p1.ptr) (n := p1.len) (cap := p1.cap) rfl) (tq (y_move rfl) (tr_nil (tr_thenN (tr_block ?_))))))))));obtain ⟨m59, H⟩ := H;refine tr_sub [(0, (.int .i64 p0)), (5, (.pointer (some a2))), (9, p1.enc), (10, (.int .i64 (p1.len : Int))), (11, (.int .i64 0))] ⟨rfl, rfl, rfl, rfl, rfl, trivial⟩ ?_;refine tr_loop_j (fun m L' h => ∃ (x0 : Int) (x5 : Addr) (x9 : Sl) (x10 : Int) (x11 : Int), L' = [(0, (.int .i64 x0)), (5, (.pointer (some x5))), (9, x9.enc), (10, (.int .i64 x10)), (11, (.int .i64 x11))] ∧ F.xai.l1 Q m x0 x5 x9 x10 x11 h) ?_ ?_ m59 ⟨_, _, _, _, _, rfl, H⟩
 ·rintro L' h ⟨_, _, _, _, _, _, H⟩; exact H
 ·rintro q1 L' h ⟨x0, x5, x9, x10, x11, rfl, H⟩;unfold F.xai.l1 at H;refine tr_seq (tr_region (tq (y_lss rfl rfl) (tr_nil (tr_thenN (tr_seq ?_)))));refine tr_cond rfl (fun g3 => ?_) (fun g3 => ?_)
  ·replace H := H.1 g3;refine tr_skip (tr_thenN (tr_seq (tr_block (tr_seq (tr_region (tq (y_move rfl) ?_))))));obtain ⟨a4, e5, H⟩ := H;refine tq (f_idx (s := x9) Tryz.runUnderlying55 Tryz.sizeOf51 rfl rfl e5) ?_;obtain ⟨y6, k7, H⟩ := H;refine tr_h (y_ld Tryz.isAgg51 rfl) k7 rfl rfl (tq (y_assign rfl) (tq (y_assign rfl) (tr_nil (tr_thenN (tr_seq (tr_region (tq (y_move rfl) (tq (y_len (ts := #[]) Tryz.runUnderlying51 (o := y6.ptr) (n := y6.len) (cap := y6.cap) rfl) (tq (y_gtr rfl rfl) (tr_nil (tr_thenN ?_)))))))))));refine tr_cond rfl (fun g8 => ?_) (fun g8 => ?_)
   ·replace H := H.1 g8;refine tr_region ?_;obtain ⟨y9, k10, H⟩ := H;refine tr_h (y_ld Tryz.isAgg99 rfl) k10 rfl rfl (tq (y_move rfl) (tq (y_move rfl) (tq (f_build rfl (bd_101_0_1 y6 x11)) (tr_e (f_buildL (cs := ((⟨y6, x11⟩ : S_merge_front).cells).toArray) rfl rfl (bl_99_1_0 (⟨y6, x11⟩ : S_merge_front)) H) rfl rfl ?_))));rintro _ h11 ⟨s12, rfl, H⟩;refine tr_e (f_app rfl H) rfl rfl ?_;rintro _ h13 ⟨s14, rfl, H⟩;refine tr_e (f_store (vs := [s14.enc]) Tryz.sizeOf99 rfl rfl rfl rfl (one1 rfl) H) rfl rfl ?_;rintro _ h15 ⟨rfl, H⟩;refine tr_nil (tr_blockN (tr_thenN (tr_region (tq (y_add rfl rfl) (tq (y_move rfl) (tr_nil (tr_thenN ?_)))))));exact tr_join [(0, (.int .i64 x0)), (5, (.pointer (some x5))), (9, x9.enc), (10, (.int .i64 x10)), (11, (.int .i64 (IntKind.wrap .i64 (x11 + 1))))] ⟨rfl, rfl, rfl, rfl, rfl, trivial⟩ ⟨_, _, _, _, _, rfl, H⟩
   ·replace H := H.2 g8;refine tr_skip (tr_blockN (tr_thenN (tr_region (tq (y_add rfl rfl) (tq (y_move rfl) (tr_nil (tr_thenN ?_)))))));exact tr_join [(0, (.int .i64 x0)), (5, (.pointer (some x5))), (9, x9.enc), (10, (.int .i64 x10)), (11, (.int .i64 (IntKind.wrap .i64 (x11 + 1))))] ⟨rfl, rfl, rfl, rfl, rfl, trivial⟩ ⟨_, _, _, _, _, rfl, H⟩
  ·replace H := H.2 g3;refine tr_exit (tr_thenE (tr_thenE (tr_hit (tr_thenN (tr_seq (tr_region (tq (y_mkif Tryz.runUnderlying103 rfl rfl) (tr_e (e_call Tryz.call52 rfl (F.xbm_ok H)) rfl rfl ?_))))))));rintro _ h16 ⟨rfl, H⟩;refine tr_nil (tr_thenN (tr_seq (tr_region (tq (y_assign rfl) (tr_nil (tr_thenN (tr_seq (tr_block ?_))))))));obtain ⟨m58, H⟩ := H;refine tr_sub [(0, (.int .i64 x0)), (5, (.pointer (some x5))), (8, (⟨none, 0, 0⟩ : Sl).enc)] ⟨rfl, rfl, rfl, trivial⟩ ?_;refine tr_loop_j (fun m L' h => ∃ (x0 : Int) (x5 : Addr) (x8 : Sl), L' = [(0, (.int .i64 x0)), (5, (.pointer (some x5))), (8, x8.enc)] ∧ F.xai.l2 Q m x0 x5 x8 h) ?_ ?_ m58 ⟨_, _, _, rfl, H⟩
   ·rintro L' h ⟨_, _, _, _, H⟩; exact H
   ·rintro q2 L' h ⟨x0, x5, x8, rfl, H⟩;unfold F.xai.l2 at H;refine tr_seq_j (fun L' h => ∃ (x0 : Int) (x5 : Addr) (x8 : Sl), L' = [(0, (.int .i64 x0)), (5, (.pointer (some x5))), (8, x8.enc)] ∧ F.xai.j3 Q (F.xai.l2 Q q2) x0 x5 x8 h) ?_ ?_
    ·rintro L' h ⟨x0, x5, x8, rfl, H⟩;unfold F.xai.j3 at H;refine tr_block (tr_seq (tr_region (tq (y_move rfl) ?_)));obtain ⟨y17, k18, H⟩ := H;refine tr_h (y_ld Tryz.isAgg99 rfl) k18 rfl rfl ?_;obtain ⟨a19, e20, H⟩ := H;refine tq (f_idx (s := y17) Tryz.runUnderlying99 Tryz.sizeOf101 rfl rfl e20) (tq (y_fa (off := 0) Tryz.runUnderlying101 fo_101_0 rfl) ?_);obtain ⟨y21, k22, H⟩ := H;refine tr_h (y_ld Tryz.isAgg51 rfl) k22 rfl rfl ?_;obtain ⟨a23, e24, H⟩ := H;refine tq (f_idx (s := y21) Tryz.runUnderlying51 Tryz.sizeOf49 rfl rfl e24) ?_;obtain ⟨y25, k26, H⟩ := H;refine tr_h (y_ldS Tryz.isAgg49 Tryz.sizeOf49 rfl rfl) k26 rfl rfl (tr_e (f_buildL (cs := (y25.cells).toArray) rfl rfl (bl_51_1_0 y25) H) rfl rfl ?_);rintro _ h27 ⟨s28, rfl, H⟩;refine tr_e (f_app rfl H) rfl rfl ?_;rintro _ h29 ⟨s30, rfl, H⟩;refine tq (y_assign rfl) (tr_nil (tr_thenN (tr_seq (tr_draw mixed [0, 0, 2, 6, 14, 30, 63, 127, 255] (by kernel_rfl) ?_))));obtain ⟨y31, k32, H⟩ := H;refine g_h 0 1 rfl (by kernel_rfl) (y_ld Tryz.isAgg99 rfl) k32 rfl rfl ?_;obtain ⟨y33, k34, H⟩ := H;refine g_h 1 3 rfl (by kernel_rfl) (y_ld Tryz.isAgg99 rfl) k34 rfl rfl ?_;obtain ⟨a35, e36, H⟩ := H;refine g_p 2 7 rfl (by kernel_rfl) (f_idx (s := y33) Tryz.runUnderlying99 Tryz.sizeOf101 rfl rfl e36) rfl rfl (g_p 3 15 rfl (by kernel_rfl) (y_fa (off := 0) Tryz.runUnderlying101 fo_101_0 rfl) rfl rfl ?_);obtain ⟨y37, k38, H⟩ := H;refine g_h 4 31 rfl (by kernel_rfl) (y_ld Tryz.isAgg51 rfl) k38 rfl rfl ?_;obtain ⟨s40, e39, H⟩ := H;refine g_p 5 63 rfl (by kernel_rfl) (f_cutL (s := y37) (some (.i64, 1)) none Tryz.runUnderlying51 Tryz.sizeOf49 rfl rfl rfl e39) rfl rfl ?_;obtain ⟨a41, e42, H⟩ := H;refine g_p 6 127 rfl (by kernel_rfl) (f_idx (s := y31) Tryz.runUnderlying99 Tryz.sizeOf101 rfl rfl e42) rfl rfl (g_p 7 255 rfl (by kernel_rfl) (y_fa (off := 0) Tryz.runUnderlying101 fo_101_0 rfl) rfl rfl (g_e 8 511 [] (by kernel_rfl) rfl (by kernel_rfl) (f_store (vs := [s40.enc]) Tryz.sizeOf51 rfl rfl rfl rfl (one1 rfl) H) rfl rfl ?_));rintro _ h43 ⟨rfl, H⟩;refine ⟨trivial, ?_⟩;refine g_d (by kernel_rfl) (tr_thenN (tr_seq (tr_region ?_)));obtain ⟨y44, k45, H⟩ := H;refine tr_h (y_ld Tryz.isAgg99 rfl) k45 rfl rfl ?_;obtain ⟨a46, e47, H⟩ := H;refine tq (f_idx (s := y44) Tryz.runUnderlying99 Tryz.sizeOf101 rfl rfl e47) (tq (y_fa (off := 0) Tryz.runUnderlying101 fo_101_0 rfl) ?_);obtain ⟨y48, k49, H⟩ := H;refine tr_h (y_ld Tryz.isAgg51 rfl) k49 rfl rfl (tq (y_len (ts := #[]) Tryz.runUnderlying51 (o := y48.ptr) (n := y48.len) (cap := y48.cap) rfl) (tq (y_eql rfl rfl) (tr_nil (tr_thenN ?_))));refine tr_cond rfl (fun g50 => ?_) (fun g50 => ?_)
     ·replace H := H.1 g50;refine tr_region (tq (y_mkif Tryz.runUnderlying103 rfl rfl) (tr_e (e_call Tryz.call53 rfl (F.xdd_ok H)) rfl rfl ?_));rintro r52 h51 ⟨_, rfl, H⟩;refine tr_nil (tr_blockN (tr_thenN ?_));exact tr_join [(0, (.int .i64 x0)), (5, (.pointer (some x5))), (8, s30.enc)] ⟨rfl, rfl, rfl, trivial⟩ ⟨_, _, _, rfl, H⟩
     ·replace H := H.2 g50;refine tr_region (tq (y_mkif Tryz.runUnderlying103 rfl rfl) (tr_e (e_call Tryz.call54 rfl (F.xcv_ok H)) rfl rfl ?_));rintro _ h53 ⟨rfl, H⟩;refine tr_nil (tr_blockN (tr_thenN ?_));exact tr_join [(0, (.int .i64 x0)), (5, (.pointer (some x5))), (8, s30.enc)] ⟨rfl, rfl, rfl, trivial⟩ ⟨_, _, _, rfl, H⟩
    ·refine tr_seq_j (fun L' h => ∃ (x0 : Int) (x5 : Addr) (x8 : Sl) (x36 : Bool), L' = [(0, (.int .i64 x0)), (5, (.pointer (some x5))), (8, x8.enc), (36, (.bool x36))] ∧ F.xai.j4 Q (F.xai.l2 Q q2) x0 x5 x8 x36 h) ?_ ?_
     ·rintro L' h ⟨x0, x5, x8, x36, rfl, H⟩;unfold F.xai.j4 at H;refine tr_cond rfl (fun g54 => ?_) (fun g54 => ?_)
      ·replace H := H.1 g54;refine tr_skip (tr_thenN ?_);exact tr_join [(0, (.int .i64 x0)), (5, (.pointer (some x5))), (8, x8.enc)] ⟨rfl, rfl, rfl, trivial⟩ ⟨_, _, _, rfl, H⟩
      ·replace H := H.2 g54;refine tr_exit (tr_thenE (tr_thenE (tr_hit (tr_thenN (tr_seq (tr_region (tq (y_move rfl) (tq (y_assign rfl) (tr_nil (tr_thenN (tr_ret ?_)))))))))));exact tr_ret1 rfl rfl ⟨_, rfl, H⟩
     ·refine tr_region ?_;obtain ⟨y55, k56, H⟩ := H;refine tr_h (y_ld Tryz.isAgg99 rfl) k56 rfl rfl (tq (y_len (ts := #[]) Tryz.runUnderlying99 (o := y55.ptr) (n := y55.len) (cap := y55.cap) rfl) (tq (y_gtr rfl rfl) (tq (y_move rfl) ?_)));refine tr_split (t := 31) rfl (fun g57 => ?_) (fun g57 => ?_)
      ·replace H := H.1 g57;refine tq (y_move rfl) (tq (y_len (ts := #[]) Tryz.runUnderlying51 (o := x8.ptr) (n := x8.len) (cap := x8.cap) rfl) (tq (y_move rfl) (tq (y_lss rfl rfl) (tq (y_pick_t rfl rfl) (tr_nil (tr_thenN ?_))))));exact tr_join [(0, (.int .i64 x0)), (5, (.pointer (some x5))), (8, x8.enc), (36, (.bool (decide ((x8.len : Int) < x0))))] ⟨rfl, rfl, rfl, rfl, trivial⟩ ⟨_, _, _, _, rfl, H⟩
      ·replace H := H.2 g57;refine ts (ts (ts (ts (tq (y_pick_f rfl rfl) (tr_nil (tr_thenN ?_))))));exact tr_join [(0, (.int .i64 x0)), (5, (.pointer (some x5))), (8, x8.enc), (36, (.bool false))] ⟨rfl, rfl, rfl, rfl, trivial⟩ ⟨_, _, _, _, rfl, H⟩
def F.xbf.l1 (Q : Sl -> H -> Prop) : Nat -> Int -> Int -> Addr -> Addr -> Sl -> Sl -> Int -> Int -> H -> Prop
  | 0, _, _, _, _, _, _, _, _, _ => False
  | q1 + 1, x1, x4, x7, x8, x11, x17, x18, x19, h =>
    ((decide (x19 < x18)) = true ->
    idxA x17 x19 1 fun a10 =>
    ldP h a10 fun y12 =>
    ld_S_api_Cell h x7 fun y14 =>
    ld_S_api_Cell h x8 fun y16 =>
    F.xaj y12 x1 y14 y16 x4 h fun r19 h18 =>
    newL h18 #[r19.enc] ty_51 1 fun s21 h20 =>
    runL PP (Builtin.append_ #[55, 55] 55 #[x11.enc, s21.enc]) h20 fun s23 h22 =>
    (F.xbf.l1 Q q1) x1 x4 x7 x8 s23 x17 x18 (IntKind.wrap .i64 (x19 + 1)) h22) ∧
    ((decide (x19 < x18)) = false ->
    F.xai x4 x11 h fun r25 h24 =>
    Q r25 h24)
def F.xbf (p0 : Option Addr) (p1 : Int) (p2 : S_api_Cell) (p3 : S_api_Cell) (p4 : Int) (h : H) (Q : Sl -> H -> Prop) : Prop :=
  new h p2.cells.toArray ty_35 fun a2 h1 =>
  new h1 p3.cells.toArray ty_35 fun a4 h3 =>
  nn p0 fun a5 =>
  ldL h3 (a5.add 0) fun y7 =>
  ∃ m, F.xbf.l1 Q m p1 p4 a2 a4 (⟨none, 0, 0⟩ : Sl) y7 (y7.len : Int) 0 h3
theorem F.xbf_ok {p0 : Option Addr} {p1 : Int} {p2 : S_api_Cell} {p3 : S_api_Cell} {p4 : Int} {h : H} {Q : Sl -> H -> Prop} (H : F.xbf p0 p1 p2 p3 p4 h Q) : Fn PP 18 ([(.pointer p0), (.int .i64 p1), (.agg p2.cells.toArray), (.agg p3.cells.toArray), (.int .i64 p4)] : List Value).toArray h fun r h' => ∃ r0, r = r0.enc ∧ Q r0 h' := by
 unfold F.xbf at H;refine fn_of Tryz.func18 Tryz.ntmps18 rfl rfl fun w0 => (tr_sub [(0, (.pointer p0)), (1, (.int .i64 p1)), (2, (.agg p2.cells.toArray)), (3, (.agg p3.cells.toArray)), (4, (.int .i64 p4))] ⟨rfl, rfl, rfl, rfl, rfl, trivial⟩ (tr_seq (tr_region (tr_e (f_box (cs := p2.cells.toArray) rfl rfl H) rfl rfl ?_))));rintro _ h1 ⟨a2, rfl, H⟩;refine tr_e (f_box (cs := p3.cells.toArray) rfl rfl H) rfl rfl ?_;rintro _ h3 ⟨a4, rfl, H⟩;refine tq (y_assign rfl) (tr_nil (tr_thenN (tr_seq (tr_region (tq (y_assign rfl) (tr_nil (tr_thenN (tr_seq (tr_seq (tr_region (tq (y_move rfl) ?_)))))))))));obtain ⟨a5, e6, H⟩ := H;refine tq (f_nn rfl e6) (tq (y_fa (off := 0) Tryz.runUnderlying83 fo_83_0 rfl) ?_);obtain ⟨y7, k8, H⟩ := H;refine tr_h (y_ld Tryz.isAgg81 rfl) k8 rfl rfl (tq (y_len (ts := #[]) Tryz.runUnderlying81 (o := y7.ptr) (n := y7.len) (cap := y7.cap) rfl) (tq (y_move rfl) (tr_nil (tr_thenN (tr_block ?_)))));obtain ⟨m26, H⟩ := H;refine tr_sub [(1, (.int .i64 p1)), (4, (.int .i64 p4)), (7, (.pointer (some a2))), (8, (.pointer (some a4))), (11, (⟨none, 0, 0⟩ : Sl).enc), (17, y7.enc), (18, (.int .i64 (y7.len : Int))), (19, (.int .i64 0))] ⟨rfl, rfl, rfl, rfl, rfl, rfl, rfl, rfl, trivial⟩ ?_;refine tr_loop_j (fun m L' h => ∃ (x1 : Int) (x4 : Int) (x7 : Addr) (x8 : Addr) (x11 : Sl) (x17 : Sl) (x18 : Int) (x19 : Int), L' = [(1, (.int .i64 x1)), (4, (.int .i64 x4)), (7, (.pointer (some x7))), (8, (.pointer (some x8))), (11, x11.enc), (17, x17.enc), (18, (.int .i64 x18)), (19, (.int .i64 x19))] ∧ F.xbf.l1 Q m x1 x4 x7 x8 x11 x17 x18 x19 h) ?_ ?_ m26 ⟨_, _, _, _, _, _, _, _, rfl, H⟩
 ·rintro L' h ⟨_, _, _, _, _, _, _, _, _, H⟩; exact H
 ·rintro q1 L' h ⟨x1, x4, x7, x8, x11, x17, x18, x19, rfl, H⟩;unfold F.xbf.l1 at H;refine tr_seq (tr_region (tq (y_lss rfl rfl) (tr_nil (tr_thenN (tr_seq ?_)))));refine tr_cond rfl (fun g9 => ?_) (fun g9 => ?_)
  ·replace H := H.1 g9;refine tr_skip (tr_thenN (tr_seq (tr_block (tr_seq (tr_region ?_)))));obtain ⟨a10, e11, H⟩ := H;refine tq (f_idx (s := x17) Tryz.runUnderlying81 Tryz.sizeOf64 rfl rfl e11) ?_;obtain ⟨y12, k13, H⟩ := H;refine tr_h (y_ld Tryz.isAgg64 rfl) k13 rfl rfl (tq (y_assign rfl) (tr_nil (tr_thenN (tr_region (tq (y_move rfl) (tq (y_move rfl) (tq (y_move rfl) ?_)))))));obtain ⟨y14, k15, H⟩ := H;refine tr_h (y_ldS Tryz.isAgg35 Tryz.sizeOf35 rfl rfl) k15 rfl rfl ?_;obtain ⟨y16, k17, H⟩ := H;refine tr_h (y_ldS Tryz.isAgg35 Tryz.sizeOf35 rfl rfl) k17 rfl rfl (tq (y_move rfl) (tr_e (e_call Tryz.call39 rfl (F.xaj_ok H)) rfl rfl ?_));rintro _ h18 ⟨r19, rfl, H⟩;refine tr_e (f_buildL (cs := #[r19.enc]) rfl rfl (bl_55_1_0 r19) H) rfl rfl ?_;rintro _ h20 ⟨s21, rfl, H⟩;refine tr_e (f_app rfl H) rfl rfl ?_;rintro _ h22 ⟨s23, rfl, H⟩;refine tq (y_assign rfl) (tr_nil (tr_blockN (tr_thenN (tr_region (tq (y_add rfl rfl) (tq (y_move rfl) (tr_nil (tr_thenN ?_))))))));exact tr_join [(1, (.int .i64 x1)), (4, (.int .i64 x4)), (7, (.pointer (some x7))), (8, (.pointer (some x8))), (11, s23.enc), (17, x17.enc), (18, (.int .i64 x18)), (19, (.int .i64 (IntKind.wrap .i64 (x19 + 1))))] ⟨rfl, rfl, rfl, rfl, rfl, rfl, rfl, rfl, trivial⟩ ⟨_, _, _, _, _, _, _, _, rfl, H⟩
  ·replace H := H.2 g9;refine tr_exit (tr_thenE (tr_thenE (tr_hit (tr_thenN (tr_seq (tr_region (tq (y_move rfl) (tq (y_move rfl) (tr_e (e_call Tryz.call22 rfl (F.xai_ok H)) rfl rfl ?_)))))))));rintro _ h24 ⟨r25, rfl, H⟩;refine tq (y_assign rfl) (tr_nil (tr_thenN (tr_ret ?_)));exact tr_ret1 rfl rfl ⟨_, rfl, H⟩
def F.xci (p0 : Option Addr) (p1 : Int) (h : H) (Q : Bool -> H -> Prop) : Prop :=
  ((decide (p1 >= 0)) = true ->
  nn p0 fun a2 =>
  ldL h (a2.add 0) fun y4 =>
  Q (decide (p1 < (y4.len : Int))) h) ∧
  ((decide (p1 >= 0)) = false ->
  Q false h)
theorem F.xci_ok {p0 : Option Addr} {p1 : Int} {h : H} {Q : Bool -> H -> Prop} (H : F.xci p0 p1 h Q) : Fn PP 51 ([(.pointer p0), (.int .i64 p1)] : List Value).toArray h fun r h' => ∃ r0, r = (.bool r0) ∧ Q r0 h' := by
 unfold F.xci at H;refine fn_of Tryz.func51 Tryz.ntmps51 rfl rfl fun w0 => (tr_sub [(0, (.pointer p0)), (1, (.int .i64 p1))] ⟨rfl, rfl, trivial⟩ (tr_seq (tr_region (tq (y_assign rfl) (tr_nil (tr_thenN (tr_seq (tr_region (tq (y_move rfl) (tq (y_geq rfl rfl) (tq (y_move rfl) ?_)))))))))));refine tr_split (t := 7) rfl (fun g1 => ?_) (fun g1 => ?_)
 ·replace H := H.1 g1;refine tq (y_move rfl) (tq (y_move rfl) ?_);obtain ⟨a2, e3, H⟩ := H;refine tq (f_nn rfl e3) (tq (y_fa (off := 0) Tryz.runUnderlying83 fo_83_0 rfl) ?_);obtain ⟨y4, k5, H⟩ := H;refine tr_h (y_ld Tryz.isAgg81 rfl) k5 rfl rfl (tq (y_len (ts := #[]) Tryz.runUnderlying81 (o := y4.ptr) (n := y4.len) (cap := y4.cap) rfl) (tq (y_lss rfl rfl) (tq (y_pick_t rfl rfl) (tq (y_assign rfl) (tr_nil (tr_thenN (tr_ret ?_)))))));exact tr_ret1 rfl rfl ⟨_, rfl, H⟩
 ·replace H := H.2 g1;refine ts (ts (ts (ts (ts (ts (ts (tq (y_pick_f rfl rfl) (tq (y_assign rfl) (tr_nil (tr_thenN (tr_ret ?_)))))))))));exact tr_ret1 rfl rfl ⟨_, rfl, H⟩
def F.xcn (p0 : Option Addr) (h : H) (Q : Int -> H -> Prop) : Prop :=
  nn p0 fun a1 =>
  ldI .i64 h (a1.add 0) fun y3 =>
  Q y3 h
theorem F.xcn_ok {p0 : Option Addr} {h : H} {Q : Int -> H -> Prop} (H : F.xcn p0 h Q) : Fn PP 31 ([(.pointer p0)] : List Value).toArray h fun r h' => ∃ r0, r = (.int .i64 r0) ∧ Q r0 h' := by
 unfold F.xcn at H;refine fn_of Tryz.func31 Tryz.ntmps31 rfl rfl fun w0 => (tr_sub [(0, (.pointer p0))] ⟨rfl, trivial⟩ (tr_seq (tr_region (tq (y_assign rfl) (tr_nil (tr_thenN (tr_seq (tr_region (tq (y_move rfl) ?_)))))))));obtain ⟨a1, e2, H⟩ := H;refine tq (f_nn rfl e2) (tq (y_fa (off := 0) Tryz.runUnderlying71 fo_71_0 rfl) ?_);obtain ⟨y3, k4, H⟩ := H;refine tr_h (y_ld Tryz.isAgg3 rfl) k4 rfl rfl (tq (y_assign rfl) (tr_nil (tr_thenN (tr_ret ?_))));exact tr_ret1 rfl rfl ⟨_, rfl, H⟩
def F.xcc (p0 : Option Addr) (p1 : Int) (h : H) (Q : Int -> H -> Prop) : Prop :=
  F.xci p0 p1 h fun r2 h1 =>
  ((!r2) = true ->
  Q 0 h1) ∧
  ((!r2) = false ->
  nn p0 fun a4 =>
  ldL h1 (a4.add 0) fun y6 =>
  idxA y6 p1 1 fun a8 =>
  ldP h1 a8 fun y10 =>
  nn y10 fun a12 =>
  F.xcn (some (a12.add 0)) h1 fun r15 h14 =>
  Q r15 h14)
theorem F.xcc_ok {p0 : Option Addr} {p1 : Int} {h : H} {Q : Int -> H -> Prop} (H : F.xcc p0 p1 h Q) : Fn PP 24 ([(.pointer p0), (.int .i64 p1)] : List Value).toArray h fun r h' => ∃ r0, r = (.int .i64 r0) ∧ Q r0 h' := by
 unfold F.xcc at H;refine fn_of Tryz.func24 Tryz.ntmps24 rfl rfl fun w0 => (tr_sub [(0, (.pointer p0)), (1, (.int .i64 p1))] ⟨rfl, rfl, trivial⟩ (tr_seq (tr_region (tq (y_assign rfl) (tr_nil (tr_thenN (tr_seq (tr_seq (tr_region (tq (y_move rfl) (tq (y_move rfl) (tr_e (e_call Tryz.call51 rfl (F.xci_ok H)) rfl rfl ?_))))))))))));rintro _ h1 ⟨r2, rfl, H⟩;refine tq (y_not rfl) (tr_nil (tr_thenN ?_));refine tr_cond rfl (fun g3 => ?_) (fun g3 => ?_)
 ·replace H := H.1 g3;refine tr_seq (tr_region (tq (y_assign rfl) (tr_nil (tr_thenN (tr_ret (tr_thenR ?_))))));exact tr_ret1 rfl rfl ⟨_, rfl, H⟩
 ·replace H := H.2 g3;refine tr_skip (tr_thenN (tr_seq (tr_region (tq (y_move rfl) ?_))));obtain ⟨a4, e5, H⟩ := H;refine tq (f_nn rfl e5) (tq (y_fa (off := 0) Tryz.runUnderlying83 fo_83_0 rfl) ?_);obtain ⟨y6, k7, H⟩ := H;refine tr_h (y_ld Tryz.isAgg81 rfl) k7 rfl rfl (tq (y_move rfl) ?_);obtain ⟨a8, e9, H⟩ := H;refine tq (f_idx (s := y6) Tryz.runUnderlying81 Tryz.sizeOf64 rfl rfl e9) ?_;obtain ⟨y10, k11, H⟩ := H;refine tr_h (y_ld Tryz.isAgg64 rfl) k11 rfl rfl ?_;obtain ⟨a12, e13, H⟩ := H;refine tq (f_nn rfl e13) (tq (y_fa (off := 0) Tryz.runUnderlying74 fo_74_0 rfl) (tr_e (e_call Tryz.call31 rfl (F.xcn_ok H)) rfl rfl ?_));rintro _ h14 ⟨r15, rfl, H⟩;refine tq (y_assign rfl) (tr_nil (tr_thenN (tr_ret ?_)));exact tr_ret1 rfl rfl ⟨_, rfl, H⟩
def F.xbc.j1 (Q : Bool -> H -> Prop) (x1 : Option Addr) (h : H) : Prop :=
  F.xbs 1 h fun r5 h4 =>
  F.xbz x1 1 (⟨(⟨0, (⟨#[97]⟩ : ByteArray), 0⟩ : S_api_Cell), r5⟩ : S_api_Row) h4 fun r7 h6 =>
  F.xbs 2 h6 fun r9 h8 =>
  F.xbz x1 1 (⟨(⟨0, (⟨#[98]⟩ : ByteArray), 0⟩ : S_api_Cell), r9⟩ : S_api_Row) h8 fun r11 h10 =>
  F.xbf x1 0 (⟨0, (⟨#[]⟩ : ByteArray), 0⟩ : S_api_Cell) (⟨1, (⟨#[]⟩ : ByteArray), 0⟩ : S_api_Cell) 9 h10 fun r13 h12 =>
  (((r7 == 0)) = true ->
  (((r11 == 0)) = true ->
  F.xce x1 (⟨#[97]⟩ : ByteArray) h12 fun r17 h16 =>
  (((r17 == 0)) = true ->
  F.xce x1 (⟨#[98]⟩ : ByteArray) h16 fun r20 h19 =>
  (((r20 == 1)) = true ->
  ((((r13.len : Int) == 2)) = true ->
  idxA r13 1 7 fun a23 =>
  ldI .i64 h19 ((a23.add 3).add 1) fun y25 =>
  (((y25 == 2)) = true ->
  F.xcc x1 1 h19 fun r29 h28 =>
  (((r29 == 2)) = true ->
  F.xcc x1 2 h28 fun r32 h31 =>
  Q ((r32 == 0)) h31) ∧
  (((r29 == 2)) = false ->
  Q false h28)) ∧
  (((y25 == 2)) = false ->
  Q false h19)) ∧
  ((((r13.len : Int) == 2)) = false ->
  Q false h19)) ∧
  (((r20 == 1)) = false ->
  Q false h19)) ∧
  (((r17 == 0)) = false ->
  Q false h16)) ∧
  (((r11 == 0)) = false ->
  Q false h12)) ∧
  (((r7 == 0)) = false ->
  Q false h12)
def F.xbc.j2 (Q : Bool -> H -> Prop) (x1 : Option Addr) (x15 : Bool) (h : H) : Prop :=
  (x15 = true ->
  Q false h) ∧
  (x15 = false ->
  F.xbc.j1 Q x1 h)
def F.xbc  (h : H) (Q : Bool -> H -> Prop) : Prop :=
  F.xak 2 9 h fun r2 r3 h1 =>
  (((r3 != 0)) = true ->
  F.xbc.j2 Q r2 true h1) ∧
  (((r3 != 0)) = false ->
  F.xbc.j2 Q r2 r2.isNone h1)
theorem F.xbc_ok  {h : H} {Q : Bool -> H -> Prop} (H : F.xbc  h Q) : Fn PP 12 ([] : List Value).toArray h fun r h' => ∃ r0, r = (.bool r0) ∧ Q r0 h' := by
 unfold F.xbc at H;refine fn_of Tryz.func12 Tryz.ntmps12 rfl rfl fun w0 => (tr_sub [] trivial (tr_seq (tr_region (tq (y_assign rfl) (tr_nil (tr_thenN (tr_seq (tr_region (tr_e (e_call Tryz.call8 rfl (F.xak_ok H)) rfl rfl ?_)))))))));rintro _ h1 ⟨r2, r3, rfl, H⟩;refine tq (y_move rfl) (tq (y_ext rfl rfl) (tq (y_ext rfl rfl) (tq (y_assign rfl) (tq (y_assign rfl) (tr_nil (tr_thenN ?_))))));refine tr_seq_j (fun L' h => ∃ (x1 : Option Addr), L' = [(1, (.pointer x1))] ∧ F.xbc.j1 Q x1 h) ?_ ?_
 ·rintro L' h ⟨x1, rfl, H⟩;unfold F.xbc.j1 at H;refine tr_seq (tr_region (tq (y_move rfl) (tq (f_build rfl (bd_35_1 (⟨#[97]⟩ : ByteArray))) (tr_e (e_call Tryz.call16 rfl (F.xbs_ok H)) rfl rfl ?_))));rintro _ h4 ⟨r5, rfl, H⟩;refine tq (f_build rfl (bd_49_0_1 (⟨0, (⟨#[97]⟩ : ByteArray), 0⟩ : S_api_Cell) r5)) (tr_e (e_call Tryz.call14 rfl (F.xbz_ok H)) rfl rfl ?_);rintro _ h6 ⟨r7, rfl, H⟩;refine tq (y_assign rfl) (tr_nil (tr_thenN (tr_seq (tr_region (tq (y_move rfl) (tq (f_build rfl (bd_35_1 (⟨#[98]⟩ : ByteArray))) (tr_e (e_call Tryz.call16 rfl (F.xbs_ok H)) rfl rfl ?_)))))));rintro _ h8 ⟨r9, rfl, H⟩;refine tq (f_build rfl (bd_49_0_1 (⟨0, (⟨#[98]⟩ : ByteArray), 0⟩ : S_api_Cell) r9)) (tr_e (e_call Tryz.call14 rfl (F.xbz_ok H)) rfl rfl ?_);rintro _ h10 ⟨r11, rfl, H⟩;refine tq (y_assign rfl) (tr_nil (tr_thenN (tr_seq (tr_region (tq (y_move rfl) (tq (f_build rfl (bd_35_ )) (tq (f_build rfl (bd_35_0 1)) (tr_e (e_call Tryz.call18 rfl (F.xbf_ok H)) rfl rfl ?_))))))));rintro _ h12 ⟨r13, rfl, H⟩;refine tq (y_assign rfl) (tr_nil (tr_thenN (tr_seq (tr_region (tq (y_move rfl) (tq (y_eql rfl rfl) (tq (y_move rfl) ?_)))))));refine tr_split (t := 32) rfl (fun g14 => ?_) (fun g14 => ?_)
  ·replace H := H.1 g14;refine tq (y_move rfl) (tq (y_eql rfl rfl) (tq (y_pick_t rfl rfl) (tq (y_move rfl) ?_)));refine tr_split (t := 36) rfl (fun g15 => ?_) (fun g15 => ?_)
   ·replace H := H.1 g15;refine tq (y_move rfl) (tr_e (e_call Tryz.call10 rfl (F.xce_ok H)) rfl rfl ?_);rintro _ h16 ⟨r17, rfl, H⟩;refine tq (y_eql rfl rfl) (tq (y_pick_t rfl rfl) (tq (y_move rfl) ?_));refine tr_split (t := 41) rfl (fun g18 => ?_) (fun g18 => ?_)
    ·replace H := H.1 g18;refine tq (y_move rfl) (tr_e (e_call Tryz.call10 rfl (F.xce_ok H)) rfl rfl ?_);rintro _ h19 ⟨r20, rfl, H⟩;refine tq (y_eql rfl rfl) (tq (y_pick_t rfl rfl) (tq (y_move rfl) ?_));refine tr_split (t := 46) rfl (fun g21 => ?_) (fun g21 => ?_)
     ·replace H := H.1 g21;refine tq (y_move rfl) (tq (y_len (ts := #[]) Tryz.runUnderlying51 (o := r13.ptr) (n := r13.len) (cap := r13.cap) rfl) (tq (y_eql rfl rfl) (tq (y_pick_t rfl rfl) (tq (y_move rfl) ?_))));refine tr_split (t := 51) rfl (fun g22 => ?_) (fun g22 => ?_)
      ·replace H := H.1 g22;refine tq (y_move rfl) ?_;obtain ⟨a23, e24, H⟩ := H;refine tq (f_idx (s := r13) Tryz.runUnderlying51 Tryz.sizeOf49 rfl rfl e24) (tq (y_fa (off := 3) Tryz.runUnderlying49 fo_49_1 rfl) (tq (y_fa (off := 1) Tryz.runUnderlying40 fo_40_1 rfl) ?_));obtain ⟨y25, k26, H⟩ := H;refine tr_h (y_ld Tryz.isAgg2 rfl) k26 rfl rfl (tq (y_eql rfl rfl) (tq (y_pick_t rfl rfl) (tq (y_move rfl) ?_)));refine tr_split (t := 59) rfl (fun g27 => ?_) (fun g27 => ?_)
       ·replace H := H.1 g27;refine tq (y_move rfl) (tr_e (e_call Tryz.call24 rfl (F.xcc_ok H)) rfl rfl ?_);rintro _ h28 ⟨r29, rfl, H⟩;refine tq (y_eql rfl rfl) (tq (y_pick_t rfl rfl) (tq (y_move rfl) ?_));refine tr_split (t := 64) rfl (fun g30 => ?_) (fun g30 => ?_)
        ·replace H := H.1 g30;refine tq (y_move rfl) (tr_e (e_call Tryz.call24 rfl (F.xcc_ok H)) rfl rfl ?_);rintro _ h31 ⟨r32, rfl, H⟩;refine tq (y_eql rfl rfl) (tq (y_pick_t rfl rfl) (tq (y_assign rfl) (tr_nil (tr_thenN (tr_ret ?_)))));exact tr_ret1 rfl rfl ⟨_, rfl, H⟩
        ·replace H := H.2 g30;refine ts (ts (ts (tq (y_pick_f rfl rfl) (tq (y_assign rfl) (tr_nil (tr_thenN (tr_ret ?_)))))));exact tr_ret1 rfl rfl ⟨_, rfl, H⟩
       ·replace H := H.2 g27;refine ts (ts (ts (tq (y_pick_f rfl rfl) (tq (y_move rfl) (ts (ts (ts (tq (y_pick_f rfl rfl) (tq (y_assign rfl) (tr_nil (tr_thenN (tr_ret ?_))))))))))));exact tr_ret1 rfl rfl ⟨_, rfl, H⟩
      ·replace H := H.2 g22;refine ts (ts (ts (ts (ts (ts (tq (y_pick_f rfl rfl) (tq (y_move rfl) (ts (ts (ts (tq (y_pick_f rfl rfl) (tq (y_move rfl) (ts ?_)))))))))))));refine ts (ts (tq (y_pick_f rfl rfl) (tq (y_assign rfl) (tr_nil (tr_thenN (tr_ret ?_))))));exact tr_ret1 rfl rfl ⟨_, rfl, H⟩
     ·replace H := H.2 g21;refine ts (ts (ts (tq (y_pick_f rfl rfl) (tq (y_move rfl) (ts (ts (ts (ts (ts (ts (tq (y_pick_f rfl rfl) (tq (y_move rfl) (ts ?_)))))))))))));refine ts (ts (tq (y_pick_f rfl rfl) (tq (y_move rfl) (ts (ts (ts (tq (y_pick_f rfl rfl) (tq (y_assign rfl) (tr_nil (tr_thenN (tr_ret ?_)))))))))));exact tr_ret1 rfl rfl ⟨_, rfl, H⟩
    ·replace H := H.2 g18;refine ts (ts (ts (tq (y_pick_f rfl rfl) (tq (y_move rfl) (ts (ts (ts (tq (y_pick_f rfl rfl) (tq (y_move rfl) (ts (ts (ts (ts ?_)))))))))))));refine ts (ts (tq (y_pick_f rfl rfl) (tq (y_move rfl) (ts (ts (ts (tq (y_pick_f rfl rfl) (tq (y_move rfl) (ts (ts (ts (tq (y_pick_f rfl rfl) (tq (y_assign rfl) ?_)))))))))))));refine tr_nil (tr_thenN (tr_ret ?_));exact tr_ret1 rfl rfl ⟨_, rfl, H⟩
   ·replace H := H.2 g15;refine ts (ts (ts (tq (y_pick_f rfl rfl) (tq (y_move rfl) (ts (ts (ts (tq (y_pick_f rfl rfl) (tq (y_move rfl) (ts (ts (ts (tq (y_pick_f rfl rfl) ?_)))))))))))));refine tq (y_move rfl) (ts (ts (ts (ts (ts (ts (tq (y_pick_f rfl rfl) (tq (y_move rfl) (ts (ts (ts (tq (y_pick_f rfl rfl) (tq (y_move rfl) ?_)))))))))))));refine ts (ts (ts (tq (y_pick_f rfl rfl) (tq (y_assign rfl) (tr_nil (tr_thenN (tr_ret ?_)))))));exact tr_ret1 rfl rfl ⟨_, rfl, H⟩
  ·replace H := H.2 g14;refine ts (ts (tq (y_pick_f rfl rfl) (tq (y_move rfl) (ts (ts (ts (tq (y_pick_f rfl rfl) (tq (y_move rfl) (ts (ts (ts (tq (y_pick_f rfl rfl) (tq (y_move rfl) ?_)))))))))))));refine ts (ts (ts (tq (y_pick_f rfl rfl) (tq (y_move rfl) (ts (ts (ts (ts (ts (ts (tq (y_pick_f rfl rfl) (tq (y_move rfl) (ts ?_)))))))))))));refine ts (ts (tq (y_pick_f rfl rfl) (tq (y_move rfl) (ts (ts (ts (tq (y_pick_f rfl rfl) (tq (y_assign rfl) (tr_nil (tr_thenN (tr_ret ?_)))))))))));exact tr_ret1 rfl rfl ⟨_, rfl, H⟩
 ·refine tr_seq_j (fun L' h => ∃ (x1 : Option Addr) (x15 : Bool), L' = [(1, (.pointer x1)), (15, (.bool x15))] ∧ F.xbc.j2 Q x1 x15 h) ?_ ?_
  ·rintro L' h ⟨x1, x15, rfl, H⟩;unfold F.xbc.j2 at H;refine tr_cond rfl (fun g33 => ?_) (fun g33 => ?_)
   ·replace H := H.1 g33;refine tr_seq (tr_region (tq (y_assign rfl) (tr_nil (tr_thenN (tr_ret (tr_thenR ?_))))));exact tr_ret1 rfl rfl ⟨_, rfl, H⟩
   ·replace H := H.2 g33;refine tr_skip (tr_thenN ?_);exact tr_join [(1, (.pointer x1))] ⟨rfl, trivial⟩ ⟨_, rfl, H⟩
  ·refine tr_region (tq (y_move rfl) (tq (y_neq rfl rfl) (tq (y_move rfl) ?_)));refine tr_split (t := 12) rfl (fun g34 => ?_) (fun g34 => ?_)
   ·replace H := H.1 g34;refine ts (ts (tq (y_pick_t rfl rfl) (tr_nil (tr_thenN ?_))));exact tr_join [(1, (.pointer r2)), (15, (.bool true))] ⟨rfl, rfl, trivial⟩ ⟨_, _, rfl, H⟩
   ·replace H := H.2 g34;refine tq (y_move rfl) (tq (y_pnil_eql Tryz.runUnderlying23 rfl rfl) (tq (y_pick_f rfl rfl) (tr_nil (tr_thenN ?_))));exact tr_join [(1, (.pointer r2)), (15, (.bool r2.isNone))] ⟨rfl, rfl, trivial⟩ ⟨_, _, rfl, H⟩
def F.xax.j1 (Q : Int -> H -> Prop) (x5 : Int) (h : H) : Prop :=
  Q x5 h
def F.xax (p0 : Int) (p1 : Int) (h : H) (Q : Int -> H -> Prop) : Prop :=
  (p1 : Int) ≠ 0 ∧
  ((decide ((Int.tmod p0 p1) < 0)) = true ->
  F.xax.j1 Q (IntKind.wrap .i64 ((Int.tmod p0 p1) + p1)) h) ∧
  ((decide ((Int.tmod p0 p1) < 0)) = false ->
  F.xax.j1 Q (Int.tmod p0 p1) h)
theorem F.xax_ok {p0 : Int} {p1 : Int} {h : H} {Q : Int -> H -> Prop} (H : F.xax p0 p1 h Q) : Fn PP 13 ([(.int .i64 p0), (.int .i64 p1)] : List Value).toArray h fun r h' => ∃ r0, r = (.int .i64 r0) ∧ Q r0 h' := by
 unfold F.xax at H;refine fn_of Tryz.func13 Tryz.ntmps13 rfl rfl fun w0 => (tr_sub [(0, (.int .i64 p0)), (1, (.int .i64 p1))] ⟨rfl, rfl, trivial⟩ (tr_seq (tr_region (tq (y_assign rfl) (tr_nil (tr_thenN (tr_seq (tr_region (tq (y_move rfl) (tq (y_move rfl) ?_))))))))));obtain ⟨e1, H⟩ := H;refine tq (y_rem rfl rfl e1) (tq (y_assign rfl) (tr_nil (tr_thenN ?_)));refine tr_seq_j (fun L' h => ∃ (x5 : Int), L' = [(5, (.int .i64 x5))] ∧ F.xax.j1 Q x5 h) ?_ ?_
 ·rintro L' h ⟨x5, rfl, H⟩;unfold F.xax.j1 at H;refine tr_seq (tr_region (tq (y_move rfl) (tq (y_assign rfl) (tr_nil (tr_thenN (tr_ret ?_))))));exact tr_ret1 rfl rfl ⟨_, rfl, H⟩
 ·refine tr_seq (tr_region (tq (y_move rfl) (tq (y_lss rfl rfl) (tr_nil (tr_thenN ?_)))));refine tr_cond rfl (fun g2 => ?_) (fun g2 => ?_)
  ·replace H := H.1 g2;refine tr_region (tq (y_move rfl) (tq (y_move rfl) (tq (y_add rfl rfl) (tq (y_assign rfl) (tr_nil (tr_thenN ?_))))));exact tr_join [(5, (.int .i64 (IntKind.wrap .i64 ((Int.tmod p0 p1) + p1))))] ⟨rfl, trivial⟩ ⟨_, rfl, H⟩
  ·replace H := H.2 g2;refine tr_skip (tr_thenN ?_);exact tr_join [(5, (.int .i64 (Int.tmod p0 p1)))] ⟨rfl, trivial⟩ ⟨_, rfl, H⟩
def F.xbh.j1 (Q : S_api_Cell -> H -> Prop) (x1 : Addr) (x2 : Addr) (x3 : ByteArray) (h : H) : Prop :=
  ldI .i64 h (x1.add 0) fun y5 =>
  ldI .i64 h (x1.add 2) fun y7 =>
  (3 : Int) ≠ 0 ∧
  F.xax y5 2 h fun r11 h10 =>
  cellH h10 (x1.add 2) = some (.int .i64 y7) ∧
  stH h10 x2 ((⟨r11, x3, (Int.tmod y7 3)⟩ : S_api_Cell).cells) fun h13 =>
  ld_S_api_Cell h13 x2 fun y14 =>
  Q y14 h13
def F.xbh (p0 : S_api_Cell) (h : H) (Q : S_api_Cell -> H -> Prop) : Prop :=
  new h p0.cells.toArray ty_35 fun a2 h1 =>
  new h1 (((⟨0, (⟨#[]⟩ : ByteArray), 0⟩ : S_api_Cell) : S_api_Cell).cells.toArray) ty_35 fun a4 h3 =>
  ldS h3 (a2.add 1) fun y16 =>
  ((decide ((y16.size : Int) > 0)) = true ->
  ldS h3 (a2.add 1) fun y19 =>
  idxS y19 0 fun b21 =>
  (9 : Int) ≠ 0 ∧
  ldS h3 (a2.add 1) fun y24 =>
  (3 : Int) ≠ 0 ∧
  newL h3 #[(.int .u8 (IntKind.wrap .u8 (97 + (Int.tmod b21 9)))), (.int .u8 (IntKind.wrap .u8 (97 + (IntKind.wrap .u8 (Int.tmod (y24.size : Int) 3)))))] ty_5 2 fun s28 h27 =>
  runT PP (convert 93 9 s28.enc) h27 fun s30 h29 =>
  F.xbh.j1 Q a2 a4 s30 h29) ∧
  ((decide ((y16.size : Int) > 0)) = false ->
  F.xbh.j1 Q a2 a4 (⟨#[107]⟩ : ByteArray) h3)
theorem F.xbh_ok {p0 : S_api_Cell} {h : H} {Q : S_api_Cell -> H -> Prop} (H : F.xbh p0 h Q) : Fn PP 15 ([(.agg p0.cells.toArray)] : List Value).toArray h fun r h' => ∃ r0, r = (.agg r0.cells.toArray) ∧ Q r0 h' := by
 unfold F.xbh at H;refine fn_of Tryz.func15 Tryz.ntmps15 rfl rfl fun w0 => (tr_sub [(0, (.agg p0.cells.toArray))] ⟨rfl, trivial⟩ (tr_seq (tr_region (tr_e (f_box (cs := p0.cells.toArray) rfl rfl H) rfl rfl ?_))));rintro _ h1 ⟨a2, rfl, H⟩;refine tr_e (f_alloc (cs := ((⟨0, (⟨#[]⟩ : ByteArray), 0⟩ : S_api_Cell) : S_api_Cell).cells.toArray) Tryz.zeroValue35 rfl H) rfl rfl ?_;rintro _ h3 ⟨a4, rfl, H⟩;refine tr_nil (tr_thenN (tr_seq (tr_region (tq (y_assign rfl) (tr_nil (tr_thenN ?_))))));refine tr_seq_j (fun L' h => ∃ (x1 : Addr) (x2 : Addr) (x3 : ByteArray), L' = [(1, (.pointer (some x1))), (2, (.pointer (some x2))), (3, (.string x3))] ∧ F.xbh.j1 Q x1 x2 x3 h) ?_ ?_
 ·rintro L' h ⟨x1, x2, x3, rfl, H⟩;unfold F.xbh.j1 at H;refine tr_seq (tr_draw mixed [0, 1, 3, 0, 0, 16, 48, 127, 255] (by kernel_rfl) (g_p 0 1 rfl (by kernel_rfl) (y_fa (off := 0) Tryz.runUnderlying35 fo_35_0 rfl) rfl rfl ?_));obtain ⟨y5, k6, H⟩ := H;refine g_h 1 3 rfl (by kernel_rfl) (y_ld Tryz.isAgg3 rfl) k6 rfl rfl (g_p 3 11 rfl (by kernel_rfl) (y_move rfl) rfl rfl (g_p 4 27 rfl (by kernel_rfl) (y_fa (off := 2) Tryz.runUnderlying35 fo_35_2 rfl) rfl rfl ?_));obtain ⟨y7, k8, H⟩ := H;refine g_h 5 59 rfl (by kernel_rfl) (y_ld Tryz.isAgg2 rfl) k8 rfl rfl ?_;obtain ⟨e9, H⟩ := H;refine g_p 6 123 rfl (by kernel_rfl) (y_rem rfl rfl e9) rfl rfl (g_e 2 127 [(5, fun h => cellH h (x1.add 2) = some (.int .i64 y7))] (by kernel_rfl) rfl (by kernel_rfl) (e_call Tryz.call13 rfl (F.xax_ok H)) rfl rfl ?_);rintro _ h10 ⟨r11, rfl, H⟩;obtain ⟨k12, H⟩ := H;refine ⟨And.intro k12 trivial, ?_⟩;refine g_p 7 255 rfl (by kernel_rfl) (f_build rfl (bd_35_0_1_2 r11 x3 (Int.tmod y7 3))) rfl rfl (g_e 8 511 [] (by kernel_rfl) rfl (by kernel_rfl) (f_store (vs := (⟨r11, x3, (Int.tmod y7 3)⟩ : S_api_Cell).cells) Tryz.sizeOf35 rfl rfl cellsOfStruct rfl (by intro v hv; exact ones_S_api_Cell _ v hv) H) rfl rfl ?_);rintro _ h13 ⟨rfl, H⟩;refine ⟨trivial, ?_⟩;refine g_d (by kernel_rfl) (tr_thenN (tr_ret ?_));obtain ⟨y14, k15, H⟩ := H;exact tr_rv1 rfl (rv_cellS Tryz.isAgg35 Tryz.sizeOf35 rfl rfl k15) ⟨_, rfl, H⟩
 ·refine tr_seq (tr_region (tq (y_fa (off := 1) Tryz.runUnderlying35 fo_35_1 rfl) ?_));obtain ⟨y16, k17, H⟩ := H;refine tr_h (y_ld Tryz.isAgg9 rfl) k17 rfl rfl (tq (y_lenS Tryz.runUnderlying9 rfl) (tq (y_gtr rfl rfl) (tr_nil (tr_thenN ?_))));refine tr_cond rfl (fun g18 => ?_) (fun g18 => ?_)
  ·replace H := H.1 g18;refine tr_draw mixed [0, 1, 3, 7, 15, 0, 32, 96, 224, 480, 992, 2047, 4095, 8191] (by kernel_rfl) (g_p 0 1 rfl (by kernel_rfl) (y_fa (off := 1) Tryz.runUnderlying35 fo_35_1 rfl) rfl rfl ?_);obtain ⟨y19, k20, H⟩ := H;refine g_h 1 3 rfl (by kernel_rfl) (y_ld Tryz.isAgg9 rfl) k20 rfl rfl ?_;obtain ⟨b21, e22, H⟩ := H;refine g_p 2 7 rfl (by kernel_rfl) (f_idxS Tryz.runUnderlying9 rfl rfl e22) rfl rfl ?_;obtain ⟨e23, H⟩ := H;refine g_p 3 15 rfl (by kernel_rfl) (y_rem rfl rfl e23) rfl rfl (g_p 4 31 rfl (by kernel_rfl) (y_add rfl rfl) rfl rfl (g_p 5 63 rfl (by kernel_rfl) (y_fa (off := 1) Tryz.runUnderlying35 fo_35_1 rfl) rfl rfl ?_));obtain ⟨y24, k25, H⟩ := H;refine g_h 6 127 rfl (by kernel_rfl) (y_ld Tryz.isAgg9 rfl) k25 rfl rfl (g_p 7 255 rfl (by kernel_rfl) (y_lenS Tryz.runUnderlying9 rfl) rfl rfl ?_);obtain ⟨e26, H⟩ := H;refine g_p 8 511 rfl (by kernel_rfl) (y_rem rfl rfl e26) rfl rfl (g_p 9 1023 rfl (by kernel_rfl) (y_cvt Tryz.runUnderlying3 Tryz.runUnderlying5 rfl) rfl rfl (g_p 10 2047 rfl (by kernel_rfl) (y_add rfl rfl) rfl rfl (g_e 11 4095 [] (by kernel_rfl) rfl (by kernel_rfl) (f_buildL (cs := #[(.int .u8 (IntKind.wrap .u8 (97 + (Int.tmod b21 9)))), (.int .u8 (IntKind.wrap .u8 (97 + (IntKind.wrap .u8 (Int.tmod (y24.size : Int) 3)))))]) rfl rfl (bl_93_2_0_1 (IntKind.wrap .u8 (97 + (Int.tmod b21 9))) (IntKind.wrap .u8 (97 + (IntKind.wrap .u8 (Int.tmod (y24.size : Int) 3))))) H) rfl rfl ?_)));rintro _ h27 ⟨s28, rfl, H⟩;refine ⟨trivial, ?_⟩;refine g_e 12 8191 [] (by kernel_rfl) rfl (by kernel_rfl) (f_cvtT rfl H) rfl rfl ?_;rintro _ h29 ⟨s30, rfl, H⟩;refine ⟨trivial, ?_⟩;refine g_p 13 16383 rfl (by kernel_rfl) (y_assign rfl) rfl rfl (g_d (by kernel_rfl) (tr_thenN ?_));exact tr_join [(1, (.pointer (some a2))), (2, (.pointer (some a4))), (3, (.string s30))] ⟨rfl, rfl, rfl, trivial⟩ ⟨_, _, _, rfl, H⟩
  ·replace H := H.2 g18;refine tr_skip (tr_thenN ?_);exact tr_join [(1, (.pointer (some a2))), (2, (.pointer (some a4))), (3, (.string (⟨#[107]⟩ : ByteArray)))] ⟨rfl, rfl, rfl, trivial⟩ ⟨_, _, _, rfl, H⟩
def F.xbo.l1 (Q : Bool -> H -> Prop) : Nat -> Sl -> Sl -> Int -> H -> Prop
  | 0, _, _, _, _ => False
  | q1 + 1, x0, x1, x5, h =>
    ((decide (x5 < (x0.len : Int))) = true ->
    idxA x0 x5 7 fun a3 =>
    ld_S_api_Row h a3 fun y5 =>
    idxA x1 x5 7 fun a7 =>
    ld_S_api_Row h a7 fun y9 =>
    ((!((((y5.Cell.View == y9.Cell.View) && ((y5.Cell.Key.toList == y9.Cell.Key.toList) && ((y5.Cell.Start == y9.Cell.Start) && true)))) && ((((y5.Agg.Count == y9.Agg.Count) && ((y5.Agg.Sum == y9.Agg.Sum) && ((y5.Agg.Min == y9.Agg.Min) && ((y5.Agg.Max == y9.Agg.Max) && true))))) && true))) = true ->
    Q false h) ∧
    ((!((((y5.Cell.View == y9.Cell.View) && ((y5.Cell.Key.toList == y9.Cell.Key.toList) && ((y5.Cell.Start == y9.Cell.Start) && true)))) && ((((y5.Agg.Count == y9.Agg.Count) && ((y5.Agg.Sum == y9.Agg.Sum) && ((y5.Agg.Min == y9.Agg.Min) && ((y5.Agg.Max == y9.Agg.Max) && true))))) && true))) = false ->
    (F.xbo.l1 Q q1) x0 x1 (IntKind.wrap .i64 (x5 + 1)) h)) ∧
    ((decide (x5 < (x0.len : Int))) = false ->
    Q true h)
def F.xbo (p0 : Sl) (p1 : Sl) (h : H) (Q : Bool -> H -> Prop) : Prop :=
  ((((p0.len : Int) != (p1.len : Int))) = true ->
  Q false h) ∧
  ((((p0.len : Int) != (p1.len : Int))) = false ->
  ∃ m, F.xbo.l1 Q m p0 p1 0 h)
theorem F.xbo_ok {p0 : Sl} {p1 : Sl} {h : H} {Q : Bool -> H -> Prop} (H : F.xbo p0 p1 h Q) : Fn PP 19 ([p0.enc, p1.enc] : List Value).toArray h fun r h' => ∃ r0, r = (.bool r0) ∧ Q r0 h' := by
 unfold F.xbo at H;refine fn_of Tryz.func19 Tryz.ntmps19 rfl rfl fun w0 => (tr_sub [(0, p0.enc), (1, p1.enc)] ⟨rfl, rfl, trivial⟩ (tr_seq (tr_region (tq (y_assign rfl) (tr_nil (tr_thenN (tr_seq (tr_seq (tr_region (tq (y_move rfl) (tq (y_len (ts := #[]) Tryz.runUnderlying51 (o := p0.ptr) (n := p0.len) (cap := p0.cap) rfl) (tq (y_move rfl) (tq (y_len (ts := #[]) Tryz.runUnderlying51 (o := p1.ptr) (n := p1.len) (cap := p1.cap) rfl) ?_)))))))))))));refine tq (y_neq rfl rfl) (tr_nil (tr_thenN ?_));refine tr_cond rfl (fun g1 => ?_) (fun g1 => ?_)
 ·replace H := H.1 g1;refine tr_seq (tr_region (tq (y_assign rfl) (tr_nil (tr_thenN (tr_ret (tr_thenR ?_))))));exact tr_ret1 rfl rfl ⟨_, rfl, H⟩
 ·replace H := H.2 g1;refine tr_skip (tr_thenN (tr_seq (tr_seq (tr_region (tq (y_assign rfl) (tr_nil (tr_thenN (tr_block ?_))))))));obtain ⟨m12, H⟩ := H;refine tr_sub [(0, p0.enc), (1, p1.enc), (5, (.int .i64 0))] ⟨rfl, rfl, rfl, trivial⟩ ?_;refine tr_loop_j (fun m L' h => ∃ (x0 : Sl) (x1 : Sl) (x5 : Int), L' = [(0, x0.enc), (1, x1.enc), (5, (.int .i64 x5))] ∧ F.xbo.l1 Q m x0 x1 x5 h) ?_ ?_ m12 ⟨_, _, _, rfl, H⟩
  ·rintro L' h ⟨_, _, _, _, H⟩; exact H
  ·rintro q1 L' h ⟨x0, x1, x5, rfl, H⟩;unfold F.xbo.l1 at H;refine tr_seq (tr_seq (tr_region (tq (y_move rfl) (tq (y_move rfl) (tq (y_len (ts := #[]) Tryz.runUnderlying51 (o := x0.ptr) (n := x0.len) (cap := x0.cap) rfl) (tq (y_lss rfl rfl) (tr_nil (tr_thenN ?_))))))));refine tr_cond rfl (fun g2 => ?_) (fun g2 => ?_)
   ·replace H := H.1 g2;refine tr_skip (tr_thenN (tr_seq (tr_block (tr_seq (tr_draw mixed [0, 0, 3, 7, 0, 0, 48, 112, 255] (by kernel_rfl) (g_p 0 1 rfl (by kernel_rfl) (y_move rfl) rfl rfl (g_p 1 3 rfl (by kernel_rfl) (y_move rfl) rfl rfl ?_)))))));obtain ⟨a3, e4, H⟩ := H;refine g_p 2 7 rfl (by kernel_rfl) (f_idx (s := x0) Tryz.runUnderlying51 Tryz.sizeOf49 rfl rfl e4) rfl rfl ?_;obtain ⟨y5, k6, H⟩ := H;refine g_h 3 15 rfl (by kernel_rfl) (y_ldS Tryz.isAgg49 Tryz.sizeOf49 rfl rfl) k6 rfl rfl (g_p 4 31 rfl (by kernel_rfl) (y_move rfl) rfl rfl (g_p 5 63 rfl (by kernel_rfl) (y_move rfl) rfl rfl ?_));obtain ⟨a7, e8, H⟩ := H;refine g_p 6 127 rfl (by kernel_rfl) (f_idx (s := x1) Tryz.runUnderlying51 Tryz.sizeOf49 rfl rfl e8) rfl rfl ?_;obtain ⟨y9, k10, H⟩ := H;refine g_h 7 255 rfl (by kernel_rfl) (y_ldS Tryz.isAgg49 Tryz.sizeOf49 rfl rfl) k10 rfl rfl (g_p 8 511 rfl (by kernel_rfl) (st_neq (b := ((((y5.Cell.View == y9.Cell.View) && ((y5.Cell.Key.toList == y9.Cell.Key.toList) && ((y5.Cell.Start == y9.Cell.Start) && true)))) && ((((y5.Agg.Count == y9.Agg.Count) && ((y5.Agg.Sum == y9.Agg.Sum) && ((y5.Agg.Min == y9.Agg.Min) && ((y5.Agg.Max == y9.Agg.Max) && true))))) && true))) eqg_49 (fun w => eqst_49 y5 y9 9997 w) rfl rfl) rfl rfl (g_d (by kernel_rfl) (tr_thenN ?_)));refine tr_cond rfl (fun g11 => ?_) (fun g11 => ?_)
    ·replace H := H.1 g11;refine tr_seq (tr_region (tq (y_assign rfl) (tr_nil (tr_thenN (tr_ret (tr_blockR (tr_thenR (tr_thenR (tr_blockR (tr_thenR ?_))))))))));exact tr_ret1 rfl rfl ⟨_, rfl, H⟩
    ·replace H := H.2 g11;refine tr_skip (tr_blockN (tr_thenN (tr_region (tq (y_move rfl) (tq (y_add rfl rfl) (tq (y_assign rfl) (tr_nil (tr_thenN ?_))))))));exact tr_join [(0, x0.enc), (1, x1.enc), (5, (.int .i64 (IntKind.wrap .i64 (x5 + 1))))] ⟨rfl, rfl, rfl, trivial⟩ ⟨_, _, _, rfl, H⟩
   ·replace H := H.2 g2;refine tr_exit (tr_thenE (tr_thenE (tr_hit (tr_thenN (tr_seq (tr_region (tq (y_assign rfl) (tr_nil (tr_thenN (tr_ret ?_))))))))));exact tr_ret1 rfl rfl ⟨_, rfl, H⟩
def F.xcb (p0 : Option Addr) (p1 : S_api_Cell) (p2 : Int) (h : H) (Q : S_api_Agg -> H -> Prop) : Prop :=
  new h p1.cells.toArray ty_35 fun a2 h1 =>
  new h1 (((⟨0, 0, 0, 0⟩ : S_api_Agg) : S_api_Agg).cells.toArray) ty_40 fun a4 h3 =>
  ld_S_api_Cell h3 a2 fun y5 =>
  F.xby p0 y5 h3 fun r8 h7 =>
  F.xbx r8 p2 h7 fun r10 r11 h9 =>
  new h9 (((⟨0, 0, 0, 0⟩ : S_api_Agg) : S_api_Agg).cells.toArray) ty_40 fun a13 h12 =>
  stH h12 a13 r10.cells fun h14 =>
  ld_S_api_Agg h14 a13 fun y15 =>
  stH h14 a4 y15.cells fun h17 =>
  ld_S_api_Agg h17 a4 fun y18 =>
  Q y18 h17
theorem F.xcb_ok {p0 : Option Addr} {p1 : S_api_Cell} {p2 : Int} {h : H} {Q : S_api_Agg -> H -> Prop} (H : F.xcb p0 p1 p2 h Q) : Fn PP 38 ([(.pointer p0), (.agg p1.cells.toArray), (.int .i64 p2)] : List Value).toArray h fun r h' => ∃ r0, r = (.agg r0.cells.toArray) ∧ Q r0 h' := by
 unfold F.xcb at H;refine fn_of Tryz.func38 Tryz.ntmps38 rfl rfl fun w0 => (tr_sub [(0, (.pointer p0)), (1, (.agg p1.cells.toArray)), (2, (.int .i64 p2))] ⟨rfl, rfl, rfl, trivial⟩ (tr_seq (tr_region (tr_e (f_box (cs := p1.cells.toArray) rfl rfl H) rfl rfl ?_))));rintro _ h1 ⟨a2, rfl, H⟩;refine tr_e (f_alloc (cs := ((⟨0, 0, 0, 0⟩ : S_api_Agg) : S_api_Agg).cells.toArray) Tryz.zeroValue40 rfl H) rfl rfl ?_;rintro _ h3 ⟨a4, rfl, H⟩;refine tr_nil (tr_thenN (tr_seq (tr_region (tq (y_move rfl) ?_))));obtain ⟨y5, k6, H⟩ := H;refine tr_h (y_ldS Tryz.isAgg35 Tryz.sizeOf35 rfl rfl) k6 rfl rfl (tr_e (e_call Tryz.call57 rfl (F.xby_ok H)) rfl rfl ?_);rintro _ h7 ⟨r8, rfl, H⟩;refine tq (y_move rfl) (tr_e (e_call Tryz.call71 rfl (F.xbx_ok H)) rfl rfl ?_);rintro _ h9 ⟨r10, r11, rfl, H⟩;refine tq (y_move rfl) (tq (y_ext rfl rfl) (tq (y_ext rfl rfl) (tr_e (f_alloc (cs := ((⟨0, 0, 0, 0⟩ : S_api_Agg) : S_api_Agg).cells.toArray) Tryz.zeroValue40 rfl H) rfl rfl ?_)));rintro _ h12 ⟨a13, rfl, H⟩;refine tr_e (f_store (vs := r10.cells) Tryz.sizeOf40 rfl rfl cellsOfStruct rfl (by intro v hv; exact ones_S_api_Agg _ v hv) H) rfl rfl ?_;rintro _ h14 ⟨rfl, H⟩;refine tq (y_assign rfl) (tr_nil (tr_thenN (tr_seq (tr_region ?_))));obtain ⟨y15, k16, H⟩ := H;refine tr_h (y_ldS Tryz.isAgg40 Tryz.sizeOf40 rfl rfl) k16 rfl rfl (tr_e (f_store (vs := y15.cells) Tryz.sizeOf40 rfl rfl cellsOfStruct rfl (by intro v hv; exact ones_S_api_Agg _ v hv) H) rfl rfl ?_);rintro _ h17 ⟨rfl, H⟩;refine tr_nil (tr_thenN (tr_ret ?_));obtain ⟨y18, k19, H⟩ := H;exact tr_rv1 rfl (rv_cellS Tryz.isAgg40 Tryz.sizeOf40 rfl rfl k19) ⟨_, rfl, H⟩
def F.xcm (p0 : Option Addr) (p1 : S_api_Cell) (h : H) (Q : S_api_Agg -> H -> Prop) : Prop :=
  new h p1.cells.toArray ty_35 fun a2 h1 =>
  new h1 (((⟨0, 0, 0, 0⟩ : S_api_Agg) : S_api_Agg).cells.toArray) ty_40 fun a4 h3 =>
  ld_S_api_Cell h3 a2 fun y5 =>
  F.xcb p0 y5 0 h3 fun r8 h7 =>
  stH h7 a4 r8.cells fun h9 =>
  ld_S_api_Agg h9 a4 fun y10 =>
  Q y10 h9
theorem F.xcm_ok {p0 : Option Addr} {p1 : S_api_Cell} {h : H} {Q : S_api_Agg -> H -> Prop} (H : F.xcm p0 p1 h Q) : Fn PP 36 ([(.pointer p0), (.agg p1.cells.toArray)] : List Value).toArray h fun r h' => ∃ r0, r = (.agg r0.cells.toArray) ∧ Q r0 h' := by
 unfold F.xcm at H;refine fn_of Tryz.func36 Tryz.ntmps36 rfl rfl fun w0 => (tr_sub [(0, (.pointer p0)), (1, (.agg p1.cells.toArray))] ⟨rfl, rfl, trivial⟩ (tr_seq (tr_region (tr_e (f_box (cs := p1.cells.toArray) rfl rfl H) rfl rfl ?_))));rintro _ h1 ⟨a2, rfl, H⟩;refine tr_e (f_alloc (cs := ((⟨0, 0, 0, 0⟩ : S_api_Agg) : S_api_Agg).cells.toArray) Tryz.zeroValue40 rfl H) rfl rfl ?_;rintro _ h3 ⟨a4, rfl, H⟩;refine tr_nil (tr_thenN (tr_seq (tr_region (tq (y_move rfl) ?_))));obtain ⟨y5, k6, H⟩ := H;refine tr_h (y_ldS Tryz.isAgg35 Tryz.sizeOf35 rfl rfl) k6 rfl rfl (tr_e (e_call Tryz.call38 rfl (F.xcb_ok H)) rfl rfl ?_);rintro _ h7 ⟨r8, rfl, H⟩;refine tr_e (f_store (vs := r8.cells) Tryz.sizeOf40 rfl rfl cellsOfStruct rfl (by intro v hv; exact ones_S_api_Agg _ v hv) H) rfl rfl ?_;rintro _ h9 ⟨rfl, H⟩;refine tr_nil (tr_thenN (tr_ret ?_));obtain ⟨y10, k11, H⟩ := H;exact tr_rv1 rfl (rv_cellS Tryz.isAgg40 Tryz.sizeOf40 rfl rfl k11) ⟨_, rfl, H⟩
def F.xct (p0 : Option Addr) (p1 : S_api_Cell) (h : H) (Q : S_api_Agg -> H -> Prop) : Prop :=
  new h p1.cells.toArray ty_35 fun a2 h1 =>
  new h1 (((⟨0, 0, 0, 0⟩ : S_api_Agg) : S_api_Agg).cells.toArray) ty_40 fun a4 h3 =>
  ld_S_api_Cell h3 a2 fun y5 =>
  ld_S_api_Cell h3 a2 fun y7 =>
  F.xbu p0 y5 h3 fun r10 h9 =>
  Cells h9 a2 y7.cells ∧
  F.xcm r10 y7 h9 fun r13 h12 =>
  stH h12 a4 r13.cells fun h14 =>
  ld_S_api_Agg h14 a4 fun y15 =>
  Q y15 h14
theorem F.xct_ok {p0 : Option Addr} {p1 : S_api_Cell} {h : H} {Q : S_api_Agg -> H -> Prop} (H : F.xct p0 p1 h Q) : Fn PP 20 ([(.pointer p0), (.agg p1.cells.toArray)] : List Value).toArray h fun r h' => ∃ r0, r = (.agg r0.cells.toArray) ∧ Q r0 h' := by
 unfold F.xct at H;refine fn_of Tryz.func20 Tryz.ntmps20 rfl rfl fun w0 => (tr_sub [(0, (.pointer p0)), (1, (.agg p1.cells.toArray))] ⟨rfl, rfl, trivial⟩ (tr_seq (tr_region (tr_e (f_box (cs := p1.cells.toArray) rfl rfl H) rfl rfl ?_))));rintro _ h1 ⟨a2, rfl, H⟩;refine tr_e (f_alloc (cs := ((⟨0, 0, 0, 0⟩ : S_api_Agg) : S_api_Agg).cells.toArray) Tryz.zeroValue40 rfl H) rfl rfl ?_;rintro _ h3 ⟨a4, rfl, H⟩;refine tr_nil (tr_thenN (tr_seq (tr_draw mixed [0, 0, 3, 0, 15, 31] (by kernel_rfl) (g_p 0 1 rfl (by kernel_rfl) (y_move rfl) rfl rfl ?_))));obtain ⟨y5, k6, H⟩ := H;refine g_h 1 3 rfl (by kernel_rfl) (y_ldS Tryz.isAgg35 Tryz.sizeOf35 rfl rfl) k6 rfl rfl ?_;obtain ⟨y7, k8, H⟩ := H;refine g_h 3 11 rfl (by kernel_rfl) (y_ldS Tryz.isAgg35 Tryz.sizeOf35 rfl rfl) k8 rfl rfl (g_e 2 15 [(3, fun h => Cells h a2 y7.cells)] (by kernel_rfl) rfl (by kernel_rfl) (e_call Tryz.call46 rfl (F.xbu_ok H)) rfl rfl ?_);rintro _ h9 ⟨r10, rfl, H⟩;obtain ⟨k11, H⟩ := H;refine ⟨And.intro k11 trivial, ?_⟩;refine g_e 4 31 [] (by kernel_rfl) rfl (by kernel_rfl) (e_call Tryz.call36 rfl (F.xcm_ok H)) rfl rfl ?_;rintro _ h12 ⟨r13, rfl, H⟩;refine ⟨trivial, ?_⟩;refine g_e 5 63 [] (by kernel_rfl) rfl (by kernel_rfl) (f_store (vs := r13.cells) Tryz.sizeOf40 rfl rfl cellsOfStruct rfl (by intro v hv; exact ones_S_api_Agg _ v hv) H) rfl rfl ?_;rintro _ h14 ⟨rfl, H⟩;refine ⟨trivial, ?_⟩;refine g_d (by kernel_rfl) (tr_thenN (tr_ret ?_));obtain ⟨y15, k16, H⟩ := H;exact tr_rv1 rfl (rv_cellS Tryz.isAgg40 Tryz.sizeOf40 rfl rfl k16) ⟨_, rfl, H⟩
def F.xcu (p0 : Option Addr) (p1 : Int) (h : H) (Q : Int -> Int -> H -> Prop) : Prop :=
  F.xau p0 p1 h fun r2 h1 =>
  (((r2 != 0)) = true ->
  Q 0 r2 h1) ∧
  (((r2 != 0)) = false ->
  F.xbt p0 h1 fun r5 r6 r7 h4 =>
  new h4 (((⟨0, 0, 0, 0⟩ : S_api_Agg) : S_api_Agg).cells.toArray) ty_40 fun a9 h8 =>
  stH h8 a9 r5.cells fun h10 =>
  ((!r7) = true ->
  Q 0 44 h10) ∧
  ((!r7) = false ->
  F.xav p0 (⟨p1, (⟨0, 0, 0, 0⟩ : S_api_Agg), true⟩ : S_chain_version_api_Agg) h10 fun r13 h12 =>
  Q r13 0 h12))
theorem F.xcu_ok {p0 : Option Addr} {p1 : Int} {h : H} {Q : Int -> Int -> H -> Prop} (H : F.xcu p0 p1 h Q) : Fn PP 58 ([(.pointer p0), (.int .i64 p1)] : List Value).toArray h fun r h' => ∃ r0 r1, r = .tuple #[(.int .i64 r0), (.int .i64 r1)] ∧ Q r0 r1 h' := by
 unfold F.xcu at H;refine fn_of Tryz.func58 Tryz.ntmps58 rfl rfl fun w0 => (tr_sub [(0, (.pointer p0)), (1, (.int .i64 p1))] ⟨rfl, rfl, trivial⟩ (tr_seq (tr_region (tq (y_assign rfl) (tq (y_assign rfl) (tr_nil (tr_thenN (tr_seq (tr_seq (tr_region (tq (y_move rfl) (tq (y_move rfl) (tr_e (e_call Tryz.call95 rfl (F.xau_ok H)) rfl rfl ?_)))))))))))));rintro _ h1 ⟨r2, rfl, H⟩;refine tq (y_assign rfl) (tr_nil (tr_thenN (tr_seq (tr_region (tq (y_move rfl) (tq (y_neq rfl rfl) (tr_nil (tr_thenN ?_))))))));refine tr_cond rfl (fun g3 => ?_) (fun g3 => ?_)
 ·replace H := H.1 g3;refine tr_seq (tr_region (tq (y_move rfl) (tq (y_assign rfl) (tq (y_assign rfl) (tr_nil (tr_thenN (tr_ret (tr_thenR ?_))))))));exact tr_ret2 rfl rfl rfl ⟨_, _, rfl, H⟩
 ·replace H := H.2 g3;refine tr_skip (tr_thenN (tr_seq (tr_seq (tr_region (tq (y_move rfl) (tr_e (e_call Tryz.call65 rfl (F.xbt_ok H)) rfl rfl ?_))))));rintro _ h4 ⟨r5, r6, r7, rfl, H⟩;refine tq (y_move rfl) (tq (y_ext rfl rfl) (tq (y_ext rfl rfl) (tq (y_ext rfl rfl) (tr_e (f_alloc (cs := ((⟨0, 0, 0, 0⟩ : S_api_Agg) : S_api_Agg).cells.toArray) Tryz.zeroValue40 rfl H) rfl rfl ?_))));rintro _ h8 ⟨a9, rfl, H⟩;refine tr_e (f_store (vs := r5.cells) Tryz.sizeOf40 rfl rfl cellsOfStruct rfl (by intro v hv; exact ones_S_api_Agg _ v hv) H) rfl rfl ?_;rintro _ h10 ⟨rfl, H⟩;refine tq (y_assign rfl) (tq (y_assign rfl) (tr_nil (tr_thenN (tr_seq (tr_region (tq (y_move rfl) (tq (y_not rfl) (tr_nil (tr_thenN ?_)))))))));refine tr_cond rfl (fun g11 => ?_) (fun g11 => ?_)
  ·replace H := H.1 g11;refine tr_seq (tr_region (tq (y_assign rfl) (tq (y_assign rfl) (tr_nil (tr_thenN (tr_ret (tr_thenR ?_)))))));exact tr_ret2 rfl rfl rfl ⟨_, _, rfl, H⟩
  ·replace H := H.2 g11;refine tr_skip (tr_thenN (tr_seq (tr_region (tq (y_move rfl) (tq (y_move rfl) (tq (f_build rfl (bd_152_0_2 p1 true)) (tr_e (e_call Tryz.call96 rfl (F.xav_ok H)) rfl rfl ?_)))))));rintro _ h12 ⟨r13, rfl, H⟩;refine tq (y_assign rfl) (tq (y_assign rfl) (tr_nil (tr_thenN (tr_ret ?_))));exact tr_ret2 rfl rfl rfl ⟨_, _, rfl, H⟩
def F.xap.j1 (Q : Int -> H -> Prop) (x0 : Option Addr) (x1 : Int) (x5 : Addr) (h : H) : Prop :=
  ld_S_api_Cell h x5 fun y9 =>
  F.xby x0 y9 h fun r12 h11 =>
  (r12.isNone = true ->
  Q 44 h11) ∧
  (r12.isNone = false ->
  F.xcu r12 x1 h11 fun r15 r16 h14 =>
  (((r16 != 0)) = true ->
  Q r16 h14) ∧
  (((r16 != 0)) = false ->
  nn x0 fun a18 =>
  ldI .i64 h14 ((a18.add 0).add 0) fun y20 =>
  nn x0 fun a22 =>
  stH h14 ((a22.add 0).add 0) [(.int .i64 (IntKind.wrap .i64 (y20 + (IntKind.wrap .i64 (r15 - 1)))))] fun h24 =>
  nn x0 fun a25 =>
  ldI .i64 h24 ((a25.add 0).add 1) fun y27 =>
  nn x0 fun a29 =>
  stH h24 ((a29.add 0).add 1) [(.int .i64 (IntKind.wrap .i64 (y27 - 1)))] fun h31 =>
  Q 0 h31))
def F.xap.j2 (Q : Int -> H -> Prop) (x0 : Option Addr) (x1 : Int) (x5 : Addr) (x25 : Bool) (h : H) : Prop :=
  (x25 = true ->
  Q 1 h) ∧
  (x25 = false ->
  F.xap.j1 Q x0 x1 x5 h)
def F.xap (p0 : Option Addr) (p1 : Int) (p2 : S_api_Cell) (h : H) (Q : Int -> H -> Prop) : Prop :=
  new h p2.cells.toArray ty_35 fun a2 h1 =>
  ld_S_api_Cell h1 a2 fun y3 =>
  F.xaf y3 h1 fun r6 r7 h5 =>
  (((r7 != 0)) = true ->
  Q r7 h5) ∧
  (((r7 != 0)) = false ->
  ((decide (p1 < 1)) = true ->
  F.xap.j2 Q p0 p1 a2 true h5) ∧
  ((decide (p1 < 1)) = false ->
  F.xap.j2 Q p0 p1 a2 (decide (p1 > 1099511627776)) h5))
theorem F.xap_ok {p0 : Option Addr} {p1 : Int} {p2 : S_api_Cell} {h : H} {Q : Int -> H -> Prop} (H : F.xap p0 p1 p2 h Q) : Fn PP 27 ([(.pointer p0), (.int .i64 p1), (.agg p2.cells.toArray)] : List Value).toArray h fun r h' => ∃ r0, r = (.int .i64 r0) ∧ Q r0 h' := by
 unfold F.xap at H;refine fn_of Tryz.func27 Tryz.ntmps27 rfl rfl fun w0 => (tr_sub [(0, (.pointer p0)), (1, (.int .i64 p1)), (2, (.agg p2.cells.toArray))] ⟨rfl, rfl, rfl, trivial⟩ (tr_seq (tr_region (tr_e (f_box (cs := p2.cells.toArray) rfl rfl H) rfl rfl ?_))));rintro _ h1 ⟨a2, rfl, H⟩;refine tq (y_assign rfl) (tr_nil (tr_thenN (tr_seq (tr_seq (tr_region ?_)))));obtain ⟨y3, k4, H⟩ := H;refine tr_h (y_ldS Tryz.isAgg35 Tryz.sizeOf35 rfl rfl) k4 rfl rfl (tr_e (e_call Tryz.call56 rfl (F.xaf_ok H)) rfl rfl ?_);rintro _ h5 ⟨r6, r7, rfl, H⟩;refine tq (y_move rfl) (tq (y_ext rfl rfl) (tq (y_ext rfl rfl) (tq (y_assign rfl) (tq (y_assign rfl) (tr_nil (tr_thenN (tr_seq (tr_region (tq (y_move rfl) (tq (y_neq rfl rfl) (tr_nil (tr_thenN ?_))))))))))));refine tr_cond rfl (fun g8 => ?_) (fun g8 => ?_)
 ·replace H := H.1 g8;refine tr_seq (tr_region (tq (y_move rfl) (tq (y_assign rfl) (tr_nil (tr_thenN (tr_ret (tr_thenR ?_)))))));exact tr_ret1 rfl rfl ⟨_, rfl, H⟩
 ·replace H := H.2 g8;refine tr_skip (tr_thenN ?_);refine tr_seq_j (fun L' h => ∃ (x0 : Option Addr) (x1 : Int) (x5 : Addr), L' = [(0, (.pointer x0)), (1, (.int .i64 x1)), (5, (.pointer (some x5)))] ∧ F.xap.j1 Q x0 x1 x5 h) ?_ ?_
  ·rintro L' h ⟨x0, x1, x5, rfl, H⟩;unfold F.xap.j1 at H;refine tr_seq (tr_region (tq (y_move rfl) ?_));obtain ⟨y9, k10, H⟩ := H;refine tr_h (y_ldS Tryz.isAgg35 Tryz.sizeOf35 rfl rfl) k10 rfl rfl (tr_e (e_call Tryz.call57 rfl (F.xby_ok H)) rfl rfl ?_);rintro _ h11 ⟨r12, rfl, H⟩;refine tq (y_assign rfl) (tr_nil (tr_thenN (tr_seq (tr_seq (tr_region (tq (y_move rfl) (tq (y_pnil_eql Tryz.runUnderlying107 rfl rfl) (tr_nil (tr_thenN ?_)))))))));refine tr_cond rfl (fun g13 => ?_) (fun g13 => ?_)
   ·replace H := H.1 g13;refine tr_seq (tr_region (tq (y_assign rfl) (tr_nil (tr_thenN (tr_ret (tr_thenR ?_))))));exact tr_ret1 rfl rfl ⟨_, rfl, H⟩
   ·replace H := H.2 g13;refine tr_skip (tr_thenN (tr_seq (tr_region (tq (y_move rfl) (tq (y_move rfl) (tr_e (e_call Tryz.call58 rfl (F.xcu_ok H)) rfl rfl ?_))))));rintro _ h14 ⟨r15, r16, rfl, H⟩;refine tq (y_move rfl) (tq (y_ext rfl rfl) (tq (y_ext rfl rfl) (tq (y_assign rfl) (tq (y_assign rfl) (tr_nil (tr_thenN (tr_seq (tr_seq (tr_region (tq (y_move rfl) (tq (y_neq rfl rfl) (tr_nil (tr_thenN ?_)))))))))))));refine tr_cond rfl (fun g17 => ?_) (fun g17 => ?_)
    ·replace H := H.1 g17;refine tr_seq (tr_region (tq (y_move rfl) (tq (y_assign rfl) (tr_nil (tr_thenN (tr_ret (tr_thenR ?_)))))));exact tr_ret1 rfl rfl ⟨_, rfl, H⟩
    ·replace H := H.2 g17;refine tr_skip (tr_thenN (tr_seq (tr_region (tq (y_move rfl) ?_))));obtain ⟨a18, e19, H⟩ := H;refine tq (f_nn rfl e19) (tq (y_fa (off := 0) Tryz.runUnderlying74 fo_74_0 rfl) (tq (y_fa (off := 0) Tryz.runUnderlying71 fo_71_0 rfl) ?_));obtain ⟨y20, k21, H⟩ := H;refine tr_h (y_ld Tryz.isAgg3 rfl) k21 rfl rfl (tq (y_move rfl) (tq (y_sub rfl rfl) (tq (y_add rfl rfl) ?_)));obtain ⟨a22, e23, H⟩ := H;refine tq (f_nn rfl e23) (tq (y_fa (off := 0) Tryz.runUnderlying74 fo_74_0 rfl) (tq (y_fa (off := 0) Tryz.runUnderlying71 fo_71_0 rfl) (tr_e (f_store (vs := [(.int .i64 (IntKind.wrap .i64 (y20 + (IntKind.wrap .i64 (r15 - 1)))))]) Tryz.sizeOf3 rfl rfl rfl rfl (one1 rfl) H) rfl rfl ?_)));rintro _ h24 ⟨rfl, H⟩;refine tr_nil (tr_thenN (tr_seq (tr_region (tq (y_move rfl) ?_))));obtain ⟨a25, e26, H⟩ := H;refine tq (f_nn rfl e26) (tq (y_fa (off := 0) Tryz.runUnderlying74 fo_74_0 rfl) (tq (y_fa (off := 1) Tryz.runUnderlying71 fo_71_1 rfl) ?_));obtain ⟨y27, k28, H⟩ := H;refine tr_h (y_ld Tryz.isAgg3 rfl) k28 rfl rfl (tq (y_sub rfl rfl) ?_);obtain ⟨a29, e30, H⟩ := H;refine tq (f_nn rfl e30) (tq (y_fa (off := 0) Tryz.runUnderlying74 fo_74_0 rfl) (tq (y_fa (off := 1) Tryz.runUnderlying71 fo_71_1 rfl) (tr_e (f_store (vs := [(.int .i64 (IntKind.wrap .i64 (y27 - 1)))]) Tryz.sizeOf3 rfl rfl rfl rfl (one1 rfl) H) rfl rfl ?_)));rintro _ h31 ⟨rfl, H⟩;refine tr_nil (tr_thenN (tr_seq (tr_region (tq (y_assign rfl) (tr_nil (tr_thenN (tr_ret ?_)))))));exact tr_ret1 rfl rfl ⟨_, rfl, H⟩
  ·refine tr_seq_j (fun L' h => ∃ (x0 : Option Addr) (x1 : Int) (x5 : Addr) (x25 : Bool), L' = [(0, (.pointer x0)), (1, (.int .i64 x1)), (5, (.pointer (some x5))), (25, (.bool x25))] ∧ F.xap.j2 Q x0 x1 x5 x25 h) ?_ ?_
   ·rintro L' h ⟨x0, x1, x5, x25, rfl, H⟩;unfold F.xap.j2 at H;refine tr_cond rfl (fun g32 => ?_) (fun g32 => ?_)
    ·replace H := H.1 g32;refine tr_seq (tr_region (tq (y_assign rfl) (tr_nil (tr_thenN (tr_ret (tr_thenR ?_))))));exact tr_ret1 rfl rfl ⟨_, rfl, H⟩
    ·replace H := H.2 g32;refine tr_skip (tr_thenN ?_);exact tr_join [(0, (.pointer x0)), (1, (.int .i64 x1)), (5, (.pointer (some x5)))] ⟨rfl, rfl, rfl, trivial⟩ ⟨_, _, _, rfl, H⟩
   ·refine tr_region (tq (y_move rfl) (tq (y_lss rfl rfl) (tq (y_move rfl) ?_)));refine tr_split (t := 22) rfl (fun g33 => ?_) (fun g33 => ?_)
    ·replace H := H.1 g33;refine ts (ts (tq (y_pick_t rfl rfl) (tr_nil (tr_thenN ?_))));exact tr_join [(0, (.pointer p0)), (1, (.int .i64 p1)), (5, (.pointer (some a2))), (25, (.bool true))] ⟨rfl, rfl, rfl, rfl, trivial⟩ ⟨_, _, _, _, rfl, H⟩
    ·replace H := H.2 g33;refine tq (y_move rfl) (tq (y_gtr rfl rfl) (tq (y_pick_f rfl rfl) (tr_nil (tr_thenN ?_))));exact tr_join [(0, (.pointer p0)), (1, (.int .i64 p1)), (5, (.pointer (some a2))), (25, (.bool (decide (p1 > 1099511627776))))] ⟨rfl, rfl, rfl, rfl, trivial⟩ ⟨_, _, _, _, rfl, H⟩
def F.xcr (p0 : Option Addr) (p1 : Int) (p2 : S_api_Cell) (h : H) (Q : Int -> H -> Prop) : Prop :=
  new h p2.cells.toArray ty_35 fun a2 h1 =>
  ld_S_api_Cell h1 a2 fun y3 =>
  ld_S_api_Cell h1 a2 fun y5 =>
  F.xbu p0 y3 h1 fun r8 h7 =>
  Cells h7 a2 y5.cells ∧
  F.xap r8 p1 y5 h7 fun r11 h10 =>
  Q r11 h10
theorem F.xcr_ok {p0 : Option Addr} {p1 : Int} {p2 : S_api_Cell} {h : H} {Q : Int -> H -> Prop} (H : F.xcr p0 p1 p2 h Q) : Fn PP 25 ([(.pointer p0), (.int .i64 p1), (.agg p2.cells.toArray)] : List Value).toArray h fun r h' => ∃ r0, r = (.int .i64 r0) ∧ Q r0 h' := by
 unfold F.xcr at H;refine fn_of Tryz.func25 Tryz.ntmps25 rfl rfl fun w0 => (tr_sub [(0, (.pointer p0)), (1, (.int .i64 p1)), (2, (.agg p2.cells.toArray))] ⟨rfl, rfl, rfl, trivial⟩ (tr_seq (tr_region (tr_e (f_box (cs := p2.cells.toArray) rfl rfl H) rfl rfl ?_))));rintro _ h1 ⟨a2, rfl, H⟩;refine tq (y_assign rfl) (tr_nil (tr_thenN (tr_seq (tr_draw mixed [0, 0, 3, 0, 0, 31, 63] (by kernel_rfl) (g_p 0 1 rfl (by kernel_rfl) (y_move rfl) rfl rfl ?_)))));obtain ⟨y3, k4, H⟩ := H;refine g_h 1 3 rfl (by kernel_rfl) (y_ldS Tryz.isAgg35 Tryz.sizeOf35 rfl rfl) k4 rfl rfl (g_p 3 11 rfl (by kernel_rfl) (y_move rfl) rfl rfl ?_);obtain ⟨y5, k6, H⟩ := H;refine g_h 4 27 rfl (by kernel_rfl) (y_ldS Tryz.isAgg35 Tryz.sizeOf35 rfl rfl) k6 rfl rfl (g_e 2 31 [(4, fun h => Cells h a2 y5.cells)] (by kernel_rfl) rfl (by kernel_rfl) (e_call Tryz.call46 rfl (F.xbu_ok H)) rfl rfl ?_);rintro _ h7 ⟨r8, rfl, H⟩;obtain ⟨k9, H⟩ := H;refine ⟨And.intro k9 trivial, ?_⟩;refine g_e 5 63 [] (by kernel_rfl) rfl (by kernel_rfl) (e_call Tryz.call27 rfl (F.xap_ok H)) rfl rfl ?_;rintro _ h10 ⟨r11, rfl, H⟩;refine ⟨trivial, ?_⟩;refine g_p 6 127 rfl (by kernel_rfl) (y_assign rfl) rfl rfl (g_d (by kernel_rfl) (tr_thenN (tr_ret ?_)));exact tr_ret1 rfl rfl ⟨_, rfl, H⟩
def F.xah.j3 (Q : Int -> H -> Prop) (x0 : Option Addr) (x5 : Int) (x10 : Sl) (h : H) : Prop :=
  nn x0 fun a45 =>
  stH h (a45.add 0) [x10.enc] fun h47 =>
  Q (IntKind.wrap .i64 (x5 - (x10.len : Int))) h47
def F.xah.j4 (Q : Int -> H -> Prop) (x0 : Option Addr) (x5 : Int) (x10 : Sl) (x68 : Bool) (h : H) : Prop :=
  (x68 = true ->
  F.xah.j3 Q x0 x5 (⟨none, 0, 0⟩ : Sl) h) ∧
  (x68 = false ->
  F.xah.j3 Q x0 x5 x10 h)
def F.xah.l2 (Q : Int -> H -> Prop) : Nat -> (Option Addr) -> Int -> Sl -> Sl -> Sl -> Int -> Int -> H -> Prop
  | 0, _, _, _, _, _, _, _, _ => False
  | q2 + 1, x0, x5, x6, x10, x44, x45, x46, h =>
    ((decide (x46 < x45)) = true ->
    idxA x44 x46 6 fun a27 =>
    ld_S_chain_version_api_Agg h a27 fun y29 =>
    new h (((⟨0, (⟨0, 0, 0, 0⟩ : S_api_Agg), false⟩ : S_chain_version_api_Agg) : S_chain_version_api_Agg).cells.toArray) ty_152 fun a32 h31 =>
    stH h31 a32 y29.cells fun h33 =>
    idxA x6 x46 1 fun a34 =>
    ldB h33 a34 fun y36 =>
    (y36 = true ->
    ld_S_chain_version_api_Agg h33 a32 fun y39 =>
    newL h33 ((y39.cells).toArray) ty_152 1 fun s42 h41 =>
    runL PP (Builtin.append_ #[162, 162] 162 #[x10.enc, s42.enc]) h41 fun s44 h43 =>
    (F.xah.l2 Q q2) x0 x5 x6 s44 x44 x45 (IntKind.wrap .i64 (x46 + 1)) h43) ∧
    (y36 = false ->
    (F.xah.l2 Q q2) x0 x5 x6 x10 x44 x45 (IntKind.wrap .i64 (x46 + 1)) h33)) ∧
    ((decide (x46 < x45)) = false ->
    ((((x10.len : Int) == 1)) = true ->
    idxA x10 0 6 fun a50 =>
    ldB h (a50.add 5) fun y52 =>
    F.xah.j4 Q x0 x5 x10 y52 h) ∧
    ((((x10.len : Int) == 1)) = false ->
    F.xah.j4 Q x0 x5 x10 false h))
def F.xah.l1 (Q : Int -> H -> Prop) : Nat -> (Option Addr) -> Int -> Sl -> Sl -> Int -> Int -> H -> Prop
  | 0, _, _, _, _, _, _, _ => False
  | q1 + 1, x0, x5, x6, x26, x27, x28, h =>
    ((decide (x28 < x27)) = true ->
    idxA x26 x28 1 fun a12 =>
    ldI .i64 h a12 fun y14 =>
    F.xbg x0 y14 h fun r17 h16 =>
    ((decide (r17 >= 0)) = true ->
    idxA x6 r17 1 fun a19 =>
    stH h16 a19 [(.bool true)] fun h21 =>
    (F.xah.l1 Q q1) x0 x5 x6 x26 x27 (IntKind.wrap .i64 (x28 + 1)) h21) ∧
    ((decide (r17 >= 0)) = false ->
    (F.xah.l1 Q q1) x0 x5 x6 x26 x27 (IntKind.wrap .i64 (x28 + 1)) h16)) ∧
    ((decide (x28 < x27)) = false ->
    nn x0 fun a22 =>
    ldL h (a22.add 0) fun y24 =>
    ∃ m, F.xah.l2 Q m x0 x5 x6 (⟨none, 0, 0⟩ : Sl) y24 (y24.len : Int) 0 h)
def F.xah (p0 : Option Addr) (p1 : Sl) (h : H) (Q : Int -> H -> Prop) : Prop :=
  nn p0 fun a1 =>
  ldL h (a1.add 0) fun y3 =>
  ((((y3.len : Int) == 0)) = true ->
  Q 0 h) ∧
  ((((y3.len : Int) == 0)) = false ->
  runL PP (Instr.makeSlice 165 (.int .i64 (y3.len : Int)) (.int .i64 (y3.len : Int))) h fun s7 h6 =>
  idxA s7 (IntKind.wrap .i64 ((y3.len : Int) - 1)) 1 fun a8 =>
  stH h6 a8 [(.bool true)] fun h10 =>
  ∃ m, F.xah.l1 Q m p0 (y3.len : Int) s7 p1 (p1.len : Int) 0 h10)
theorem F.xah_ok {p0 : Option Addr} {p1 : Sl} {h : H} {Q : Int -> H -> Prop} (H : F.xah p0 p1 h Q) : Fn PP 60 ([(.pointer p0), p1.enc] : List Value).toArray h fun r h' => ∃ r0, r = (.int .i64 r0) ∧ Q r0 h' := by
 unfold F.xah at H;refine fn_of Tryz.func60 Tryz.ntmps60 rfl rfl fun w0 => (tr_sub [(0, (.pointer p0)), (1, p1.enc)] ⟨rfl, rfl, trivial⟩ (tr_seq (tr_region (tq (y_assign rfl) (tr_nil (tr_thenN (tr_seq (tr_region (tq (y_move rfl) ?_)))))))));obtain ⟨a1, e2, H⟩ := H;refine tq (f_nn rfl e2) (tq (y_fa (off := 0) Tryz.runUnderlying164 fo_164_0 rfl) ?_);obtain ⟨y3, k4, H⟩ := H;refine tr_h (y_ld Tryz.isAgg162 rfl) k4 rfl rfl (tq (y_len (ts := #[]) Tryz.runUnderlying162 (o := y3.ptr) (n := y3.len) (cap := y3.cap) rfl) (tq (y_assign rfl) (tr_nil (tr_thenN (tr_seq (tr_seq (tr_region (tq (y_move rfl) (tq (y_eql rfl rfl) (tr_nil (tr_thenN ?_)))))))))));refine tr_cond rfl (fun g5 => ?_) (fun g5 => ?_)
 ·replace H := H.1 g5;refine tr_seq (tr_region (tq (y_assign rfl) (tr_nil (tr_thenN (tr_ret (tr_thenR ?_))))));exact tr_ret1 rfl rfl ⟨_, rfl, H⟩
 ·replace H := H.2 g5;refine tr_skip (tr_thenN (tr_seq (tr_region (tq (y_move rfl) (tr_e (f_make rfl rfl H) rfl rfl ?_)))));rintro _ h6 ⟨s7, rfl, H⟩;refine tq (y_assign rfl) (tr_nil (tr_thenN (tr_seq (tr_region (tq (y_move rfl) (tq (y_move rfl) (tq (y_sub rfl rfl) ?_)))))));obtain ⟨a8, e9, H⟩ := H;refine tq (f_idx (s := s7) Tryz.runUnderlying165 Tryz.sizeOf4 rfl rfl e9) (tr_e (f_store (vs := [(.bool true)]) Tryz.sizeOf4 rfl rfl rfl rfl (one1 rfl) H) rfl rfl ?_);rintro _ h10 ⟨rfl, H⟩;refine tr_nil (tr_thenN (tr_seq (tr_seq (tr_region (tq (y_move rfl) (tq (y_len (ts := #[]) Tryz.runUnderlying42 (o := p1.ptr) (n := p1.len) (cap := p1.cap) rfl) (tq (y_move rfl) (tr_nil (tr_thenN (tr_block ?_))))))))));obtain ⟨m55, H⟩ := H;refine tr_sub [(0, (.pointer p0)), (5, (.int .i64 (y3.len : Int))), (6, s7.enc), (26, p1.enc), (27, (.int .i64 (p1.len : Int))), (28, (.int .i64 0))] ⟨rfl, rfl, rfl, rfl, rfl, rfl, trivial⟩ ?_;refine tr_loop_j (fun m L' h => ∃ (x0 : Option Addr) (x5 : Int) (x6 : Sl) (x26 : Sl) (x27 : Int) (x28 : Int), L' = [(0, (.pointer x0)), (5, (.int .i64 x5)), (6, x6.enc), (26, x26.enc), (27, (.int .i64 x27)), (28, (.int .i64 x28))] ∧ F.xah.l1 Q m x0 x5 x6 x26 x27 x28 h) ?_ ?_ m55 ⟨_, _, _, _, _, _, rfl, H⟩
  ·rintro L' h ⟨_, _, _, _, _, _, _, H⟩; exact H
  ·rintro q1 L' h ⟨x0, x5, x6, x26, x27, x28, rfl, H⟩;unfold F.xah.l1 at H;refine tr_seq (tr_region (tq (y_lss rfl rfl) (tr_nil (tr_thenN (tr_seq ?_)))));refine tr_cond rfl (fun g11 => ?_) (fun g11 => ?_)
   ·replace H := H.1 g11;refine tr_skip (tr_thenN (tr_seq (tr_block (tr_seq (tr_region ?_)))));obtain ⟨a12, e13, H⟩ := H;refine tq (f_idx (s := x26) Tryz.runUnderlying42 Tryz.sizeOf3 rfl rfl e13) ?_;obtain ⟨y14, k15, H⟩ := H;refine tr_h (y_ld Tryz.isAgg3 rfl) k15 rfl rfl (tq (y_assign rfl) (tr_nil (tr_thenN (tr_seq (tr_region (tq (y_move rfl) (tq (y_move rfl) (tr_e (e_call Tryz.call100 rfl (F.xbg_ok H)) rfl rfl ?_))))))));rintro _ h16 ⟨r17, rfl, H⟩;refine tq (y_assign rfl) (tr_nil (tr_thenN (tr_seq (tr_region (tq (y_move rfl) (tq (y_geq rfl rfl) (tr_nil (tr_thenN ?_))))))));refine tr_cond rfl (fun g18 => ?_) (fun g18 => ?_)
    ·replace H := H.1 g18;refine tr_region (tq (y_move rfl) (tq (y_move rfl) ?_));obtain ⟨a19, e20, H⟩ := H;refine tq (f_idx (s := x6) Tryz.runUnderlying165 Tryz.sizeOf4 rfl rfl e20) (tr_e (f_store (vs := [(.bool true)]) Tryz.sizeOf4 rfl rfl rfl rfl (one1 rfl) H) rfl rfl ?_);rintro _ h21 ⟨rfl, H⟩;refine tr_nil (tr_blockN (tr_thenN (tr_region (tq (y_add rfl rfl) (tq (y_move rfl) (tr_nil (tr_thenN ?_)))))));exact tr_join [(0, (.pointer x0)), (5, (.int .i64 x5)), (6, x6.enc), (26, x26.enc), (27, (.int .i64 x27)), (28, (.int .i64 (IntKind.wrap .i64 (x28 + 1))))] ⟨rfl, rfl, rfl, rfl, rfl, rfl, trivial⟩ ⟨_, _, _, _, _, _, rfl, H⟩
    ·replace H := H.2 g18;refine tr_skip (tr_blockN (tr_thenN (tr_region (tq (y_add rfl rfl) (tq (y_move rfl) (tr_nil (tr_thenN ?_)))))));exact tr_join [(0, (.pointer x0)), (5, (.int .i64 x5)), (6, x6.enc), (26, x26.enc), (27, (.int .i64 x27)), (28, (.int .i64 (IntKind.wrap .i64 (x28 + 1))))] ⟨rfl, rfl, rfl, rfl, rfl, rfl, trivial⟩ ⟨_, _, _, _, _, _, rfl, H⟩
   ·replace H := H.2 g11;refine tr_exit (tr_thenE (tr_thenE (tr_hit (tr_thenN (tr_seq (tr_region (tq (y_assign rfl) (tr_nil (tr_thenN (tr_seq (tr_seq (tr_region (tq (y_move rfl) ?_)))))))))))));obtain ⟨a22, e23, H⟩ := H;refine tq (f_nn rfl e23) (tq (y_fa (off := 0) Tryz.runUnderlying164 fo_164_0 rfl) ?_);obtain ⟨y24, k25, H⟩ := H;refine tr_h (y_ld Tryz.isAgg162 rfl) k25 rfl rfl (tq (y_len (ts := #[]) Tryz.runUnderlying162 (o := y24.ptr) (n := y24.len) (cap := y24.cap) rfl) (tq (y_move rfl) (tr_nil (tr_thenN (tr_block ?_)))));obtain ⟨m54, H⟩ := H;refine tr_sub [(0, (.pointer x0)), (5, (.int .i64 x5)), (6, x6.enc), (10, (⟨none, 0, 0⟩ : Sl).enc), (44, y24.enc), (45, (.int .i64 (y24.len : Int))), (46, (.int .i64 0))] ⟨rfl, rfl, rfl, rfl, rfl, rfl, rfl, trivial⟩ ?_;refine tr_loop_j (fun m L' h => ∃ (x0 : Option Addr) (x5 : Int) (x6 : Sl) (x10 : Sl) (x44 : Sl) (x45 : Int) (x46 : Int), L' = [(0, (.pointer x0)), (5, (.int .i64 x5)), (6, x6.enc), (10, x10.enc), (44, x44.enc), (45, (.int .i64 x45)), (46, (.int .i64 x46))] ∧ F.xah.l2 Q m x0 x5 x6 x10 x44 x45 x46 h) ?_ ?_ m54 ⟨_, _, _, _, _, _, _, rfl, H⟩
    ·rintro L' h ⟨_, _, _, _, _, _, _, _, H⟩; exact H
    ·rintro q2 L' h ⟨x0, x5, x6, x10, x44, x45, x46, rfl, H⟩;unfold F.xah.l2 at H;refine tr_seq (tr_region (tq (y_lss rfl rfl) (tr_nil (tr_thenN (tr_seq ?_)))));refine tr_cond rfl (fun g26 => ?_) (fun g26 => ?_)
     ·replace H := H.1 g26;refine tr_skip (tr_thenN (tr_seq (tr_block (tr_seq (tr_region (tq (y_move rfl) ?_))))));obtain ⟨a27, e28, H⟩ := H;refine tq (f_idx (s := x44) Tryz.runUnderlying162 Tryz.sizeOf152 rfl rfl e28) ?_;obtain ⟨y29, k30, H⟩ := H;refine tr_h (y_ldS Tryz.isAgg152 Tryz.sizeOf152 rfl rfl) k30 rfl rfl (tr_e (f_alloc (cs := ((⟨0, (⟨0, 0, 0, 0⟩ : S_api_Agg), false⟩ : S_chain_version_api_Agg) : S_chain_version_api_Agg).cells.toArray) Tryz.zeroValue152 rfl H) rfl rfl ?_);rintro _ h31 ⟨a32, rfl, H⟩;refine tq (y_assign rfl) (tr_e (f_store (vs := y29.cells) Tryz.sizeOf152 rfl rfl cellsOfStruct rfl (by intro v hv; exact ones_S_chain_version_api_Agg _ v hv) H) rfl rfl ?_);rintro _ h33 ⟨rfl, H⟩;refine tr_nil (tr_thenN (tr_seq (tr_region (tq (y_move rfl) (tq (y_move rfl) ?_)))));obtain ⟨a34, e35, H⟩ := H;refine tq (f_idx (s := x6) Tryz.runUnderlying165 Tryz.sizeOf4 rfl rfl e35) ?_;obtain ⟨y36, k37, H⟩ := H;refine tr_h (y_ld Tryz.isAgg4 rfl) k37 rfl rfl (tr_nil (tr_thenN ?_));refine tr_cond rfl (fun g38 => ?_) (fun g38 => ?_)
      ·replace H := H.1 g38;refine tr_region (tq (y_move rfl) ?_);obtain ⟨y39, k40, H⟩ := H;refine tr_h (y_ldS Tryz.isAgg152 Tryz.sizeOf152 rfl rfl) k40 rfl rfl (tr_e (f_buildL (cs := (y39.cells).toArray) rfl rfl (bl_162_1_0 y39) H) rfl rfl ?_);rintro _ h41 ⟨s42, rfl, H⟩;refine tr_e (f_app rfl H) rfl rfl ?_;rintro _ h43 ⟨s44, rfl, H⟩;refine tq (y_assign rfl) (tr_nil (tr_blockN (tr_thenN (tr_region (tq (y_add rfl rfl) (tq (y_move rfl) (tr_nil (tr_thenN ?_))))))));exact tr_join [(0, (.pointer x0)), (5, (.int .i64 x5)), (6, x6.enc), (10, s44.enc), (44, x44.enc), (45, (.int .i64 x45)), (46, (.int .i64 (IntKind.wrap .i64 (x46 + 1))))] ⟨rfl, rfl, rfl, rfl, rfl, rfl, rfl, trivial⟩ ⟨_, _, _, _, _, _, _, rfl, H⟩
      ·replace H := H.2 g38;refine tr_skip (tr_blockN (tr_thenN (tr_region (tq (y_add rfl rfl) (tq (y_move rfl) (tr_nil (tr_thenN ?_)))))));exact tr_join [(0, (.pointer x0)), (5, (.int .i64 x5)), (6, x6.enc), (10, x10.enc), (44, x44.enc), (45, (.int .i64 x45)), (46, (.int .i64 (IntKind.wrap .i64 (x46 + 1))))] ⟨rfl, rfl, rfl, rfl, rfl, rfl, rfl, trivial⟩ ⟨_, _, _, _, _, _, _, rfl, H⟩
     ·replace H := H.2 g26;refine tr_exit (tr_thenE (tr_thenE (tr_hit (tr_thenN ?_))));refine tr_seq_j (fun L' h => ∃ (x0 : Option Addr) (x5 : Int) (x10 : Sl), L' = [(0, (.pointer x0)), (5, (.int .i64 x5)), (10, x10.enc)] ∧ F.xah.j3 Q x0 x5 x10 h) ?_ ?_
      ·rintro L' h ⟨x0, x5, x10, rfl, H⟩;unfold F.xah.j3 at H;refine tr_seq (tr_region (tq (y_move rfl) (tq (y_move rfl) ?_)));obtain ⟨a45, e46, H⟩ := H;refine tq (f_nn rfl e46) (tq (y_fa (off := 0) Tryz.runUnderlying164 fo_164_0 rfl) (tr_e (f_store (vs := [x10.enc]) Tryz.sizeOf162 rfl rfl rfl rfl (one1 rfl) H) rfl rfl ?_));rintro _ h47 ⟨rfl, H⟩;refine tr_nil (tr_thenN (tr_seq (tr_region (tq (y_move rfl) (tq (y_move rfl) (tq (y_len (ts := #[]) Tryz.runUnderlying162 (o := x10.ptr) (n := x10.len) (cap := x10.cap) rfl) (tq (y_sub rfl rfl) (tq (y_assign rfl) (tr_nil (tr_thenN (tr_ret ?_)))))))))));exact tr_ret1 rfl rfl ⟨_, rfl, H⟩
      ·refine tr_seq_j (fun L' h => ∃ (x0 : Option Addr) (x5 : Int) (x10 : Sl) (x68 : Bool), L' = [(0, (.pointer x0)), (5, (.int .i64 x5)), (10, x10.enc), (68, (.bool x68))] ∧ F.xah.j4 Q x0 x5 x10 x68 h) ?_ ?_
       ·rintro L' h ⟨x0, x5, x10, x68, rfl, H⟩;unfold F.xah.j4 at H;refine tr_cond rfl (fun g48 => ?_) (fun g48 => ?_)
        ·replace H := H.1 g48;refine tr_region (tq (y_assign rfl) (tr_nil (tr_thenN ?_)));exact tr_join [(0, (.pointer x0)), (5, (.int .i64 x5)), (10, (⟨none, 0, 0⟩ : Sl).enc)] ⟨rfl, rfl, rfl, trivial⟩ ⟨_, _, _, rfl, H⟩
        ·replace H := H.2 g48;refine tr_skip (tr_thenN ?_);exact tr_join [(0, (.pointer x0)), (5, (.int .i64 x5)), (10, x10.enc)] ⟨rfl, rfl, rfl, trivial⟩ ⟨_, _, _, rfl, H⟩
       ·refine tr_region (tq (y_move rfl) (tq (y_len (ts := #[]) Tryz.runUnderlying162 (o := x10.ptr) (n := x10.len) (cap := x10.cap) rfl) (tq (y_eql rfl rfl) (tq (y_move rfl) ?_))));refine tr_split (t := 63) rfl (fun g49 => ?_) (fun g49 => ?_)
        ·replace H := H.1 g49;refine tq (y_move rfl) ?_;obtain ⟨a50, e51, H⟩ := H;refine tq (f_idx (s := x10) Tryz.runUnderlying162 Tryz.sizeOf152 rfl rfl e51) (tq (y_fa (off := 5) Tryz.runUnderlying152 fo_152_2 rfl) ?_);obtain ⟨y52, k53, H⟩ := H;refine tr_h (y_ld Tryz.isAgg4 rfl) k53 rfl rfl (tq (y_pick_t rfl rfl) (tr_nil (tr_thenN ?_)));exact tr_join [(0, (.pointer x0)), (5, (.int .i64 x5)), (10, x10.enc), (68, (.bool y52))] ⟨rfl, rfl, rfl, rfl, trivial⟩ ⟨_, _, _, _, rfl, H⟩
        ·replace H := H.2 g49;refine ts (ts (ts (ts (tq (y_pick_f rfl rfl) (tr_nil (tr_thenN ?_))))));exact tr_join [(0, (.pointer x0)), (5, (.int .i64 x5)), (10, x10.enc), (68, (.bool false))] ⟨rfl, rfl, rfl, rfl, trivial⟩ ⟨_, _, _, _, rfl, H⟩
def F.xcg (p0 : Option Addr) (h : H) (Q : Int -> H -> Prop) : Prop :=
  nn p0 fun a1 =>
  ldL h (a1.add 0) fun y3 =>
  Q (y3.len : Int) h
theorem F.xcg_ok {p0 : Option Addr} {h : H} {Q : Int -> H -> Prop} (H : F.xcg p0 h Q) : Fn PP 61 ([(.pointer p0)] : List Value).toArray h fun r h' => ∃ r0, r = (.int .i64 r0) ∧ Q r0 h' := by
 unfold F.xcg at H;refine fn_of Tryz.func61 Tryz.ntmps61 rfl rfl fun w0 => (tr_sub [(0, (.pointer p0))] ⟨rfl, trivial⟩ (tr_seq (tr_region (tq (y_assign rfl) (tr_nil (tr_thenN (tr_seq (tr_region (tq (y_move rfl) ?_)))))))));obtain ⟨a1, e2, H⟩ := H;refine tq (f_nn rfl e2) (tq (y_fa (off := 0) Tryz.runUnderlying164 fo_164_0 rfl) ?_);obtain ⟨y3, k4, H⟩ := H;refine tr_h (y_ld Tryz.isAgg162 rfl) k4 rfl rfl (tq (y_len (ts := #[]) Tryz.runUnderlying162 (o := y3.ptr) (n := y3.len) (cap := y3.cap) rfl) (tq (y_assign rfl) (tr_nil (tr_thenN (tr_ret ?_)))));exact tr_ret1 rfl rfl ⟨_, rfl, H⟩
def F.xam.j2 (Q : (Option Addr) -> Bool -> H -> Prop) (C1 : (Option Addr) -> (Option Addr) -> Int -> Int -> Int -> H -> Prop) (x0 : Option Addr) (x4 : Option Addr) (x8 : Int) (x10 : Int) (x11 : Int) (h : H) : Prop :=
  (x10 : Int) ≠ 0 ∧
  C1 x0 x4 x8 x10 (Int.tmod (IntKind.wrap .i64 (x11 + 1)) x10) h
def F.xam.l1 (Q : (Option Addr) -> Bool -> H -> Prop) : Nat -> (Option Addr) -> (Option Addr) -> Int -> Int -> Int -> H -> Prop
  | 0, _, _, _, _, _, _ => False
  | q1 + 1, x0, x4, x8, x10, x11, h =>
    nn x0 fun a61 =>
    ldL h (a61.add 0) fun y63 =>
    idxA y63 x11 3 fun a65 =>
    ldI .u8 h (a65.add 0) fun y67 =>
    (((y67 != 0)) = true ->
    nn x0 fun a71 =>
    ldL h (a71.add 0) fun y73 =>
    nn x0 fun a75 =>
    ldL h (a75.add 0) fun y77 =>
    idxA y77 x11 3 fun a79 =>
    ldS h (a79.add 1) fun y81 =>
    F.xck y73 y81 h fun r84 h83 =>
    (x10 : Int) ≠ 0 ∧
    (x10 : Int) ≠ 0 ∧
    ((decide ((Int.tmod (IntKind.wrap .i64 ((IntKind.wrap .i64 (x11 - r84)) + x10)) x10) >= (Int.tmod (IntKind.wrap .i64 ((IntKind.wrap .i64 (x11 - x8)) + x10)) x10))) = true ->
    nn x0 fun a88 =>
    ldL h83 (a88.add 0) fun y90 =>
    nn x0 fun a92 =>
    ldL h83 (a92.add 0) fun y94 =>
    idxA y94 x11 3 fun a96 =>
    ld_S_table_place_chain_Chain_api_Agg h83 a96 fun y98 =>
    idxA y90 x8 3 fun a100 =>
    stH h83 a100 y98.cells fun h102 =>
    F.xam.j2 Q (F.xam.l1 Q q1) x0 x4 x11 x10 x11 h102) ∧
    ((decide ((Int.tmod (IntKind.wrap .i64 ((IntKind.wrap .i64 (x11 - r84)) + x10)) x10) >= (Int.tmod (IntKind.wrap .i64 ((IntKind.wrap .i64 (x11 - x8)) + x10)) x10))) = false ->
    F.xam.j2 Q (F.xam.l1 Q q1) x0 x4 x8 x10 x11 h83)) ∧
    (((y67 != 0)) = false ->
    nn x0 fun a103 =>
    ldL h (a103.add 0) fun y105 =>
    idxA y105 x8 3 fun a107 =>
    stH h a107 ((⟨0, (⟨#[]⟩ : ByteArray), none⟩ : S_table_place_chain_Chain_api_Agg).cells) fun h109 =>
    Q x4 true h109)
def F.xam (p0 : Option Addr) (p1 : ByteArray) (h : H) (Q : (Option Addr) -> Bool -> H -> Prop) : Prop :=
  F.xac p0 4 h fun r2 h1 =>
  nn p0 fun a3 =>
  ldL h1 (a3.add 1) fun y5 =>
  F.xag y5 p1 h1 fun r8 r9 h7 =>
  (r9 = true ->
  nn p0 fun a11 =>
  ldL h7 (a11.add 1) fun y13 =>
  idxA y13 r8 3 fun a15 =>
  ldP h7 (a15.add 2) fun y17 =>
  nn p0 fun a19 =>
  ldL h7 (a19.add 1) fun y21 =>
  idxA y21 r8 3 fun a23 =>
  stH h7 a23 ((⟨2, (⟨#[]⟩ : ByteArray), none⟩ : S_table_place_chain_Chain_api_Agg).cells) fun h25 =>
  nn p0 fun a26 =>
  ldI .i64 h25 (a26.add 3) fun y28 =>
  nn p0 fun a30 =>
  stH h25 (a30.add 3) [(.int .i64 (IntKind.wrap .i64 (y28 - 1)))] fun h32 =>
  Q y17 true h32) ∧
  (r9 = false ->
  nn p0 fun a33 =>
  ldL h7 (a33.add 0) fun y35 =>
  F.xag y35 p1 h7 fun r38 r39 h37 =>
  ((!r39) = true ->
  Q none false h37) ∧
  ((!r39) = false ->
  nn p0 fun a41 =>
  ldL h37 (a41.add 0) fun y43 =>
  idxA y43 r38 3 fun a45 =>
  ldP h37 (a45.add 2) fun y47 =>
  nn p0 fun a49 =>
  ldI .i64 h37 (a49.add 3) fun y51 =>
  nn p0 fun a53 =>
  stH h37 (a53.add 3) [(.int .i64 (IntKind.wrap .i64 (y51 - 1)))] fun h55 =>
  nn p0 fun a56 =>
  ldL h55 (a56.add 0) fun y58 =>
  ((y58.len : Int) : Int) ≠ 0 ∧
  ∃ m, F.xam.l1 Q m p0 y47 r38 (y58.len : Int) (Int.tmod (IntKind.wrap .i64 (r38 + 1)) (y58.len : Int)) h55))
theorem F.xam_ok {p0 : Option Addr} {p1 : ByteArray} {h : H} {Q : (Option Addr) -> Bool -> H -> Prop} (H : F.xam p0 p1 h Q) : Fn PP 62 ([(.pointer p0), (.string p1)] : List Value).toArray h fun r h' => ∃ r0 r1, r = .tuple #[(.pointer r0), (.bool r1)] ∧ Q r0 r1 h' := by
 unfold F.xam at H;refine fn_of Tryz.func62 Tryz.ntmps62 rfl rfl fun w0 => (tr_sub [(0, (.pointer p0)), (1, (.string p1))] ⟨rfl, rfl, trivial⟩ (tr_seq (tr_region (tq (y_assign rfl) (tq (y_assign rfl) (tr_nil (tr_thenN (tr_seq (tr_region (tq (y_move rfl) (tr_e (e_call Tryz.call101 rfl (F.xac_ok H)) rfl rfl ?_)))))))))));rintro _ h1 ⟨r2, rfl, H⟩;refine tr_nil (tr_thenN (tr_seq (tr_seq (tr_region (tq (y_move rfl) ?_)))));obtain ⟨a3, e4, H⟩ := H;refine tq (f_nn rfl e4) (tq (y_fa (off := 1) Tryz.runUnderlying148 fo_148_1 rfl) ?_);obtain ⟨y5, k6, H⟩ := H;refine tr_h (y_ld Tryz.isAgg146 rfl) k6 rfl rfl (tq (y_move rfl) (tr_e (e_call Tryz.call102 rfl (F.xag_ok H)) rfl rfl ?_));rintro _ h7 ⟨r8, r9, rfl, H⟩;refine tq (y_move rfl) (tq (y_ext rfl rfl) (tq (y_ext rfl rfl) (tq (y_assign rfl) (tq (y_assign rfl) (tr_nil (tr_thenN (tr_seq (tr_region (tq (y_move rfl) (tr_nil (tr_thenN ?_)))))))))));refine tr_cond rfl (fun g10 => ?_) (fun g10 => ?_)
 ·replace H := H.1 g10;refine tr_seq (tr_region (tq (y_move rfl) ?_));obtain ⟨a11, e12, H⟩ := H;refine tq (f_nn rfl e12) (tq (y_fa (off := 1) Tryz.runUnderlying148 fo_148_1 rfl) ?_);obtain ⟨y13, k14, H⟩ := H;refine tr_h (y_ld Tryz.isAgg146 rfl) k14 rfl rfl (tq (y_move rfl) ?_);obtain ⟨a15, e16, H⟩ := H;refine tq (f_idx (s := y13) Tryz.runUnderlying146 Tryz.sizeOf156 rfl rfl e16) (tq (y_fa (off := 2) Tryz.runUnderlying156 fo_156_2 rfl) ?_);obtain ⟨y17, k18, H⟩ := H;refine tr_h (y_ld Tryz.isAgg107 rfl) k18 rfl rfl (tq (y_assign rfl) (tr_nil (tr_thenN (tr_seq (tr_region (tq (y_move rfl) ?_))))));obtain ⟨a19, e20, H⟩ := H;refine tq (f_nn rfl e20) (tq (y_fa (off := 1) Tryz.runUnderlying148 fo_148_1 rfl) ?_);obtain ⟨y21, k22, H⟩ := H;refine tr_h (y_ld Tryz.isAgg146 rfl) k22 rfl rfl (tq (y_move rfl) (tq (f_build rfl (bd_156_0 2)) ?_));obtain ⟨a23, e24, H⟩ := H;refine tq (f_idx (s := y21) Tryz.runUnderlying146 Tryz.sizeOf156 rfl rfl e24) (tr_e (f_store (vs := (⟨2, (⟨#[]⟩ : ByteArray), none⟩ : S_table_place_chain_Chain_api_Agg).cells) Tryz.sizeOf156 rfl rfl cellsOfStruct rfl (by intro v hv; exact ones_S_table_place_chain_Chain_api_Agg _ v hv) H) rfl rfl ?_);rintro _ h25 ⟨rfl, H⟩;refine tr_nil (tr_thenN (tr_seq (tr_region (tq (y_move rfl) ?_))));obtain ⟨a26, e27, H⟩ := H;refine tq (f_nn rfl e27) (tq (y_fa (off := 3) Tryz.runUnderlying148 fo_148_3 rfl) ?_);obtain ⟨y28, k29, H⟩ := H;refine tr_h (y_ld Tryz.isAgg3 rfl) k29 rfl rfl (tq (y_sub rfl rfl) ?_);obtain ⟨a30, e31, H⟩ := H;refine tq (f_nn rfl e31) (tq (y_fa (off := 3) Tryz.runUnderlying148 fo_148_3 rfl) (tr_e (f_store (vs := [(.int .i64 (IntKind.wrap .i64 (y28 - 1)))]) Tryz.sizeOf3 rfl rfl rfl rfl (one1 rfl) H) rfl rfl ?_));rintro _ h32 ⟨rfl, H⟩;refine tr_nil (tr_thenN (tr_seq (tr_region (tq (y_move rfl) (tq (y_assign rfl) (tq (y_assign rfl) (tr_nil (tr_thenN (tr_ret (tr_thenR ?_))))))))));exact tr_ret2 rfl rfl rfl ⟨_, _, rfl, H⟩
 ·replace H := H.2 g10;refine tr_skip (tr_thenN (tr_seq (tr_region (tq (y_move rfl) ?_))));obtain ⟨a33, e34, H⟩ := H;refine tq (f_nn rfl e34) (tq (y_fa (off := 0) Tryz.runUnderlying148 fo_148_0 rfl) ?_);obtain ⟨y35, k36, H⟩ := H;refine tr_h (y_ld Tryz.isAgg146 rfl) k36 rfl rfl (tq (y_move rfl) (tr_e (e_call Tryz.call102 rfl (F.xag_ok H)) rfl rfl ?_));rintro _ h37 ⟨r38, r39, rfl, H⟩;refine tq (y_move rfl) (tq (y_ext rfl rfl) (tq (y_ext rfl rfl) (tq (y_assign rfl) (tq (y_assign rfl) (tr_nil (tr_thenN (tr_seq (tr_seq (tr_region (tq (y_move rfl) (tq (y_not rfl) (tr_nil (tr_thenN ?_)))))))))))));refine tr_cond rfl (fun g40 => ?_) (fun g40 => ?_)
  ·replace H := H.1 g40;refine tr_seq (tr_region (tq (y_move rfl) (tq (y_assign rfl) (tq (y_assign rfl) (tr_nil (tr_thenN (tr_ret (tr_thenR ?_))))))));exact tr_ret2 rfl rfl rfl ⟨_, _, rfl, H⟩
  ·replace H := H.2 g40;refine tr_skip (tr_thenN (tr_seq (tr_region (tq (y_move rfl) ?_))));obtain ⟨a41, e42, H⟩ := H;refine tq (f_nn rfl e42) (tq (y_fa (off := 0) Tryz.runUnderlying148 fo_148_0 rfl) ?_);obtain ⟨y43, k44, H⟩ := H;refine tr_h (y_ld Tryz.isAgg146 rfl) k44 rfl rfl (tq (y_move rfl) ?_);obtain ⟨a45, e46, H⟩ := H;refine tq (f_idx (s := y43) Tryz.runUnderlying146 Tryz.sizeOf156 rfl rfl e46) (tq (y_fa (off := 2) Tryz.runUnderlying156 fo_156_2 rfl) ?_);obtain ⟨y47, k48, H⟩ := H;refine tr_h (y_ld Tryz.isAgg107 rfl) k48 rfl rfl (tq (y_assign rfl) (tr_nil (tr_thenN (tr_seq (tr_region (tq (y_move rfl) ?_))))));obtain ⟨a49, e50, H⟩ := H;refine tq (f_nn rfl e50) (tq (y_fa (off := 3) Tryz.runUnderlying148 fo_148_3 rfl) ?_);obtain ⟨y51, k52, H⟩ := H;refine tr_h (y_ld Tryz.isAgg3 rfl) k52 rfl rfl (tq (y_sub rfl rfl) ?_);obtain ⟨a53, e54, H⟩ := H;refine tq (f_nn rfl e54) (tq (y_fa (off := 3) Tryz.runUnderlying148 fo_148_3 rfl) (tr_e (f_store (vs := [(.int .i64 (IntKind.wrap .i64 (y51 - 1)))]) Tryz.sizeOf3 rfl rfl rfl rfl (one1 rfl) H) rfl rfl ?_));rintro _ h55 ⟨rfl, H⟩;refine tr_nil (tr_thenN (tr_seq (tr_region (tq (y_move rfl) ?_))));obtain ⟨a56, e57, H⟩ := H;refine tq (f_nn rfl e57) (tq (y_fa (off := 0) Tryz.runUnderlying148 fo_148_0 rfl) ?_);obtain ⟨y58, k59, H⟩ := H;refine tr_h (y_ld Tryz.isAgg146 rfl) k59 rfl rfl (tq (y_len (ts := #[]) Tryz.runUnderlying146 (o := y58.ptr) (n := y58.len) (cap := y58.cap) rfl) (tq (y_assign rfl) (tr_nil (tr_thenN (tr_seq (tr_seq (tr_region (tq (y_move rfl) (tq (y_add rfl rfl) (tq (y_move rfl) ?_))))))))));obtain ⟨e60, H⟩ := H;refine tq (y_rem rfl rfl e60) (tq (y_assign rfl) (tr_nil (tr_thenN (tr_block ?_))));obtain ⟨m110, H⟩ := H;refine tr_sub [(0, (.pointer p0)), (4, (.pointer y47)), (8, (.int .i64 r38)), (10, (.int .i64 (y58.len : Int))), (11, (.int .i64 (Int.tmod (IntKind.wrap .i64 (r38 + 1)) (y58.len : Int))))] ⟨rfl, rfl, rfl, rfl, rfl, trivial⟩ ?_;refine tr_loop_j (fun m L' h => ∃ (x0 : Option Addr) (x4 : Option Addr) (x8 : Int) (x10 : Int) (x11 : Int), L' = [(0, (.pointer x0)), (4, (.pointer x4)), (8, (.int .i64 x8)), (10, (.int .i64 x10)), (11, (.int .i64 x11))] ∧ F.xam.l1 Q m x0 x4 x8 x10 x11 h) ?_ ?_ m110 ⟨_, _, _, _, _, rfl, H⟩
   ·rintro L' h ⟨_, _, _, _, _, _, H⟩; exact H
   ·rintro q1 L' h ⟨x0, x4, x8, x10, x11, rfl, H⟩;unfold F.xam.l1 at H;refine tr_seq (tr_seq (tr_region (tq (y_move rfl) ?_)));obtain ⟨a61, e62, H⟩ := H;refine tq (f_nn rfl e62) (tq (y_fa (off := 0) Tryz.runUnderlying148 fo_148_0 rfl) ?_);obtain ⟨y63, k64, H⟩ := H;refine tr_h (y_ld Tryz.isAgg146 rfl) k64 rfl rfl (tq (y_move rfl) ?_);obtain ⟨a65, e66, H⟩ := H;refine tq (f_idx (s := y63) Tryz.runUnderlying146 Tryz.sizeOf156 rfl rfl e66) (tq (y_fa (off := 0) Tryz.runUnderlying156 fo_156_0 rfl) ?_);obtain ⟨y67, k68, H⟩ := H;refine tr_h (y_ld Tryz.isAgg5 rfl) k68 rfl rfl (tq (y_neq rfl rfl) (tr_nil (tr_thenN ?_)));refine tr_cond rfl (fun g69 => ?_) (fun g69 => ?_)
    ·replace H := H.1 g69;refine tr_skip (tr_thenN ?_);refine tr_seq_j (fun L' h => ∃ (x0 : Option Addr) (x4 : Option Addr) (x8 : Int) (x10 : Int) (x11 : Int), L' = [(0, (.pointer x0)), (4, (.pointer x4)), (8, (.int .i64 x8)), (10, (.int .i64 x10)), (11, (.int .i64 x11))] ∧ F.xam.j2 Q (F.xam.l1 Q q1) x0 x4 x8 x10 x11 h) ?_ ?_
     ·rintro L' h ⟨x0, x4, x8, x10, x11, rfl, H⟩;unfold F.xam.j2 at H;refine tr_region (tq (y_move rfl) (tq (y_add rfl rfl) (tq (y_move rfl) ?_)));obtain ⟨e70, H⟩ := H;refine tq (y_rem rfl rfl e70) (tq (y_assign rfl) (tr_nil (tr_thenN ?_)));exact tr_join [(0, (.pointer x0)), (4, (.pointer x4)), (8, (.int .i64 x8)), (10, (.int .i64 x10)), (11, (.int .i64 (Int.tmod (IntKind.wrap .i64 (x11 + 1)) x10)))] ⟨rfl, rfl, rfl, rfl, rfl, trivial⟩ ⟨_, _, _, _, _, rfl, H⟩
     ·refine tr_block (tr_seq (tr_draw mixed [0, 1, 3, 7, 0, 16, 48, 112, 0, 496, 1008, 2032, 4095, 8191] (by kernel_rfl) (g_p 0 1 rfl (by kernel_rfl) (y_move rfl) rfl rfl ?_)));obtain ⟨a71, e72, H⟩ := H;refine g_p 1 3 rfl (by kernel_rfl) (f_nn rfl e72) rfl rfl (g_p 2 7 rfl (by kernel_rfl) (y_fa (off := 0) Tryz.runUnderlying148 fo_148_0 rfl) rfl rfl ?_);obtain ⟨y73, k74, H⟩ := H;refine g_h 3 15 rfl (by kernel_rfl) (y_ld Tryz.isAgg146 rfl) k74 rfl rfl (g_p 4 31 rfl (by kernel_rfl) (y_move rfl) rfl rfl ?_);obtain ⟨a75, e76, H⟩ := H;refine g_p 5 63 rfl (by kernel_rfl) (f_nn rfl e76) rfl rfl (g_p 6 127 rfl (by kernel_rfl) (y_fa (off := 0) Tryz.runUnderlying148 fo_148_0 rfl) rfl rfl ?_);obtain ⟨y77, k78, H⟩ := H;refine g_h 7 255 rfl (by kernel_rfl) (y_ld Tryz.isAgg146 rfl) k78 rfl rfl (g_p 8 511 rfl (by kernel_rfl) (y_move rfl) rfl rfl ?_);obtain ⟨a79, e80, H⟩ := H;refine g_p 9 1023 rfl (by kernel_rfl) (f_idx (s := y77) Tryz.runUnderlying146 Tryz.sizeOf156 rfl rfl e80) rfl rfl (g_p 10 2047 rfl (by kernel_rfl) (y_fa (off := 1) Tryz.runUnderlying156 fo_156_1 rfl) rfl rfl ?_);obtain ⟨y81, k82, H⟩ := H;refine g_h 11 4095 rfl (by kernel_rfl) (y_ld Tryz.isAgg9 rfl) k82 rfl rfl (g_e 12 8191 [] (by kernel_rfl) rfl (by kernel_rfl) (e_call Tryz.call103 rfl (F.xck_ok H)) rfl rfl ?_);rintro _ h83 ⟨r84, rfl, H⟩;refine ⟨trivial, ?_⟩;refine g_p 13 16383 rfl (by kernel_rfl) (y_assign rfl) rfl rfl (g_d (by kernel_rfl) (tr_thenN (tr_seq (tr_draw mixed [0, 0, 3, 0, 15, 0, 63, 0, 0, 384, 0, 1920, 0, 8064, 16383] (by kernel_rfl) (g_p 0 1 rfl (by kernel_rfl) (y_move rfl) rfl rfl (g_p 1 3 rfl (by kernel_rfl) (y_move rfl) rfl rfl (g_p 2 7 rfl (by kernel_rfl) (y_sub rfl rfl) rfl rfl (g_p 3 15 rfl (by kernel_rfl) (y_move rfl) rfl rfl (g_p 4 31 rfl (by kernel_rfl) (y_add rfl rfl) rfl rfl (g_p 5 63 rfl (by kernel_rfl) (y_move rfl) rfl rfl ?_))))))))));obtain ⟨e85, H⟩ := H;refine g_p 6 127 rfl (by kernel_rfl) (y_rem rfl rfl e85) rfl rfl (g_p 7 255 rfl (by kernel_rfl) (y_move rfl) rfl rfl (g_p 8 511 rfl (by kernel_rfl) (y_move rfl) rfl rfl (g_p 9 1023 rfl (by kernel_rfl) (y_sub rfl rfl) rfl rfl (g_p 10 2047 rfl (by kernel_rfl) (y_move rfl) rfl rfl (g_p 11 4095 rfl (by kernel_rfl) (y_add rfl rfl) rfl rfl (g_p 12 8191 rfl (by kernel_rfl) (y_move rfl) rfl rfl ?_))))));obtain ⟨e86, H⟩ := H;refine g_p 13 16383 rfl (by kernel_rfl) (y_rem rfl rfl e86) rfl rfl (g_p 14 32767 rfl (by kernel_rfl) (y_geq rfl rfl) rfl rfl (g_d (by kernel_rfl) (tr_thenN ?_)));refine tr_cond rfl (fun g87 => ?_) (fun g87 => ?_)
      ·replace H := H.1 g87;refine tr_draw mixed [0, 1, 3, 7, 0, 0, 32, 96, 224, 0, 992, 2016, 0, 4095, 12287, 32767] (by kernel_rfl) (g_p 0 1 rfl (by kernel_rfl) (y_move rfl) rfl rfl ?_);obtain ⟨a88, e89, H⟩ := H;refine g_p 1 3 rfl (by kernel_rfl) (f_nn rfl e89) rfl rfl (g_p 2 7 rfl (by kernel_rfl) (y_fa (off := 0) Tryz.runUnderlying148 fo_148_0 rfl) rfl rfl ?_);obtain ⟨y90, k91, H⟩ := H;refine g_h 3 15 rfl (by kernel_rfl) (y_ld Tryz.isAgg146 rfl) k91 rfl rfl (g_p 4 31 rfl (by kernel_rfl) (y_move rfl) rfl rfl (g_p 5 63 rfl (by kernel_rfl) (y_move rfl) rfl rfl ?_));obtain ⟨a92, e93, H⟩ := H;refine g_p 6 127 rfl (by kernel_rfl) (f_nn rfl e93) rfl rfl (g_p 7 255 rfl (by kernel_rfl) (y_fa (off := 0) Tryz.runUnderlying148 fo_148_0 rfl) rfl rfl ?_);obtain ⟨y94, k95, H⟩ := H;refine g_h 8 511 rfl (by kernel_rfl) (y_ld Tryz.isAgg146 rfl) k95 rfl rfl (g_p 9 1023 rfl (by kernel_rfl) (y_move rfl) rfl rfl ?_);obtain ⟨a96, e97, H⟩ := H;refine g_p 10 2047 rfl (by kernel_rfl) (f_idx (s := y94) Tryz.runUnderlying146 Tryz.sizeOf156 rfl rfl e97) rfl rfl ?_;obtain ⟨y98, k99, H⟩ := H;refine g_h 11 4095 rfl (by kernel_rfl) (y_ldS Tryz.isAgg156 Tryz.sizeOf156 rfl rfl) k99 rfl rfl (g_p 12 8191 rfl (by kernel_rfl) (y_move rfl) rfl rfl ?_);obtain ⟨a100, e101, H⟩ := H;refine g_p 13 16383 rfl (by kernel_rfl) (f_idx (s := y90) Tryz.runUnderlying146 Tryz.sizeOf156 rfl rfl e101) rfl rfl (g_e 14 32767 [] (by kernel_rfl) rfl (by kernel_rfl) (f_store (vs := y98.cells) Tryz.sizeOf156 rfl rfl cellsOfStruct rfl (by intro v hv; exact ones_S_table_place_chain_Chain_api_Agg _ v hv) H) rfl rfl ?_);rintro _ h102 ⟨rfl, H⟩;refine ⟨trivial, ?_⟩;refine g_e 15 65535 [] (by kernel_rfl) rfl (by kernel_rfl) (yp_ev (y_assign rfl)) rfl rfl ?_;rintro _ _ ⟨rfl, rfl⟩;refine ⟨trivial, ?_⟩;refine g_d (by kernel_rfl) (tr_blockN (tr_thenN ?_));exact tr_join [(0, (.pointer x0)), (4, (.pointer x4)), (8, (.int .i64 x11)), (10, (.int .i64 x10)), (11, (.int .i64 x11))] ⟨rfl, rfl, rfl, rfl, rfl, trivial⟩ ⟨_, _, _, _, _, rfl, H⟩
      ·replace H := H.2 g87;refine tr_skip (tr_blockN (tr_thenN ?_));exact tr_join [(0, (.pointer x0)), (4, (.pointer x4)), (8, (.int .i64 x8)), (10, (.int .i64 x10)), (11, (.int .i64 x11))] ⟨rfl, rfl, rfl, rfl, rfl, trivial⟩ ⟨_, _, _, _, _, rfl, H⟩
    ·replace H := H.2 g69;refine tr_exit (tr_thenE (tr_thenE (tr_hit (tr_thenN (tr_seq (tr_region (tq (y_move rfl) ?_)))))));obtain ⟨a103, e104, H⟩ := H;refine tq (f_nn rfl e104) (tq (y_fa (off := 0) Tryz.runUnderlying148 fo_148_0 rfl) ?_);obtain ⟨y105, k106, H⟩ := H;refine tr_h (y_ld Tryz.isAgg146 rfl) k106 rfl rfl (tq (y_move rfl) (tq (f_build rfl (bd_156_ )) ?_));obtain ⟨a107, e108, H⟩ := H;refine tq (f_idx (s := y105) Tryz.runUnderlying146 Tryz.sizeOf156 rfl rfl e108) (tr_e (f_store (vs := (⟨0, (⟨#[]⟩ : ByteArray), none⟩ : S_table_place_chain_Chain_api_Agg).cells) Tryz.sizeOf156 rfl rfl cellsOfStruct rfl (by intro v hv; exact ones_S_table_place_chain_Chain_api_Agg _ v hv) H) rfl rfl ?_);rintro _ h109 ⟨rfl, H⟩;refine tr_nil (tr_thenN (tr_seq (tr_region (tq (y_move rfl) (tq (y_assign rfl) (tq (y_assign rfl) (tr_nil (tr_thenN (tr_ret ?_)))))))));exact tr_ret2 rfl rfl rfl ⟨_, _, rfl, H⟩
def F.xay.l1 (Q : Int -> H -> Prop) : Nat -> List Nat -> (Option Addr) -> Addr -> Sl -> Int -> Int -> H -> Prop
  | 0, _, _, _, _, _, _, _ => False
  | q1 + 1, ds, x0, x5, x30, x31, x32, h =>
    ((decide (x32 < x31)) = true ->
    idxA x30 x32 1 fun a37 =>
    ldS h a37 fun y39 =>
    nn x0 fun a41 =>
    ldP h (a41.add 3) fun y43 =>
    F.xam y43 y39 h fun r46 r47 h45 =>
    (F.xay.l1 Q q1) ds x0 x5 x30 x31 (IntKind.wrap .i64 (x32 + 1)) h45) ∧
    ((decide (x32 < x31)) = false ->
    nn x0 fun a48 =>
    ldI .i64 h ((a48.add 0).add 0) fun y50 =>
    ldI .i64 h x5 fun y52 =>
    nn x0 fun a54 =>
    stH h ((a54.add 0).add 0) [(.int .i64 (IntKind.wrap .i64 (y50 - y52)))] fun h56 =>
    ldI .i64 h56 x5 fun y57 =>
    shuts ds h56 fun h59 =>
    Q y57 h59)
def F.xay (p0 : Option Addr) (p1 : Sl) (h : H) (Q : Int -> H -> Prop) : Prop :=
  new h #[p1.enc] ty_42 fun a2 h1 =>
  new h1 #[(.int .i64 0)] ty_3 fun a4 h3 =>
  stH h3 a4 [(.int .i64 0)] fun h5 =>
  new h5 #[(⟨none, 0, 0⟩ : Sl).enc] ty_22 fun a7 h6 =>
  nn p0 fun a8 =>
  ldP h6 (a8.add 3) fun y10 =>
  F.xad y10 h6 fun r13 h12 =>
  rng PP r13 h12 [] (fun bg1 l1 args h K1 J1 => ∃ (y1_16 : ByteArray), ∃ (y1_17 : Option Addr), args = [(.string y1_16), (.pointer y1_17)] ∧
    bg1 h fun h14 =>
    ldI .i64 h14 a4 fun y15 =>
    ldL h14 a2 fun y17 =>
    F.xah y1_17 y17 h14 fun r20 h19 =>
    cellH h19 a4 = some (.int .i64 y15) ∧
    stH h19 a4 [(.int .i64 (IntKind.wrap .i64 (y15 + r20)))] fun h22 =>
    F.xcg y1_17 h22 fun r24 h23 =>
    (((r24 == 0)) = true ->
    ldL h23 a7 fun y26 =>
    newL h23 #[(.string y1_16)] ty_9 1 fun s29 h28 =>
    runL PP (Builtin.append_ #[22, 22] 22 #[y26.enc, s29.enc]) h28 fun s31 h30 =>
    stH h30 a7 [s31.enc] fun h32 =>
    K1 h32) ∧
    (((r24 == 0)) = false ->
    K1 h23)) (fun h33 =>
    ldL h33 a7 fun y34 =>
    ∃ m, F.xay.l1 Q m (h12.size :: ([] : List Nat)) p0 a4 y34 (y34.len : Int) 0 h33) (fun jj h61 =>
    True)
theorem F.xay_ok {p0 : Option Addr} {p1 : Sl} {h : H} {Q : Int -> H -> Prop} (H : F.xay p0 p1 h Q) : Fn PP 29 ([(.pointer p0), p1.enc] : List Value).toArray h fun r h' => ∃ r0, r = (.int .i64 r0) ∧ Q r0 h' := by
 unfold F.xay at H;refine fn_ofM Tryz.func29 Tryz.ntmps29 rfl rfl fun w0 => (tr_sub [(0, (.pointer p0)), (1, p1.enc)] ⟨rfl, rfl, trivial⟩ (tr_seq (tr_region (tr_e (f_box (cs := #[p1.enc]) rfl rfl H) rfl rfl ?_))));rintro _ h1 ⟨a2, rfl, H⟩;refine tq (y_assign rfl) (tr_nil (tr_thenN (tr_seq (tr_region (tr_e (f_alloc (cs := #[(.int .i64 0)]) Tryz.zeroValue3 rfl H) rfl rfl ?_)))));rintro _ h3 ⟨a4, rfl, H⟩;refine tr_e (f_store (vs := [(.int .i64 0)]) Tryz.sizeOf3 rfl rfl rfl rfl (one1 rfl) H) rfl rfl ?_;rintro _ h5 ⟨rfl, H⟩;refine tr_nil (tr_thenN (tr_seq (tr_region (tr_e (f_alloc (cs := #[(⟨none, 0, 0⟩ : Sl).enc]) Tryz.zeroValue22 rfl H) rfl rfl ?_))));rintro _ h6 ⟨a7, rfl, H⟩;refine tr_nil (tr_thenN (tr_seq (tr_seq (tr_region (tq (y_move rfl) ?_)))));obtain ⟨a8, e9, H⟩ := H;refine tq (f_nn rfl e9) (tq (y_fa (off := 3) Tryz.runUnderlying74 fo_74_1 rfl) ?_);obtain ⟨y10, k11, H⟩ := H;refine tr_h (y_ld Tryz.isAgg72 rfl) k11 rfl rfl (tr_e (e_call Tryz.call59 rfl (F.xad_ok H)) rfl rfl ?_);rintro r13 h12 ⟨_, rfl, H⟩;refine tr_nil (tr_thenN (tr_block ?_));refine tr_range rfl (by kernel_rfl) H ?_ ?_ ?_
 ·intro bg1 l1 args h K1 J1 w1 hbg1 H;obtain ⟨y1_16, y1_17, rfl, H⟩ := H;refine ⟨rfl, ?_⟩;refine tr_sub [(0, (.pointer p0)), (1, p1.enc), (3, (.pointer (some a2))), (4, (.int .i64 0)), (5, (.pointer (some a4))), (6, (.pointer (some a7))), (11, (.pointer p0)), (12, (.pointer (some a8))), (13, (.pointer (some (a8.add 3)))), (14, (.pointer y10)), (15, r13), (16, (.string y1_16)), (17, (.pointer y1_17))] ⟨rfl, rfl, rfl, rfl, rfl, rfl, rfl, rfl, rfl, rfl, rfl, rfl, rfl, trivial⟩ (tr_seq (tr_region (tq (y_assign rfl) (tr_nil (tr_thenN (tr_region (tq (y_assign rfl) (tr_nil (tr_thenN (tr_bgn hbg1 H fun h14 H => (tr_block (tr_seq (tr_draw mixed [0, 0, 0, 6, 15, 31] (by kernel_rfl) ?_)))))))))))));obtain ⟨y15, k16, H⟩ := H;refine g_h 0 1 rfl (by kernel_rfl) (y_ld Tryz.isAgg3 rfl) k16 rfl rfl (g_p 1 3 rfl (by kernel_rfl) (y_move rfl) rfl rfl ?_);obtain ⟨y17, k18, H⟩ := H;refine g_h 2 7 rfl (by kernel_rfl) (y_ld Tryz.isAgg42 rfl) k18 rfl rfl (g_e 3 15 [(0, fun h => cellH h a4 = some (.int .i64 y15))] (by kernel_rfl) rfl (by kernel_rfl) (e_call Tryz.call60 rfl (F.xah_ok H)) rfl rfl ?_);rintro _ h19 ⟨r20, rfl, H⟩;obtain ⟨k21, H⟩ := H;refine ⟨And.intro k21 trivial, ?_⟩;refine g_p 4 31 rfl (by kernel_rfl) (y_add rfl rfl) rfl rfl (g_e 5 63 [] (by kernel_rfl) rfl (by kernel_rfl) (f_store (vs := [(.int .i64 (IntKind.wrap .i64 (y15 + r20)))]) Tryz.sizeOf3 rfl rfl rfl rfl (one1 rfl) H) rfl rfl ?_);rintro _ h22 ⟨rfl, H⟩;refine ⟨trivial, ?_⟩;refine g_d (by kernel_rfl) (tr_thenN (tr_seq (tr_region (tq (y_move rfl) (tr_e (e_call Tryz.call61 rfl (F.xcg_ok H)) rfl rfl ?_)))));rintro _ h23 ⟨r24, rfl, H⟩;refine tq (y_eql rfl rfl) (tr_nil (tr_thenN ?_));refine tr_cond rfl (fun g25 => ?_) (fun g25 => ?_)
  ·replace H := H.1 g25;refine tr_region ?_;obtain ⟨y26, k27, H⟩ := H;refine tr_h (y_ld Tryz.isAgg22 rfl) k27 rfl rfl (tq (y_move rfl) (tr_e (f_buildL (cs := #[(.string y1_16)]) rfl rfl (bl_22_1_0 y1_16) H) rfl rfl ?_));rintro _ h28 ⟨s29, rfl, H⟩;refine tr_e (f_app rfl H) rfl rfl ?_;rintro _ h30 ⟨s31, rfl, H⟩;refine tr_e (f_store (vs := [s31.enc]) Tryz.sizeOf22 rfl rfl rfl rfl (one1 rfl) H) rfl rfl ?_;rintro _ h32 ⟨rfl, H⟩;refine tr_nil (tr_blockN ?_);exact tr_rN H
  ·replace H := H.2 g25;refine tr_skip (tr_blockN ?_);exact tr_rN H
 ·intro h33 H;refine tr_blockN (tr_thenN (tr_seq (tr_seq (tr_region ?_))));obtain ⟨y34, k35, H⟩ := H;refine tr_h (y_ld Tryz.isAgg22 rfl) k35 rfl rfl (tq (y_len (ts := #[]) Tryz.runUnderlying22 (o := y34.ptr) (n := y34.len) (cap := y34.cap) rfl) (tq (y_move rfl) (tr_nil (tr_thenN (tr_block ?_)))));obtain ⟨m60, H⟩ := H;refine tr_sub [(0, (.pointer p0)), (5, (.pointer (some a4))), (30, y34.enc), (31, (.int .i64 (y34.len : Int))), (32, (.int .i64 0))] ⟨rfl, rfl, rfl, rfl, rfl, trivial⟩ ?_;refine tr_loop_jD (fun m ds L' h => ∃ (x0 : Option Addr) (x5 : Addr) (x30 : Sl) (x31 : Int) (x32 : Int), L' = [(0, (.pointer x0)), (5, (.pointer (some x5))), (30, x30.enc), (31, (.int .i64 x31)), (32, (.int .i64 x32))] ∧ F.xay.l1 Q m ds x0 x5 x30 x31 x32 h) ?_ ?_ m60 (h12.size :: ([] : List Nat)) rfl ⟨_, _, _, _, _, rfl, H⟩
  ·rintro ds L' h ⟨_, _, _, _, _, _, H⟩; exact H
  ·rintro q1 ds L' h ⟨x0, x5, x30, x31, x32, rfl, H⟩;unfold F.xay.l1 at H;refine tr_seq (tr_region (tq (y_lss rfl rfl) (tr_nil (tr_thenN (tr_seq ?_)))));refine tr_cond rfl (fun g36 => ?_) (fun g36 => ?_)
   ·replace H := H.1 g36;refine tr_skip (tr_thenN (tr_seq (tr_block (tr_seq (tr_region ?_)))));obtain ⟨a37, e38, H⟩ := H;refine tq (f_idx (s := x30) Tryz.runUnderlying22 Tryz.sizeOf9 rfl rfl e38) ?_;obtain ⟨y39, k40, H⟩ := H;refine tr_h (y_ld Tryz.isAgg9 rfl) k40 rfl rfl (tq (y_assign rfl) (tr_nil (tr_thenN (tr_region (tq (y_move rfl) ?_)))));obtain ⟨a41, e42, H⟩ := H;refine tq (f_nn rfl e42) (tq (y_fa (off := 3) Tryz.runUnderlying74 fo_74_1 rfl) ?_);obtain ⟨y43, k44, H⟩ := H;refine tr_h (y_ld Tryz.isAgg72 rfl) k44 rfl rfl (tq (y_move rfl) (tr_e (e_call Tryz.call62 rfl (F.xam_ok H)) rfl rfl ?_));rintro _ h45 ⟨r46, r47, rfl, H⟩;refine tr_nil (tr_blockN (tr_thenN (tr_region (tq (y_add rfl rfl) (tq (y_move rfl) (tr_nil (tr_thenN ?_)))))));exact tr_joinD ds [(0, (.pointer x0)), (5, (.pointer (some x5))), (30, x30.enc), (31, (.int .i64 x31)), (32, (.int .i64 (IntKind.wrap .i64 (x32 + 1))))] rfl ⟨rfl, rfl, rfl, rfl, rfl, trivial⟩ ⟨_, _, _, _, _, rfl, H⟩
   ·replace H := H.2 g36;refine tr_exit (tr_thenE (tr_thenE (tr_hit (tr_thenN (tr_seq (tr_draw mixed [0, 1, 3, 7, 15, 0, 63, 127, 255, 511, 1023] (by kernel_rfl) (g_p 0 1 rfl (by kernel_rfl) (y_move rfl) rfl rfl ?_)))))));obtain ⟨a48, e49, H⟩ := H;refine g_p 1 3 rfl (by kernel_rfl) (f_nn rfl e49) rfl rfl (g_p 2 7 rfl (by kernel_rfl) (y_fa (off := 0) Tryz.runUnderlying74 fo_74_0 rfl) rfl rfl (g_p 3 15 rfl (by kernel_rfl) (y_fa (off := 0) Tryz.runUnderlying71 fo_71_0 rfl) rfl rfl ?_));obtain ⟨y50, k51, H⟩ := H;refine g_h 4 31 rfl (by kernel_rfl) (y_ld Tryz.isAgg3 rfl) k51 rfl rfl ?_;obtain ⟨y52, k53, H⟩ := H;refine g_h 5 63 rfl (by kernel_rfl) (y_ld Tryz.isAgg3 rfl) k53 rfl rfl (g_p 6 127 rfl (by kernel_rfl) (y_sub rfl rfl) rfl rfl ?_);obtain ⟨a54, e55, H⟩ := H;refine g_p 7 255 rfl (by kernel_rfl) (f_nn rfl e55) rfl rfl (g_p 8 511 rfl (by kernel_rfl) (y_fa (off := 0) Tryz.runUnderlying74 fo_74_0 rfl) rfl rfl (g_p 9 1023 rfl (by kernel_rfl) (y_fa (off := 0) Tryz.runUnderlying71 fo_71_0 rfl) rfl rfl (g_e 10 2047 [] (by kernel_rfl) rfl (by kernel_rfl) (f_store (vs := [(.int .i64 (IntKind.wrap .i64 (y50 - y52)))]) Tryz.sizeOf3 rfl rfl rfl rfl (one1 rfl) H) rfl rfl ?_)));rintro _ h56 ⟨rfl, H⟩;refine ⟨trivial, ?_⟩;refine g_d (by kernel_rfl) (tr_thenN (tr_seq (tr_region ?_)));obtain ⟨y57, k58, H⟩ := H;refine tr_h (y_ld Tryz.isAgg3 rfl) k58 rfl rfl (tq (y_assign rfl) (tr_nil (tr_thenN (tr_ret (tr_shut ds rfl H fun h59 H => ?_)))));exact tr_ret1 rfl rfl ⟨_, rfl, H⟩
 ·intro jj c h61 hjc H;simp at hjc
def F.xde (p0 : Option Addr) (p1 : Int) (p2 : Sl) (h : H) (Q : Int -> H -> Prop) : Prop :=
  F.xci p0 p1 h fun r2 h1 =>
  ((!r2) = true ->
  Q 0 h1) ∧
  ((!r2) = false ->
  nn p0 fun a4 =>
  ldL h1 (a4.add 0) fun y6 =>
  idxA y6 p1 1 fun a8 =>
  ldP h1 a8 fun y10 =>
  F.xay y10 p2 h1 fun r13 h12 =>
  Q r13 h12)
theorem F.xde_ok {p0 : Option Addr} {p1 : Int} {p2 : Sl} {h : H} {Q : Int -> H -> Prop} (H : F.xde p0 p1 p2 h Q) : Fn PP 28 ([(.pointer p0), (.int .i64 p1), p2.enc] : List Value).toArray h fun r h' => ∃ r0, r = (.int .i64 r0) ∧ Q r0 h' := by
 unfold F.xde at H;refine fn_of Tryz.func28 Tryz.ntmps28 rfl rfl fun w0 => (tr_sub [(0, (.pointer p0)), (1, (.int .i64 p1)), (2, p2.enc)] ⟨rfl, rfl, rfl, trivial⟩ (tr_seq (tr_region (tq (y_assign rfl) (tr_nil (tr_thenN (tr_seq (tr_seq (tr_region (tq (y_move rfl) (tq (y_move rfl) (tr_e (e_call Tryz.call51 rfl (F.xci_ok H)) rfl rfl ?_))))))))))));rintro _ h1 ⟨r2, rfl, H⟩;refine tq (y_not rfl) (tr_nil (tr_thenN ?_));refine tr_cond rfl (fun g3 => ?_) (fun g3 => ?_)
 ·replace H := H.1 g3;refine tr_seq (tr_region (tq (y_assign rfl) (tr_nil (tr_thenN (tr_ret (tr_thenR ?_))))));exact tr_ret1 rfl rfl ⟨_, rfl, H⟩
 ·replace H := H.2 g3;refine tr_skip (tr_thenN (tr_seq (tr_region (tq (y_move rfl) ?_))));obtain ⟨a4, e5, H⟩ := H;refine tq (f_nn rfl e5) (tq (y_fa (off := 0) Tryz.runUnderlying83 fo_83_0 rfl) ?_);obtain ⟨y6, k7, H⟩ := H;refine tr_h (y_ld Tryz.isAgg81 rfl) k7 rfl rfl (tq (y_move rfl) ?_);obtain ⟨a8, e9, H⟩ := H;refine tq (f_idx (s := y6) Tryz.runUnderlying81 Tryz.sizeOf64 rfl rfl e9) ?_;obtain ⟨y10, k11, H⟩ := H;refine tr_h (y_ld Tryz.isAgg64 rfl) k11 rfl rfl (tq (y_move rfl) (tr_e (e_call Tryz.call29 rfl (F.xay_ok H)) rfl rfl ?_));rintro _ h12 ⟨r13, rfl, H⟩;refine tq (y_assign rfl) (tr_nil (tr_thenN (tr_ret ?_)));exact tr_ret1 rfl rfl ⟨_, rfl, H⟩
def F.xcz (p0 : Option Addr) (p1 : S_api_Cell) (p2 : Int) (h : H) (Q : S_api_Agg -> H -> Prop) : Prop :=
  new h p1.cells.toArray ty_35 fun a2 h1 =>
  new h1 (((⟨0, 0, 0, 0⟩ : S_api_Agg) : S_api_Agg).cells.toArray) ty_40 fun a4 h3 =>
  ld_S_api_Cell h3 a2 fun y5 =>
  ld_S_api_Cell h3 a2 fun y7 =>
  F.xbu p0 y5 h3 fun r10 h9 =>
  Cells h9 a2 y7.cells ∧
  F.xcb r10 y7 p2 h9 fun r13 h12 =>
  stH h12 a4 r13.cells fun h14 =>
  ld_S_api_Agg h14 a4 fun y15 =>
  Q y15 h14
theorem F.xcz_ok {p0 : Option Addr} {p1 : S_api_Cell} {p2 : Int} {h : H} {Q : S_api_Agg -> H -> Prop} (H : F.xcz p0 p1 p2 h Q) : Fn PP 37 ([(.pointer p0), (.agg p1.cells.toArray), (.int .i64 p2)] : List Value).toArray h fun r h' => ∃ r0, r = (.agg r0.cells.toArray) ∧ Q r0 h' := by
 unfold F.xcz at H;refine fn_of Tryz.func37 Tryz.ntmps37 rfl rfl fun w0 => (tr_sub [(0, (.pointer p0)), (1, (.agg p1.cells.toArray)), (2, (.int .i64 p2))] ⟨rfl, rfl, rfl, trivial⟩ (tr_seq (tr_region (tr_e (f_box (cs := p1.cells.toArray) rfl rfl H) rfl rfl ?_))));rintro _ h1 ⟨a2, rfl, H⟩;refine tr_e (f_alloc (cs := ((⟨0, 0, 0, 0⟩ : S_api_Agg) : S_api_Agg).cells.toArray) Tryz.zeroValue40 rfl H) rfl rfl ?_;rintro _ h3 ⟨a4, rfl, H⟩;refine tr_nil (tr_thenN (tr_seq (tr_draw mixed [0, 0, 3, 0, 0, 31, 63] (by kernel_rfl) (g_p 0 1 rfl (by kernel_rfl) (y_move rfl) rfl rfl ?_))));obtain ⟨y5, k6, H⟩ := H;refine g_h 1 3 rfl (by kernel_rfl) (y_ldS Tryz.isAgg35 Tryz.sizeOf35 rfl rfl) k6 rfl rfl ?_;obtain ⟨y7, k8, H⟩ := H;refine g_h 3 11 rfl (by kernel_rfl) (y_ldS Tryz.isAgg35 Tryz.sizeOf35 rfl rfl) k8 rfl rfl (g_p 4 27 rfl (by kernel_rfl) (y_move rfl) rfl rfl (g_e 2 31 [(3, fun h => Cells h a2 y7.cells)] (by kernel_rfl) rfl (by kernel_rfl) (e_call Tryz.call46 rfl (F.xbu_ok H)) rfl rfl ?_));rintro _ h9 ⟨r10, rfl, H⟩;obtain ⟨k11, H⟩ := H;refine ⟨And.intro k11 trivial, ?_⟩;refine g_e 5 63 [] (by kernel_rfl) rfl (by kernel_rfl) (e_call Tryz.call38 rfl (F.xcb_ok H)) rfl rfl ?_;rintro _ h12 ⟨r13, rfl, H⟩;refine ⟨trivial, ?_⟩;refine g_e 6 127 [] (by kernel_rfl) rfl (by kernel_rfl) (f_store (vs := r13.cells) Tryz.sizeOf40 rfl rfl cellsOfStruct rfl (by intro v hv; exact ones_S_api_Agg _ v hv) H) rfl rfl ?_;rintro _ h14 ⟨rfl, H⟩;refine ⟨trivial, ?_⟩;refine g_d (by kernel_rfl) (tr_thenN (tr_ret ?_));obtain ⟨y15, k16, H⟩ := H;exact tr_rv1 rfl (rv_cellS Tryz.isAgg40 Tryz.sizeOf40 rfl rfl k16) ⟨_, rfl, H⟩
def F.xco (p0 : Option Addr) (h : H) (Q : Int -> H -> Prop) : Prop :=
  nn p0 fun a1 =>
  ldI .i64 h (a1.add 1) fun y3 =>
  Q y3 h
theorem F.xco_ok {p0 : Option Addr} {h : H} {Q : Int -> H -> Prop} (H : F.xco p0 h Q) : Fn PP 33 ([(.pointer p0)] : List Value).toArray h fun r h' => ∃ r0, r = (.int .i64 r0) ∧ Q r0 h' := by
 unfold F.xco at H;refine fn_of Tryz.func33 Tryz.ntmps33 rfl rfl fun w0 => (tr_sub [(0, (.pointer p0))] ⟨rfl, trivial⟩ (tr_seq (tr_region (tq (y_assign rfl) (tr_nil (tr_thenN (tr_seq (tr_region (tq (y_move rfl) ?_)))))))));obtain ⟨a1, e2, H⟩ := H;refine tq (f_nn rfl e2) (tq (y_fa (off := 1) Tryz.runUnderlying71 fo_71_1 rfl) ?_);obtain ⟨y3, k4, H⟩ := H;refine tr_h (y_ld Tryz.isAgg3 rfl) k4 rfl rfl (tq (y_assign rfl) (tr_nil (tr_thenN (tr_ret ?_))));exact tr_ret1 rfl rfl ⟨_, rfl, H⟩
def F.xbp.l1 (Q : Int -> H -> Prop) : Nat -> Int -> Sl -> Int -> Int -> H -> Prop
  | 0, _, _, _, _, _ => False
  | q1 + 1, x3, x9, x10, x11, h =>
    ((decide (x11 < x10)) = true ->
    idxA x9 x11 1 fun a6 =>
    ldP h a6 fun y8 =>
    nn y8 fun a10 =>
    F.xco (some (a10.add 0)) h fun r13 h12 =>
    (F.xbp.l1 Q q1) (IntKind.wrap .i64 (x3 + r13)) x9 x10 (IntKind.wrap .i64 (x11 + 1)) h12) ∧
    ((decide (x11 < x10)) = false ->
    Q x3 h)
def F.xbp (p0 : Option Addr) (h : H) (Q : Int -> H -> Prop) : Prop :=
  nn p0 fun a1 =>
  ldL h (a1.add 0) fun y3 =>
  ∃ m, F.xbp.l1 Q m 0 y3 (y3.len : Int) 0 h
theorem F.xbp_ok {p0 : Option Addr} {h : H} {Q : Int -> H -> Prop} (H : F.xbp p0 h Q) : Fn PP 32 ([(.pointer p0)] : List Value).toArray h fun r h' => ∃ r0, r = (.int .i64 r0) ∧ Q r0 h' := by
 unfold F.xbp at H;refine fn_of Tryz.func32 Tryz.ntmps32 rfl rfl fun w0 => (tr_sub [(0, (.pointer p0))] ⟨rfl, trivial⟩ (tr_seq (tr_region (tq (y_assign rfl) (tr_nil (tr_thenN (tr_seq (tr_region (tq (y_assign rfl) (tr_nil (tr_thenN (tr_seq (tr_seq ?_)))))))))))));refine tr_region (tq (y_move rfl) ?_);obtain ⟨a1, e2, H⟩ := H;refine tq (f_nn rfl e2) (tq (y_fa (off := 0) Tryz.runUnderlying83 fo_83_0 rfl) ?_);obtain ⟨y3, k4, H⟩ := H;refine tr_h (y_ld Tryz.isAgg81 rfl) k4 rfl rfl (tq (y_len (ts := #[]) Tryz.runUnderlying81 (o := y3.ptr) (n := y3.len) (cap := y3.cap) rfl) (tq (y_move rfl) (tr_nil (tr_thenN (tr_block ?_)))));obtain ⟨m14, H⟩ := H;refine tr_sub [(3, (.int .i64 0)), (9, y3.enc), (10, (.int .i64 (y3.len : Int))), (11, (.int .i64 0))] ⟨rfl, rfl, rfl, rfl, trivial⟩ ?_;refine tr_loop_j (fun m L' h => ∃ (x3 : Int) (x9 : Sl) (x10 : Int) (x11 : Int), L' = [(3, (.int .i64 x3)), (9, x9.enc), (10, (.int .i64 x10)), (11, (.int .i64 x11))] ∧ F.xbp.l1 Q m x3 x9 x10 x11 h) ?_ ?_ m14 ⟨_, _, _, _, rfl, H⟩
 ·rintro L' h ⟨_, _, _, _, _, H⟩; exact H
 ·rintro q1 L' h ⟨x3, x9, x10, x11, rfl, H⟩;unfold F.xbp.l1 at H;refine tr_seq (tr_region (tq (y_lss rfl rfl) (tr_nil (tr_thenN (tr_seq ?_)))));refine tr_cond rfl (fun g5 => ?_) (fun g5 => ?_)
  ·replace H := H.1 g5;refine tr_skip (tr_thenN (tr_seq (tr_block (tr_seq (tr_region ?_)))));obtain ⟨a6, e7, H⟩ := H;refine tq (f_idx (s := x9) Tryz.runUnderlying81 Tryz.sizeOf64 rfl rfl e7) ?_;obtain ⟨y8, k9, H⟩ := H;refine tr_h (y_ld Tryz.isAgg64 rfl) k9 rfl rfl (tq (y_assign rfl) (tr_nil (tr_thenN (tr_region (tq (y_move rfl) (tq (y_move rfl) ?_))))));obtain ⟨a10, e11, H⟩ := H;refine tq (f_nn rfl e11) (tq (y_fa (off := 0) Tryz.runUnderlying74 fo_74_0 rfl) (tr_e (e_call Tryz.call33 rfl (F.xco_ok H)) rfl rfl ?_));rintro _ h12 ⟨r13, rfl, H⟩;refine tq (y_add rfl rfl) (tq (y_assign rfl) (tr_nil (tr_blockN (tr_thenN (tr_region (tq (y_add rfl rfl) (tq (y_move rfl) (tr_nil (tr_thenN ?_)))))))));exact tr_join [(3, (.int .i64 (IntKind.wrap .i64 (x3 + r13)))), (9, x9.enc), (10, (.int .i64 x10)), (11, (.int .i64 (IntKind.wrap .i64 (x11 + 1))))] ⟨rfl, rfl, rfl, rfl, trivial⟩ ⟨_, _, _, _, rfl, H⟩
  ·replace H := H.2 g5;refine tr_exit (tr_thenE (tr_thenE (tr_hit (tr_thenN (tr_seq (tr_region (tq (y_move rfl) (tq (y_assign rfl) (tr_nil (tr_thenN (tr_ret ?_)))))))))));exact tr_ret1 rfl rfl ⟨_, rfl, H⟩
def F.xaz.l2 (Q : Int -> H -> Prop) : Nat -> Sl -> Int -> Int -> H -> Prop
  | 0, _, _, _, _ => False
  | q2 + 1, x0, x3, x4, h =>
    ((decide (x4 < (x0.len : Int))) = true ->
    idxA x0 x4 1 fun a6 =>
    ldI .i64 h a6 fun y8 =>
    runI PP (Builtin.max_ #[3, 3] 3 #[(.int .i64 x3), (.int .i64 y8)]) h .i64 fun s11 h10 =>
    (F.xaz.l2 Q q2) x0 s11 (IntKind.wrap .i64 (x4 + 1)) h10) ∧
    ((decide (x4 < (x0.len : Int))) = false ->
    Q x3 h)
def F.xaz.j1 (Q : Int -> H -> Prop) (x0 : Sl) (h : H) : Prop :=
  idxA x0 0 1 fun a1 =>
  ldI .i64 h a1 fun y3 =>
  ∃ m, F.xaz.l2 Q m x0 y3 1 h
def F.xaz (p0 : Sl) (h : H) (Q : Int -> H -> Prop) : Prop :=
  ((decide ((p0.len : Int) < 1)) = true ->
  False) ∧
  ((decide ((p0.len : Int) < 1)) = false ->
  F.xaz.j1 Q p0 h)
theorem F.xaz_ok {p0 : Sl} {h : H} {Q : Int -> H -> Prop} (H : F.xaz p0 h Q) : Fn PP 70 ([p0.enc] : List Value).toArray h fun r h' => ∃ r0, r = (.int .i64 r0) ∧ Q r0 h' := by
 unfold F.xaz at H;refine fn_of Tryz.func70 Tryz.ntmps70 rfl rfl fun w0 => (tr_sub [(0, p0.enc)] ⟨rfl, trivial⟩ (tr_seq (tr_region (tq (y_assign rfl) (tr_nil (tr_thenN ?_))))));refine tr_seq_j (fun L' h => ∃ (x0 : Sl), L' = [(0, x0.enc)] ∧ F.xaz.j1 Q x0 h) ?_ ?_
 ·rintro L' h ⟨x0, rfl, H⟩;unfold F.xaz.j1 at H;refine tr_seq (tr_region (tq (y_move rfl) ?_));obtain ⟨a1, e2, H⟩ := H;refine tq (f_idx (s := x0) Tryz.runUnderlying42 Tryz.sizeOf3 rfl rfl e2) ?_;obtain ⟨y3, k4, H⟩ := H;refine tr_h (y_ld Tryz.isAgg3 rfl) k4 rfl rfl (tq (y_assign rfl) (tr_nil (tr_thenN (tr_seq (tr_seq (tr_region (tq (y_assign rfl) (tr_nil (tr_thenN (tr_block ?_))))))))));obtain ⟨m12, H⟩ := H;refine tr_sub [(0, x0.enc), (3, (.int .i64 y3)), (4, (.int .i64 1))] ⟨rfl, rfl, rfl, trivial⟩ ?_;refine tr_loop_j (fun m L' h => ∃ (x0 : Sl) (x3 : Int) (x4 : Int), L' = [(0, x0.enc), (3, (.int .i64 x3)), (4, (.int .i64 x4))] ∧ F.xaz.l2 Q m x0 x3 x4 h) ?_ ?_ m12 ⟨_, _, _, rfl, H⟩
  ·rintro L' h ⟨_, _, _, _, H⟩; exact H
  ·rintro q2 L' h ⟨x0, x3, x4, rfl, H⟩;unfold F.xaz.l2 at H;refine tr_seq (tr_seq (tr_region (tq (y_move rfl) (tq (y_move rfl) (tq (y_len (ts := #[]) Tryz.runUnderlying42 (o := x0.ptr) (n := x0.len) (cap := x0.cap) rfl) (tq (y_lss rfl rfl) (tr_nil (tr_thenN ?_))))))));refine tr_cond rfl (fun g5 => ?_) (fun g5 => ?_)
   ·replace H := H.1 g5;refine tr_skip (tr_thenN (tr_seq (tr_block (tr_region (tq (y_move rfl) (tq (y_move rfl) (tq (y_move rfl) ?_)))))));obtain ⟨a6, e7, H⟩ := H;refine tq (f_idx (s := x0) Tryz.runUnderlying42 Tryz.sizeOf3 rfl rfl e7) ?_;obtain ⟨y8, k9, H⟩ := H;refine tr_h (y_ld Tryz.isAgg3 rfl) k9 rfl rfl (tr_e (f_max rfl H) rfl rfl ?_);rintro _ h10 ⟨s11, rfl, H⟩;refine tq (y_assign rfl) (tr_nil (tr_blockN (tr_thenN (tr_region (tq (y_move rfl) (tq (y_add rfl rfl) (tq (y_assign rfl) (tr_nil (tr_thenN ?_)))))))));exact tr_join [(0, x0.enc), (3, (.int .i64 s11)), (4, (.int .i64 (IntKind.wrap .i64 (x4 + 1))))] ⟨rfl, rfl, rfl, trivial⟩ ⟨_, _, _, rfl, H⟩
   ·replace H := H.2 g5;refine tr_exit (tr_thenE (tr_thenE (tr_hit (tr_thenN (tr_seq (tr_region (tq (y_move rfl) (tq (y_assign rfl) (tr_nil (tr_thenN (tr_ret ?_)))))))))));exact tr_ret1 rfl rfl ⟨_, rfl, H⟩
 ·refine tr_seq (tr_region (tq (y_move rfl) (tq (y_len (ts := #[]) Tryz.runUnderlying42 (o := p0.ptr) (n := p0.len) (cap := p0.cap) rfl) (tq (y_lss rfl rfl) (tr_nil (tr_thenN ?_))))));refine tr_cond rfl (fun g13 => ?_) (fun g13 => ?_)
  ·replace H := H.1 g13;refine tr_region (tq (y_mkif Tryz.runUnderlying9 rfl rfl) ?_);exact H.elim
  ·replace H := H.2 g13;refine tr_skip (tr_thenN ?_);exact tr_join [(0, p0.enc)] ⟨rfl, trivial⟩ ⟨_, rfl, H⟩
def F.xcj (p0 : Option Addr) (h : H) (Q : Int -> H -> Prop) : Prop :=
  new h #[(⟨none, 0, 0⟩ : Sl).enc] ty_42 fun a2 h1 =>
  nn p0 fun a3 =>
  ldP h1 (a3.add 3) fun y5 =>
  F.xad y5 h1 fun r8 h7 =>
  rng PP r8 h7 [] (fun bg1 l1 args h K1 J1 => ∃ (y1_11 : ByteArray), ∃ (y1_12 : Option Addr), args = [(.string y1_11), (.pointer y1_12)] ∧
    bg1 h fun h9 =>
    ldL h9 a2 fun y10 =>
    F.xcg y1_12 h9 fun r13 h12 =>
    cellH h12 a2 = some y10.enc ∧
    newL h12 #[(.int .i64 r13)] ty_3 1 fun s16 h15 =>
    cellH h15 a2 = some y10.enc ∧
    runL PP (Builtin.append_ #[42, 42] 42 #[y10.enc, s16.enc]) h15 fun s19 h18 =>
    stH h18 a2 [s19.enc] fun h20 =>
    K1 h20) (fun h21 =>
    ldL h21 a2 fun y22 =>
    ((((y22.len : Int) == 0)) = true ->
    shuts (h7.size :: ([] : List Nat)) h21 fun h25 =>
    Q 0 h25) ∧
    ((((y22.len : Int) == 0)) = false ->
    ldL h21 a2 fun y26 =>
    F.xaz y26 h21 fun r29 h28 =>
    shuts (h7.size :: ([] : List Nat)) h28 fun h30 =>
    Q r29 h30)) (fun jj h31 =>
    True)
theorem F.xcj_ok {p0 : Option Addr} {h : H} {Q : Int -> H -> Prop} (H : F.xcj p0 h Q) : Fn PP 35 ([(.pointer p0)] : List Value).toArray h fun r h' => ∃ r0, r = (.int .i64 r0) ∧ Q r0 h' := by
 unfold F.xcj at H;refine fn_ofM Tryz.func35 Tryz.ntmps35 rfl rfl fun w0 => (tr_sub [(0, (.pointer p0))] ⟨rfl, trivial⟩ (tr_seq (tr_region (tq (y_assign rfl) (tr_nil (tr_thenN (tr_seq (tr_region (tr_e (f_alloc (cs := #[(⟨none, 0, 0⟩ : Sl).enc]) Tryz.zeroValue42 rfl H) rfl rfl ?_)))))))));rintro _ h1 ⟨a2, rfl, H⟩;refine tr_nil (tr_thenN (tr_seq (tr_seq (tr_region (tq (y_move rfl) ?_)))));obtain ⟨a3, e4, H⟩ := H;refine tq (f_nn rfl e4) (tq (y_fa (off := 3) Tryz.runUnderlying74 fo_74_1 rfl) ?_);obtain ⟨y5, k6, H⟩ := H;refine tr_h (y_ld Tryz.isAgg72 rfl) k6 rfl rfl (tr_e (e_call Tryz.call59 rfl (F.xad_ok H)) rfl rfl ?_);rintro r8 h7 ⟨_, rfl, H⟩;refine tr_nil (tr_thenN (tr_block ?_));refine tr_range rfl (by kernel_rfl) H ?_ ?_ ?_
 ·intro bg1 l1 args h K1 J1 w1 hbg1 H;obtain ⟨y1_11, y1_12, rfl, H⟩ := H;refine ⟨rfl, ?_⟩;refine tr_sub [(0, (.pointer p0)), (2, (.int .i64 0)), (3, (.pointer (some a2))), (6, (.pointer p0)), (7, (.pointer (some a3))), (8, (.pointer (some (a3.add 3)))), (9, (.pointer y5)), (10, r8), (11, (.string y1_11)), (12, (.pointer y1_12))] ⟨rfl, rfl, rfl, rfl, rfl, rfl, rfl, rfl, rfl, rfl, trivial⟩ (tr_region (tq (y_assign rfl) (tr_nil (tr_thenN (tr_bgn hbg1 H fun h9 H => (tr_block (tr_draw mixed [0, 0, 2, 6, 15, 31] (by kernel_rfl) ?_)))))));obtain ⟨y10, k11, H⟩ := H;refine g_h 0 1 rfl (by kernel_rfl) (y_ld Tryz.isAgg42 rfl) k11 rfl rfl (g_p 1 3 rfl (by kernel_rfl) (y_move rfl) rfl rfl (g_e 2 7 [(0, fun h => cellH h a2 = some y10.enc)] (by kernel_rfl) rfl (by kernel_rfl) (e_call Tryz.call61 rfl (F.xcg_ok H)) rfl rfl ?_));rintro _ h12 ⟨r13, rfl, H⟩;obtain ⟨k14, H⟩ := H;refine ⟨And.intro k14 trivial, ?_⟩;refine g_e 3 15 [(0, fun h => cellH h a2 = some y10.enc)] (by kernel_rfl) rfl (by kernel_rfl) (f_buildL (cs := #[(.int .i64 r13)]) rfl rfl (bl_42_1_0 r13) H) rfl rfl ?_;rintro _ h15 ⟨s16, rfl, H⟩;obtain ⟨k17, H⟩ := H;refine ⟨And.intro k17 trivial, ?_⟩;refine g_e 4 31 [] (by kernel_rfl) rfl (by kernel_rfl) (f_app rfl H) rfl rfl ?_;rintro _ h18 ⟨s19, rfl, H⟩;refine ⟨trivial, ?_⟩;refine g_e 5 63 [] (by kernel_rfl) rfl (by kernel_rfl) (f_store (vs := [s19.enc]) Tryz.sizeOf42 rfl rfl rfl rfl (one1 rfl) H) rfl rfl ?_;rintro _ h20 ⟨rfl, H⟩;refine ⟨trivial, ?_⟩;refine g_d (by kernel_rfl) (tr_blockN ?_);exact tr_rN H
 ·intro h21 H;refine tr_blockN (tr_thenN (tr_seq (tr_seq (tr_region ?_))));obtain ⟨y22, k23, H⟩ := H;refine tr_h (y_ld Tryz.isAgg42 rfl) k23 rfl rfl (tq (y_len (ts := #[]) Tryz.runUnderlying42 (o := y22.ptr) (n := y22.len) (cap := y22.cap) rfl) (tq (y_eql rfl rfl) (tr_nil (tr_thenN ?_))));refine tr_cond rfl (fun g24 => ?_) (fun g24 => ?_)
  ·replace H := H.1 g24;refine tr_seq (tr_region (tq (y_assign rfl) (tr_nil (tr_thenN (tr_ret (tr_thenR (tr_shut (h7.size :: ([] : List Nat)) rfl H fun h25 H => ?_)))))));exact tr_ret1 rfl rfl ⟨_, rfl, H⟩
  ·replace H := H.2 g24;refine tr_skip (tr_thenN (tr_seq (tr_region ?_)));obtain ⟨y26, k27, H⟩ := H;refine tr_h (y_ld Tryz.isAgg42 rfl) k27 rfl rfl (tr_e (e_call Tryz.call70 rfl (F.xaz_ok H)) rfl rfl ?_);rintro _ h28 ⟨r29, rfl, H⟩;refine tq (y_assign rfl) (tr_nil (tr_thenN (tr_ret (tr_shut (h7.size :: ([] : List Nat)) rfl H fun h30 H => ?_))));exact tr_ret1 rfl rfl ⟨_, rfl, H⟩
 ·intro jj c h31 hjc H;simp at hjc
def F.xbn.l1 (Q : Int -> H -> Prop) : Nat -> Int -> Sl -> Int -> Int -> H -> Prop
  | 0, _, _, _, _, _ => False
  | q1 + 1, x3, x9, x10, x11, h =>
    ((decide (x11 < x10)) = true ->
    idxA x9 x11 1 fun a6 =>
    ldP h a6 fun y8 =>
    F.xcj y8 h fun r11 h10 =>
    runI PP (Builtin.max_ #[3, 3] 3 #[(.int .i64 x3), (.int .i64 r11)]) h10 .i64 fun s13 h12 =>
    (F.xbn.l1 Q q1) s13 x9 x10 (IntKind.wrap .i64 (x11 + 1)) h12) ∧
    ((decide (x11 < x10)) = false ->
    Q x3 h)
def F.xbn (p0 : Option Addr) (h : H) (Q : Int -> H -> Prop) : Prop :=
  nn p0 fun a1 =>
  ldL h (a1.add 0) fun y3 =>
  ∃ m, F.xbn.l1 Q m 0 y3 (y3.len : Int) 0 h
theorem F.xbn_ok {p0 : Option Addr} {h : H} {Q : Int -> H -> Prop} (H : F.xbn p0 h Q) : Fn PP 34 ([(.pointer p0)] : List Value).toArray h fun r h' => ∃ r0, r = (.int .i64 r0) ∧ Q r0 h' := by
 unfold F.xbn at H;refine fn_of Tryz.func34 Tryz.ntmps34 rfl rfl fun w0 => (tr_sub [(0, (.pointer p0))] ⟨rfl, trivial⟩ (tr_seq (tr_region (tq (y_assign rfl) (tr_nil (tr_thenN (tr_seq (tr_region (tq (y_assign rfl) (tr_nil (tr_thenN (tr_seq (tr_seq ?_)))))))))))));refine tr_region (tq (y_move rfl) ?_);obtain ⟨a1, e2, H⟩ := H;refine tq (f_nn rfl e2) (tq (y_fa (off := 0) Tryz.runUnderlying83 fo_83_0 rfl) ?_);obtain ⟨y3, k4, H⟩ := H;refine tr_h (y_ld Tryz.isAgg81 rfl) k4 rfl rfl (tq (y_len (ts := #[]) Tryz.runUnderlying81 (o := y3.ptr) (n := y3.len) (cap := y3.cap) rfl) (tq (y_move rfl) (tr_nil (tr_thenN (tr_block ?_)))));obtain ⟨m14, H⟩ := H;refine tr_sub [(3, (.int .i64 0)), (9, y3.enc), (10, (.int .i64 (y3.len : Int))), (11, (.int .i64 0))] ⟨rfl, rfl, rfl, rfl, trivial⟩ ?_;refine tr_loop_j (fun m L' h => ∃ (x3 : Int) (x9 : Sl) (x10 : Int) (x11 : Int), L' = [(3, (.int .i64 x3)), (9, x9.enc), (10, (.int .i64 x10)), (11, (.int .i64 x11))] ∧ F.xbn.l1 Q m x3 x9 x10 x11 h) ?_ ?_ m14 ⟨_, _, _, _, rfl, H⟩
 ·rintro L' h ⟨_, _, _, _, _, H⟩; exact H
 ·rintro q1 L' h ⟨x3, x9, x10, x11, rfl, H⟩;unfold F.xbn.l1 at H;refine tr_seq (tr_region (tq (y_lss rfl rfl) (tr_nil (tr_thenN (tr_seq ?_)))));refine tr_cond rfl (fun g5 => ?_) (fun g5 => ?_)
  ·replace H := H.1 g5;refine tr_skip (tr_thenN (tr_seq (tr_block (tr_seq (tr_region ?_)))));obtain ⟨a6, e7, H⟩ := H;refine tq (f_idx (s := x9) Tryz.runUnderlying81 Tryz.sizeOf64 rfl rfl e7) ?_;obtain ⟨y8, k9, H⟩ := H;refine tr_h (y_ld Tryz.isAgg64 rfl) k9 rfl rfl (tq (y_assign rfl) (tr_nil (tr_thenN (tr_region (tq (y_move rfl) (tq (y_move rfl) (tr_e (e_call Tryz.call35 rfl (F.xcj_ok H)) rfl rfl ?_)))))));rintro _ h10 ⟨r11, rfl, H⟩;refine tr_e (f_max rfl H) rfl rfl ?_;rintro _ h12 ⟨s13, rfl, H⟩;refine tq (y_assign rfl) (tr_nil (tr_blockN (tr_thenN (tr_region (tq (y_add rfl rfl) (tq (y_move rfl) (tr_nil (tr_thenN ?_))))))));exact tr_join [(3, (.int .i64 s13)), (9, x9.enc), (10, (.int .i64 x10)), (11, (.int .i64 (IntKind.wrap .i64 (x11 + 1))))] ⟨rfl, rfl, rfl, rfl, trivial⟩ ⟨_, _, _, _, rfl, H⟩
  ·replace H := H.2 g5;refine tr_exit (tr_thenE (tr_thenE (tr_hit (tr_thenN (tr_seq (tr_region (tq (y_move rfl) (tq (y_assign rfl) (tr_nil (tr_thenN (tr_ret ?_)))))))))));exact tr_ret1 rfl rfl ⟨_, rfl, H⟩
end Go.Proofs.YtjjchpaomgmmdaaGreat.V
