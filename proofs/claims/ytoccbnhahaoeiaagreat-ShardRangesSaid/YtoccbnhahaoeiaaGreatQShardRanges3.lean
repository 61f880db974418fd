/- Parts of the proof of ShardRanges; no condition. -/
import Derived.Test.YtoccbnhahaoeiaaGreatQShardRanges2
namespace Go.Proofs.YtoccbnhahaoeiaaGreat.V
open Go
set_option linter.unusedVariables false
set_option maxRecDepth 100000
def F.xal.j3 (Q : Int -> H -> Prop) (x28 : Bool) (h : H) : Prop :=
  (x28 = true ->
  Q 22 h) ∧
  (x28 = false ->
  Q 0 h)
def F.xal.j2 (Q : Int -> H -> Prop) (x1 : Addr) (h : H) : Prop :=
  ldI .i64 h (x1.add 2) fun y4 =>
  ((decide (y4 < (-2305843009213693952))) = true ->
  F.xal.j3 Q true h) ∧
  ((decide (y4 < (-2305843009213693952))) = false ->
  ldI .i64 h (x1.add 2) fun y7 =>
  F.xal.j3 Q (decide (y7 > 2305843009213693952)) h)
def F.xal.j4 (Q : Int -> H -> Prop) (x1 : Addr) (x20 : Bool) (h : H) : Prop :=
  (x20 = true ->
  Q 21 h) ∧
  (x20 = false ->
  F.xal.j2 Q x1 h)
def F.xal.j1 (Q : Int -> H -> Prop) (x1 : Addr) (h : H) : Prop :=
  ldS h (x1.add 1) fun y10 =>
  ((decide ((y10.size : Int) < 1)) = true ->
  F.xal.j4 Q x1 true h) ∧
  ((decide ((y10.size : Int) < 1)) = false ->
  ldS h (x1.add 1) fun y13 =>
  F.xal.j4 Q x1 (decide ((y13.size : Int) > 32)) h)
def F.xal.j5 (Q : Int -> H -> Prop) (x1 : Addr) (x10 : Bool) (h : H) : Prop :=
  (x10 = true ->
  Q 23 h) ∧
  (x10 = false ->
  F.xal.j1 Q x1 h)
def F.xal (p0 : S_api_Cell) (h : H) (Q : Int -> H -> Prop) : Prop :=
  new h p0.cells.toArray ty_32 fun a2 h1 =>
  ldI .i64 h1 (a2.add 0) fun y16 =>
  ((decide (y16 < 0)) = true ->
  F.xal.j5 Q a2 true h1) ∧
  ((decide (y16 < 0)) = false ->
  ldI .i64 h1 (a2.add 0) fun y19 =>
  F.xal.j5 Q a2 (decide (y19 >= 4)) h1)
theorem F.xal_ok {p0 : S_api_Cell} {h : H} {Q : Int -> H -> Prop} (H : F.xal p0 h Q) : Fn PP 85 ([(.agg p0.cells.toArray)] : List Value).toArray h fun r h' => ∃ r0, r = (.int .i64 r0) ∧ Q r0 h' := by
 unfold F.xal at H;refine fn_of Tryz.func85 Tryz.ntmps85 rfl rfl fun w0 => (tr_sub [(0, (.agg p0.cells.toArray))] ⟨rfl, trivial⟩ (tr_seq (tr_region (tr_e (f_box (cs := p0.cells.toArray) rfl rfl H) rfl rfl ?_))));rintro _ h1 ⟨a2, rfl, H⟩;refine tq (y_assign rfl) (tr_nil (tr_thenN ?_));refine tr_seq_j (fun L' h => ∃ (x1 : Addr), L' = [(1, (.pointer (some x1)))] ∧ F.xal.j1 Q x1 h) ?_ ?_
 ·rintro L' h ⟨x1, rfl, H⟩;unfold F.xal.j1 at H;refine tr_seq_j (fun L' h => ∃ (x1 : Addr), L' = [(1, (.pointer (some x1)))] ∧ F.xal.j2 Q x1 h) ?_ ?_
  ·rintro L' h ⟨x1, rfl, H⟩;unfold F.xal.j2 at H;refine tr_seq ?_;refine tr_seq_j (fun L' h => ∃ (x28 : Bool), L' = [(28, (.bool x28))] ∧ F.xal.j3 Q x28 h) ?_ ?_
   ·rintro L' h ⟨x28, rfl, H⟩;unfold F.xal.j3 at H;refine tr_cond rfl (fun g3 => ?_) (fun g3 => ?_)
    ·replace H := H.1 g3;refine tr_seq (tr_region (tq (y_assign rfl) (tr_nil (tr_thenN (tr_ret (tr_thenR ?_))))));exact tr_ret1 rfl rfl ⟨_, rfl, H⟩
    ·replace H := H.2 g3;refine tr_skip (tr_thenN (tr_seq (tr_region (tq (y_assign rfl) (tr_nil (tr_thenN (tr_ret ?_)))))));exact tr_ret1 rfl rfl ⟨_, rfl, H⟩
   ·refine tr_region (tq (y_fa (off := 2) Tryz.runUnderlying32 fo_32_2 rfl) ?_);obtain ⟨y4, k5, H⟩ := H;refine tr_h (y_ld Tryz.isAgg2 rfl) k5 rfl rfl (tq (y_lss rfl rfl) (tq (y_move rfl) ?_));refine tr_split (t := 24) rfl (fun g6 => ?_) (fun g6 => ?_)
    ·replace H := H.1 g6;refine ts (ts (ts (tq (y_pick_t rfl rfl) (tr_nil (tr_thenN ?_)))));exact tr_join [(28, (.bool true))] ⟨rfl, trivial⟩ ⟨_, rfl, H⟩
    ·replace H := H.2 g6;refine tq (y_fa (off := 2) Tryz.runUnderlying32 fo_32_2 rfl) ?_;obtain ⟨y7, k8, H⟩ := H;refine tr_h (y_ld Tryz.isAgg2 rfl) k8 rfl rfl (tq (y_gtr rfl rfl) (tq (y_pick_f rfl rfl) (tr_nil (tr_thenN ?_))));exact tr_join [(28, (.bool (decide (y7 > 2305843009213693952))))] ⟨rfl, trivial⟩ ⟨_, rfl, H⟩
  ·refine tr_seq_j (fun L' h => ∃ (x1 : Addr) (x20 : Bool), L' = [(1, (.pointer (some x1))), (20, (.bool x20))] ∧ F.xal.j4 Q x1 x20 h) ?_ ?_
   ·rintro L' h ⟨x1, x20, rfl, H⟩;unfold F.xal.j4 at H;refine tr_cond rfl (fun g9 => ?_) (fun g9 => ?_)
    ·replace H := H.1 g9;refine tr_seq (tr_region (tq (y_assign rfl) (tr_nil (tr_thenN (tr_ret (tr_thenR ?_))))));exact tr_ret1 rfl rfl ⟨_, rfl, H⟩
    ·replace H := H.2 g9;refine tr_skip (tr_thenN ?_);exact tr_join [(1, (.pointer (some x1)))] ⟨rfl, trivial⟩ ⟨_, rfl, H⟩
   ·refine tr_region (tq (y_fa (off := 1) Tryz.runUnderlying32 fo_32_1 rfl) ?_);obtain ⟨y10, k11, H⟩ := H;refine tr_h (y_ld Tryz.isAgg9 rfl) k11 rfl rfl (tq (y_lenS Tryz.runUnderlying9 rfl) (tq (y_lss rfl rfl) (tq (y_move rfl) ?_)));refine tr_split (t := 15) rfl (fun g12 => ?_) (fun g12 => ?_)
    ·replace H := H.1 g12;refine ts (ts (ts (ts (tq (y_pick_t rfl rfl) (tr_nil (tr_thenN ?_))))));exact tr_join [(1, (.pointer (some x1))), (20, (.bool true))] ⟨rfl, rfl, trivial⟩ ⟨_, _, rfl, H⟩
    ·replace H := H.2 g12;refine tq (y_fa (off := 1) Tryz.runUnderlying32 fo_32_1 rfl) ?_;obtain ⟨y13, k14, H⟩ := H;refine tr_h (y_ld Tryz.isAgg9 rfl) k14 rfl rfl (tq (y_lenS Tryz.runUnderlying9 rfl) (tq (y_gtr rfl rfl) (tq (y_pick_f rfl rfl) (tr_nil (tr_thenN ?_)))));exact tr_join [(1, (.pointer (some x1))), (20, (.bool (decide ((y13.size : Int) > 32))))] ⟨rfl, rfl, trivial⟩ ⟨_, _, rfl, H⟩
 ·refine tr_seq_j (fun L' h => ∃ (x1 : Addr) (x10 : Bool), L' = [(1, (.pointer (some x1))), (10, (.bool x10))] ∧ F.xal.j5 Q x1 x10 h) ?_ ?_
  ·rintro L' h ⟨x1, x10, rfl, H⟩;unfold F.xal.j5 at H;refine tr_cond rfl (fun g15 => ?_) (fun g15 => ?_)
   ·replace H := H.1 g15;refine tr_seq (tr_region (tq (y_assign rfl) (tr_nil (tr_thenN (tr_ret (tr_thenR ?_))))));exact tr_ret1 rfl rfl ⟨_, rfl, H⟩
   ·replace H := H.2 g15;refine tr_skip (tr_thenN ?_);exact tr_join [(1, (.pointer (some x1)))] ⟨rfl, trivial⟩ ⟨_, rfl, H⟩
  ·refine tr_region (tq (y_fa (off := 0) Tryz.runUnderlying32 fo_32_0 rfl) ?_);obtain ⟨y16, k17, H⟩ := H;refine tr_h (y_ld Tryz.isAgg3 rfl) k17 rfl rfl (tq (y_lss rfl rfl) (tq (y_move rfl) ?_));refine tr_split (t := 6) rfl (fun g18 => ?_) (fun g18 => ?_)
   ·replace H := H.1 g18;refine ts (ts (ts (tq (y_pick_t rfl rfl) (tr_nil (tr_thenN ?_)))));exact tr_join [(1, (.pointer (some a2))), (10, (.bool true))] ⟨rfl, rfl, trivial⟩ ⟨_, _, rfl, H⟩
   ·replace H := H.2 g18;refine tq (y_fa (off := 0) Tryz.runUnderlying32 fo_32_0 rfl) ?_;obtain ⟨y19, k20, H⟩ := H;refine tr_h (y_ld Tryz.isAgg3 rfl) k20 rfl rfl (tq (y_geq rfl rfl) (tq (y_pick_f rfl rfl) (tr_nil (tr_thenN ?_))));exact tr_join [(1, (.pointer (some a2))), (10, (.bool (decide (y19 >= 4))))] ⟨rfl, rfl, trivial⟩ ⟨_, _, rfl, H⟩
def F.xcm (p0 : S_api_Cell) (p1 : S_api_Cell) (h : H) (Q : Bool -> H -> Prop) : Prop :=
  new h p0.cells.toArray ty_32 fun a2 h1 =>
  new h1 p1.cells.toArray ty_32 fun a4 h3 =>
  ldI .i64 h3 (a2.add 0) fun y5 =>
  ldI .i64 h3 (a4.add 0) fun y7 =>
  (((y5 != y7)) = true ->
  ldI .i64 h3 (a2.add 0) fun y10 =>
  ldI .i64 h3 (a4.add 0) fun y12 =>
  Q (decide (y10 < y12)) h3) ∧
  (((y5 != y7)) = false ->
  ldS h3 (a2.add 1) fun y14 =>
  ldS h3 (a4.add 1) fun y16 =>
  ((!(y14.toList == y16.toList)) = true ->
  ldS h3 (a2.add 1) fun y19 =>
  ldS h3 (a4.add 1) fun y21 =>
  Q (Op.bytesLess y19.toList y21.toList) h3) ∧
  ((!(y14.toList == y16.toList)) = false ->
  ldI .i64 h3 (a2.add 2) fun y23 =>
  ldI .i64 h3 (a4.add 2) fun y25 =>
  Q (decide (y23 < y25)) h3))
theorem F.xcm_ok {p0 : S_api_Cell} {p1 : S_api_Cell} {h : H} {Q : Bool -> H -> Prop} (H : F.xcm p0 p1 h Q) : Fn PP 63 ([(.agg p0.cells.toArray), (.agg p1.cells.toArray)] : List Value).toArray h fun r h' => ∃ r0, r = (.bool r0) ∧ Q r0 h' := by
 unfold F.xcm at H;refine fn_of Tryz.func63 Tryz.ntmps63 rfl rfl fun w0 => (tr_sub [(0, (.agg p0.cells.toArray)), (1, (.agg p1.cells.toArray))] ⟨rfl, rfl, trivial⟩ (tr_seq (tr_region (tr_e (f_box (cs := p0.cells.toArray) rfl rfl H) rfl rfl ?_))));rintro _ h1 ⟨a2, rfl, H⟩;refine tr_e (f_box (cs := p1.cells.toArray) rfl rfl H) rfl rfl ?_;rintro _ h3 ⟨a4, rfl, H⟩;refine tq (y_assign rfl) (tr_nil (tr_thenN (tr_seq (tr_seq (tr_region (tq (y_fa (off := 0) Tryz.runUnderlying32 fo_32_0 rfl) ?_))))));obtain ⟨y5, k6, H⟩ := H;refine tr_h (y_ld Tryz.isAgg3 rfl) k6 rfl rfl (tq (y_fa (off := 0) Tryz.runUnderlying32 fo_32_0 rfl) ?_);obtain ⟨y7, k8, H⟩ := H;refine tr_h (y_ld Tryz.isAgg3 rfl) k8 rfl rfl (tq (y_neq rfl rfl) (tr_nil (tr_thenN ?_)));refine tr_cond rfl (fun g9 => ?_) (fun g9 => ?_)
 ·replace H := H.1 g9;refine tr_seq (tr_region (tq (y_fa (off := 0) Tryz.runUnderlying32 fo_32_0 rfl) ?_));obtain ⟨y10, k11, H⟩ := H;refine tr_h (y_ld Tryz.isAgg3 rfl) k11 rfl rfl (tq (y_fa (off := 0) Tryz.runUnderlying32 fo_32_0 rfl) ?_);obtain ⟨y12, k13, H⟩ := H;refine tr_h (y_ld Tryz.isAgg3 rfl) k13 rfl rfl (tq (y_lss rfl rfl) (tq (y_assign rfl) (tr_nil (tr_thenN (tr_ret (tr_thenR ?_))))));exact tr_ret1 rfl rfl ⟨_, rfl, H⟩
 ·replace H := H.2 g9;refine tr_skip (tr_thenN (tr_seq (tr_seq (tr_region (tq (y_fa (off := 1) Tryz.runUnderlying32 fo_32_1 rfl) ?_)))));obtain ⟨y14, k15, H⟩ := H;refine tr_h (y_ld Tryz.isAgg9 rfl) k15 rfl rfl (tq (y_fa (off := 1) Tryz.runUnderlying32 fo_32_1 rfl) ?_);obtain ⟨y16, k17, H⟩ := H;refine tr_h (y_ld Tryz.isAgg9 rfl) k17 rfl rfl (tq (y_sneq rfl rfl) (tr_nil (tr_thenN ?_)));refine tr_cond rfl (fun g18 => ?_) (fun g18 => ?_)
  ·replace H := H.1 g18;refine tr_seq (tr_region (tq (y_fa (off := 1) Tryz.runUnderlying32 fo_32_1 rfl) ?_));obtain ⟨y19, k20, H⟩ := H;refine tr_h (y_ld Tryz.isAgg9 rfl) k20 rfl rfl (tq (y_fa (off := 1) Tryz.runUnderlying32 fo_32_1 rfl) ?_);obtain ⟨y21, k22, H⟩ := H;refine tr_h (y_ld Tryz.isAgg9 rfl) k22 rfl rfl (tq (y_slss rfl rfl) (tq (y_assign rfl) (tr_nil (tr_thenN (tr_ret (tr_thenR ?_))))));exact tr_ret1 rfl rfl ⟨_, rfl, H⟩
  ·replace H := H.2 g18;refine tr_skip (tr_thenN (tr_seq (tr_region (tq (y_fa (off := 2) Tryz.runUnderlying32 fo_32_2 rfl) ?_))));obtain ⟨y23, k24, H⟩ := H;refine tr_h (y_ld Tryz.isAgg2 rfl) k24 rfl rfl (tq (y_fa (off := 2) Tryz.runUnderlying32 fo_32_2 rfl) ?_);obtain ⟨y25, k26, H⟩ := H;refine tr_h (y_ld Tryz.isAgg2 rfl) k26 rfl rfl (tq (y_lss rfl rfl) (tq (y_assign rfl) (tr_nil (tr_thenN (tr_ret ?_)))));exact tr_ret1 rfl rfl ⟨_, rfl, H⟩
def F.xbr.l1 (Q : Int -> Bool -> H -> Prop) : Nat -> (Option Addr) -> Addr -> Int -> H -> Prop
  | 0, _, _, _, _ => False
  | q1 + 1, x0, x3, x6, h =>
    nn x0 fun a3 =>
    ldL h (a3.add 1) fun y5 =>
    ((decide (x6 < (y5.len : Int))) = true ->
    nn x0 fun a8 =>
    ldL h (a8.add 1) fun y10 =>
    idxA y10 x6 4 fun a12 =>
    ld_S_api_Cell h (a12.add 0) fun y14 =>
    ld_S_api_Cell h x3 fun y16 =>
    (((y14.View == y16.View) && ((y14.Key.toList == y16.Key.toList) && ((y14.Start == y16.Start) && true))) = true ->
    Q x6 true h) ∧
    (((y14.View == y16.View) && ((y14.Key.toList == y16.Key.toList) && ((y14.Start == y16.Start) && true))) = false ->
    ld_S_api_Cell h x3 fun y19 =>
    nn x0 fun a21 =>
    ldL h (a21.add 1) fun y23 =>
    idxA y23 x6 4 fun a25 =>
    ld_S_api_Cell h (a25.add 0) fun y27 =>
    F.xcm y19 y27 h fun r30 h29 =>
    (r30 = true ->
    Q x6 false h29) ∧
    (r30 = false ->
    (F.xbr.l1 Q q1) x0 x3 (IntKind.wrap .i64 (x6 + 1)) h29))) ∧
    ((decide (x6 < (y5.len : Int))) = false ->
    nn x0 fun a32 =>
    ldL h (a32.add 1) fun y34 =>
    Q (y34.len : Int) false h)
def F.xbr (p0 : Option Addr) (p1 : S_api_Cell) (h : H) (Q : Int -> Bool -> H -> Prop) : Prop :=
  new h p1.cells.toArray ty_32 fun a2 h1 =>
  ∃ m, F.xbr.l1 Q m p0 a2 0 h1
theorem F.xbr_ok {p0 : Option Addr} {p1 : S_api_Cell} {h : H} {Q : Int -> Bool -> H -> Prop} (H : F.xbr p0 p1 h Q) : Fn PP 93 ([(.pointer p0), (.agg p1.cells.toArray)] : List Value).toArray h fun r h' => ∃ r0 r1, r = .tuple #[(.int .i64 r0), (.bool r1)] ∧ Q r0 r1 h' := by
 unfold F.xbr at H;refine fn_of Tryz.func93 Tryz.ntmps93 rfl rfl fun w0 => (tr_sub [(0, (.pointer p0)), (1, (.agg p1.cells.toArray))] ⟨rfl, rfl, trivial⟩ (tr_seq (tr_region (tr_e (f_box (cs := p1.cells.toArray) rfl rfl H) rfl rfl ?_))));rintro _ h1 ⟨a2, rfl, H⟩;refine tq (y_assign rfl) (tq (y_assign rfl) (tr_nil (tr_thenN (tr_seq (tr_seq (tr_region (tq (y_assign rfl) (tr_nil (tr_thenN (tr_block ?_))))))))));obtain ⟨m36, H⟩ := H;refine tr_sub [(0, (.pointer p0)), (3, (.pointer (some a2))), (6, (.int .i64 0))] ⟨rfl, rfl, rfl, trivial⟩ ?_;refine tr_loop_j (fun m L' h => ∃ (x0 : Option Addr) (x3 : Addr) (x6 : Int), L' = [(0, (.pointer x0)), (3, (.pointer (some x3))), (6, (.int .i64 x6))] ∧ F.xbr.l1 Q m x0 x3 x6 h) ?_ ?_ m36 ⟨_, _, _, rfl, H⟩
 ·rintro L' h ⟨_, _, _, _, H⟩; exact H
 ·rintro q1 L' h ⟨x0, x3, x6, rfl, H⟩;unfold F.xbr.l1 at H;refine tr_seq (tr_seq (tr_region (tq (y_move rfl) (tq (y_move rfl) ?_))));obtain ⟨a3, e4, H⟩ := H;refine tq (f_nn rfl e4) (tq (y_fa (off := 1) Tryz.runUnderlying91 fo_91_1 rfl) ?_);obtain ⟨y5, k6, H⟩ := H;refine tr_h (y_ld Tryz.isAgg89 rfl) k6 rfl rfl (tq (y_len (ts := #[]) Tryz.runUnderlying89 (o := y5.ptr) (n := y5.len) (cap := y5.cap) rfl) (tq (y_lss rfl rfl) (tr_nil (tr_thenN ?_))));refine tr_cond rfl (fun g7 => ?_) (fun g7 => ?_)
  ·replace H := H.1 g7;refine tr_skip (tr_thenN (tr_seq (tr_block (tr_seq (tr_seq (tr_draw mixed [0, 1, 3, 7, 0, 31, 63, 127, 0, 511] (by kernel_rfl) (g_p 0 1 rfl (by kernel_rfl) (y_move rfl) rfl rfl ?_)))))));obtain ⟨a8, e9, H⟩ := H;refine g_p 1 3 rfl (by kernel_rfl) (f_nn rfl e9) rfl rfl (g_p 2 7 rfl (by kernel_rfl) (y_fa (off := 1) Tryz.runUnderlying91 fo_91_1 rfl) rfl rfl ?_);obtain ⟨y10, k11, H⟩ := H;refine g_h 3 15 rfl (by kernel_rfl) (y_ld Tryz.isAgg89 rfl) k11 rfl rfl (g_p 4 31 rfl (by kernel_rfl) (y_move rfl) rfl rfl ?_);obtain ⟨a12, e13, H⟩ := H;refine g_p 5 63 rfl (by kernel_rfl) (f_idx (s := y10) Tryz.runUnderlying89 Tryz.sizeOf106 rfl rfl e13) rfl rfl (g_p 6 127 rfl (by kernel_rfl) (y_fa (off := 0) Tryz.runUnderlying106 fo_106_0 rfl) rfl rfl ?_);obtain ⟨y14, k15, H⟩ := H;refine g_h 7 255 rfl (by kernel_rfl) (y_ldS Tryz.isAgg32 Tryz.sizeOf32 rfl rfl) k15 rfl rfl ?_;obtain ⟨y16, k17, H⟩ := H;refine g_h 8 511 rfl (by kernel_rfl) (y_ldS Tryz.isAgg32 Tryz.sizeOf32 rfl rfl) k17 rfl rfl (g_p 9 1023 rfl (by kernel_rfl) (st_eql (b := ((y14.View == y16.View) && ((y14.Key.toList == y16.Key.toList) && ((y14.Start == y16.Start) && true)))) eqg_32 (fun w => eqst_32 y14 y16 9998 w) rfl rfl) rfl rfl (g_d (by kernel_rfl) (tr_thenN ?_)));refine tr_cond rfl (fun g18 => ?_) (fun g18 => ?_)
   ·replace H := H.1 g18;refine tr_seq (tr_region (tq (y_move rfl) (tq (y_assign rfl) (tq (y_assign rfl) (tr_nil (tr_thenN (tr_ret (tr_thenR (tr_blockR (tr_thenR (tr_thenR (tr_blockR (tr_thenR ?_)))))))))))));exact tr_ret2 rfl rfl rfl ⟨_, _, rfl, H⟩
   ·replace H := H.2 g18;refine tr_skip (tr_thenN (tr_seq (tr_draw mixed [0, 0, 2, 6, 14, 0, 62, 126, 254, 511] (by kernel_rfl) ?_)));obtain ⟨y19, k20, H⟩ := H;refine g_h 0 1 rfl (by kernel_rfl) (y_ldS Tryz.isAgg32 Tryz.sizeOf32 rfl rfl) k20 rfl rfl (g_p 1 3 rfl (by kernel_rfl) (y_move rfl) rfl rfl ?_);obtain ⟨a21, e22, H⟩ := H;refine g_p 2 7 rfl (by kernel_rfl) (f_nn rfl e22) rfl rfl (g_p 3 15 rfl (by kernel_rfl) (y_fa (off := 1) Tryz.runUnderlying91 fo_91_1 rfl) rfl rfl ?_);obtain ⟨y23, k24, H⟩ := H;refine g_h 4 31 rfl (by kernel_rfl) (y_ld Tryz.isAgg89 rfl) k24 rfl rfl (g_p 5 63 rfl (by kernel_rfl) (y_move rfl) rfl rfl ?_);obtain ⟨a25, e26, H⟩ := H;refine g_p 6 127 rfl (by kernel_rfl) (f_idx (s := y23) Tryz.runUnderlying89 Tryz.sizeOf106 rfl rfl e26) rfl rfl (g_p 7 255 rfl (by kernel_rfl) (y_fa (off := 0) Tryz.runUnderlying106 fo_106_0 rfl) rfl rfl ?_);obtain ⟨y27, k28, H⟩ := H;refine g_h 8 511 rfl (by kernel_rfl) (y_ldS Tryz.isAgg32 Tryz.sizeOf32 rfl rfl) k28 rfl rfl (g_e 9 1023 [] (by kernel_rfl) rfl (by kernel_rfl) (e_call Tryz.call63 rfl (F.xcm_ok H)) rfl rfl ?_);rintro _ h29 ⟨r30, rfl, H⟩;refine ⟨trivial, ?_⟩;refine g_d (by kernel_rfl) (tr_thenN ?_);refine tr_cond rfl (fun g31 => ?_) (fun g31 => ?_)
    ·replace H := H.1 g31;refine tr_seq (tr_region (tq (y_move rfl) (tq (y_assign rfl) (tq (y_assign rfl) (tr_nil (tr_thenN (tr_ret (tr_blockR (tr_thenR (tr_thenR (tr_blockR (tr_thenR ?_))))))))))));exact tr_ret2 rfl rfl rfl ⟨_, _, rfl, H⟩
    ·replace H := H.2 g31;refine tr_skip (tr_blockN (tr_thenN (tr_region (tq (y_move rfl) (tq (y_add rfl rfl) (tq (y_assign rfl) (tr_nil (tr_thenN ?_))))))));exact tr_join [(0, (.pointer x0)), (3, (.pointer (some x3))), (6, (.int .i64 (IntKind.wrap .i64 (x6 + 1))))] ⟨rfl, rfl, rfl, trivial⟩ ⟨_, _, _, rfl, H⟩
  ·replace H := H.2 g7;refine tr_exit (tr_thenE (tr_thenE (tr_hit (tr_thenN (tr_seq (tr_region (tq (y_move rfl) ?_)))))));obtain ⟨a32, e33, H⟩ := H;refine tq (f_nn rfl e33) (tq (y_fa (off := 1) Tryz.runUnderlying91 fo_91_1 rfl) ?_);obtain ⟨y34, k35, H⟩ := H;refine tr_h (y_ld Tryz.isAgg89 rfl) k35 rfl rfl (tq (y_len (ts := #[]) Tryz.runUnderlying89 (o := y34.ptr) (n := y34.len) (cap := y34.cap) rfl) (tq (y_assign rfl) (tq (y_assign rfl) (tr_nil (tr_thenN (tr_ret ?_))))));exact tr_ret2 rfl rfl rfl ⟨_, _, rfl, H⟩
def F.xcl (p0 : Option Addr) (p1 : S_api_Cell) (h : H) (Q : Sl -> H -> Prop) : Prop :=
  new h p1.cells.toArray ty_32 fun a2 h1 =>
  ld_S_api_Cell h1 a2 fun y3 =>
  F.xbr p0 y3 h1 fun r6 r7 h5 =>
  ((!r7) = true ->
  Q (⟨none, 0, 0⟩ : Sl) h5) ∧
  ((!r7) = false ->
  nn p0 fun a9 =>
  ldL h5 (a9.add 1) fun y11 =>
  idxA y11 r6 4 fun a13 =>
  ldL h5 (a13.add 3) fun y15 =>
  Q y15 h5)
theorem F.xcl_ok {p0 : Option Addr} {p1 : S_api_Cell} {h : H} {Q : Sl -> H -> Prop} (H : F.xcl p0 p1 h Q) : Fn PP 87 ([(.pointer p0), (.agg p1.cells.toArray)] : List Value).toArray h fun r h' => ∃ r0, r = r0.enc ∧ Q r0 h' := by
 unfold F.xcl at H;refine fn_of Tryz.func87 Tryz.ntmps87 rfl rfl fun w0 => (tr_sub [(0, (.pointer p0)), (1, (.agg p1.cells.toArray))] ⟨rfl, rfl, trivial⟩ (tr_seq (tr_region (tr_e (f_box (cs := p1.cells.toArray) rfl rfl H) rfl rfl ?_))));rintro _ h1 ⟨a2, rfl, H⟩;refine tq (y_assign rfl) (tr_nil (tr_thenN (tr_seq (tr_region (tq (y_move rfl) ?_)))));obtain ⟨y3, k4, H⟩ := H;refine tr_h (y_ldS Tryz.isAgg32 Tryz.sizeOf32 rfl rfl) k4 rfl rfl (tr_e (e_call Tryz.call93 rfl (F.xbr_ok H)) rfl rfl ?_);rintro _ h5 ⟨r6, r7, rfl, H⟩;refine tq (y_move rfl) (tq (y_ext rfl rfl) (tq (y_ext rfl rfl) (tq (y_assign rfl) (tq (y_assign rfl) (tr_nil (tr_thenN (tr_seq (tr_seq (tr_region (tq (y_move rfl) (tq (y_not rfl) (tr_nil (tr_thenN ?_)))))))))))));refine tr_cond rfl (fun g8 => ?_) (fun g8 => ?_)
 ·replace H := H.1 g8;refine tr_seq (tr_region (tq (y_assign rfl) (tr_nil (tr_thenN (tr_ret (tr_thenR ?_))))));exact tr_ret1 rfl rfl ⟨_, rfl, H⟩
 ·replace H := H.2 g8;refine tr_skip (tr_thenN (tr_seq (tr_region (tq (y_move rfl) ?_))));obtain ⟨a9, e10, H⟩ := H;refine tq (f_nn rfl e10) (tq (y_fa (off := 1) Tryz.runUnderlying91 fo_91_1 rfl) ?_);obtain ⟨y11, k12, H⟩ := H;refine tr_h (y_ld Tryz.isAgg89 rfl) k12 rfl rfl (tq (y_move rfl) ?_);obtain ⟨a13, e14, H⟩ := H;refine tq (f_idx (s := y11) Tryz.runUnderlying89 Tryz.sizeOf106 rfl rfl e14) (tq (y_fa (off := 3) Tryz.runUnderlying106 fo_106_1 rfl) ?_);obtain ⟨y15, k16, H⟩ := H;refine tr_h (y_ld Tryz.isAgg104 rfl) k16 rfl rfl (tq (y_assign rfl) (tr_nil (tr_thenN (tr_ret ?_))));exact tr_ret1 rfl rfl ⟨_, rfl, H⟩
def F.xcp (p0 : Sl) (h : H) (Q : Int -> H -> Prop) : Prop :=
  ((((p0.len : Int) == 0)) = true ->
  Q 0 h) ∧
  ((((p0.len : Int) == 0)) = false ->
  idxA p0 (IntKind.wrap .i64 ((p0.len : Int) - 1)) 6 fun a2 =>
  ldI .i64 h (a2.add 0) fun y4 =>
  Q y4 h)
theorem F.xcp_ok {p0 : Sl} {h : H} {Q : Int -> H -> Prop} (H : F.xcp p0 h Q) : Fn PP 88 ([p0.enc] : List Value).toArray h fun r h' => ∃ r0, r = (.int .i64 r0) ∧ Q r0 h' := by
 unfold F.xcp at H;refine fn_of Tryz.func88 Tryz.ntmps88 rfl rfl fun w0 => (tr_sub [(0, p0.enc)] ⟨rfl, trivial⟩ (tr_seq (tr_region (tq (y_assign rfl) (tr_nil (tr_thenN (tr_seq (tr_seq (tr_region (tq (y_move rfl) (tq (y_len (ts := #[]) Tryz.runUnderlying104 (o := p0.ptr) (n := p0.len) (cap := p0.cap) rfl) (tq (y_eql rfl rfl) (tr_nil ?_)))))))))))));refine tr_thenN ?_;refine tr_cond rfl (fun g1 => ?_) (fun g1 => ?_)
 ·replace H := H.1 g1;refine tr_seq (tr_region (tq (y_assign rfl) (tr_nil (tr_thenN (tr_ret (tr_thenR ?_))))));exact tr_ret1 rfl rfl ⟨_, rfl, H⟩
 ·replace H := H.2 g1;refine tr_skip (tr_thenN (tr_seq (tr_region (tq (y_move rfl) (tq (y_move rfl) (tq (y_len (ts := #[]) Tryz.runUnderlying104 (o := p0.ptr) (n := p0.len) (cap := p0.cap) rfl) (tq (y_sub rfl rfl) ?_)))))));obtain ⟨a2, e3, H⟩ := H;refine tq (f_idx (s := p0) Tryz.runUnderlying104 Tryz.sizeOf146 rfl rfl e3) (tq (y_fa (off := 0) Tryz.runUnderlying146 fo_146_0 rfl) ?_);obtain ⟨y4, k5, H⟩ := H;refine tr_h (y_ld Tryz.isAgg3 rfl) k5 rfl rfl (tq (y_assign rfl) (tr_nil (tr_thenN (tr_ret ?_))));exact tr_ret1 rfl rfl ⟨_, rfl, H⟩
def F.xay.j1 (Q : Sl -> H -> Prop) (x3 : Addr) (x5 : Sl) (h : H) : Prop :=
  ld_S_spateref7_Version h x3 fun y5 =>
  newL h ((y5.cells).toArray) ty_146 1 fun s8 h7 =>
  runL PP (Builtin.append_ #[104, 104] 104 #[x5.enc, s8.enc]) h7 fun s10 h9 =>
  Q s10 h9
def F.xay.j2 (Q : Sl -> H -> Prop) (x3 : Addr) (x5 : Sl) (x6 : Int) (x24 : Bool) (h : H) : Prop :=
  (x24 = true ->
  ld_S_spateref7_Version h x3 fun y12 =>
  idxA x5 (IntKind.wrap .i64 (x6 - 1)) 6 fun a14 =>
  stH h a14 y12.cells fun h16 =>
  Q x5 h16) ∧
  (x24 = false ->
  F.xay.j1 Q x3 x5 h)
def F.xay (p0 : Sl) (p1 : S_spateref7_Version) (h : H) (Q : Sl -> H -> Prop) : Prop :=
  new h p1.cells.toArray ty_146 fun a2 h1 =>
  runL PP (Builtin.append_ #[104, 104] 104 #[(⟨none, 0, 0⟩ : Sl).enc, p0.enc]) h1 fun s4 h3 =>
  ((decide ((s4.len : Int) > 0)) = true ->
  idxA s4 (IntKind.wrap .i64 ((s4.len : Int) - 1)) 6 fun a18 =>
  ldI .i64 h3 (a18.add 0) fun y20 =>
  ldI .i64 h3 (a2.add 0) fun y22 =>
  F.xay.j2 Q a2 s4 (s4.len : Int) ((y20 == y22)) h3) ∧
  ((decide ((s4.len : Int) > 0)) = false ->
  F.xay.j2 Q a2 s4 (s4.len : Int) false h3)
theorem F.xay_ok {p0 : Sl} {p1 : S_spateref7_Version} {h : H} {Q : Sl -> H -> Prop} (H : F.xay p0 p1 h Q) : Fn PP 89 ([p0.enc, (.agg p1.cells.toArray)] : List Value).toArray h fun r h' => ∃ r0, r = r0.enc ∧ Q r0 h' := by
 unfold F.xay at H;refine fn_of Tryz.func89 Tryz.ntmps89 rfl rfl fun w0 => (tr_sub [(0, p0.enc), (1, (.agg p1.cells.toArray))] ⟨rfl, rfl, trivial⟩ (tr_seq (tr_region (tr_e (f_box (cs := p1.cells.toArray) rfl rfl H) rfl rfl ?_))));rintro _ h1 ⟨a2, rfl, H⟩;refine tq (y_assign rfl) (tr_nil (tr_thenN (tr_seq (tr_region (tq (y_assign rfl) (tr_nil (tr_thenN (tr_seq (tr_region (tq (y_move rfl) (tq (y_move rfl) (tr_e (f_app rfl H) rfl rfl ?_))))))))))));rintro _ h3 ⟨s4, rfl, H⟩;refine tq (y_assign rfl) (tr_nil (tr_thenN (tr_seq (tr_region (tq (y_move rfl) (tq (y_len (ts := #[]) Tryz.runUnderlying104 (o := s4.ptr) (n := s4.len) (cap := s4.cap) rfl) (tq (y_assign rfl) (tr_nil (tr_thenN ?_)))))))));refine tr_seq_j (fun L' h => ∃ (x3 : Addr) (x5 : Sl), L' = [(3, (.pointer (some x3))), (5, x5.enc)] ∧ F.xay.j1 Q x3 x5 h) ?_ ?_
 ·rintro L' h ⟨x3, x5, rfl, H⟩;unfold F.xay.j1 at H;refine tr_seq (tr_region (tq (y_move rfl) ?_));obtain ⟨y5, k6, H⟩ := H;refine tr_h (y_ldS Tryz.isAgg146 Tryz.sizeOf146 rfl rfl) k6 rfl rfl (tr_e (f_buildL (cs := (y5.cells).toArray) rfl rfl (bl_104_1_0 y5) H) rfl rfl ?_);rintro _ h7 ⟨s8, rfl, H⟩;refine tr_e (f_app rfl H) rfl rfl ?_;rintro _ h9 ⟨s10, rfl, H⟩;refine tq (y_assign rfl) (tr_nil (tr_thenN (tr_ret ?_)));exact tr_ret1 rfl rfl ⟨_, rfl, H⟩
 ·refine tr_seq_j (fun L' h => ∃ (x3 : Addr) (x5 : Sl) (x6 : Int) (x24 : Bool), L' = [(3, (.pointer (some x3))), (5, x5.enc), (6, (.int .i64 x6)), (24, (.bool x24))] ∧ F.xay.j2 Q x3 x5 x6 x24 h) ?_ ?_
  ·rintro L' h ⟨x3, x5, x6, x24, rfl, H⟩;unfold F.xay.j2 at H;refine tr_cond rfl (fun g11 => ?_) (fun g11 => ?_)
   ·replace H := H.1 g11;refine tr_seq (tr_region (tq (y_move rfl) (tq (y_move rfl) (tq (y_sub rfl rfl) ?_))));obtain ⟨y12, k13, H⟩ := H;refine tr_h (y_ldS Tryz.isAgg146 Tryz.sizeOf146 rfl rfl) k13 rfl rfl ?_;obtain ⟨a14, e15, H⟩ := H;refine tq (f_idx (s := x5) Tryz.runUnderlying104 Tryz.sizeOf146 rfl rfl e15) (tr_e (f_store (vs := y12.cells) Tryz.sizeOf146 rfl rfl cellsOfStruct rfl (by intro v hv; exact ones_S_spateref7_Version _ v hv) H) rfl rfl ?_);rintro _ h16 ⟨rfl, H⟩;refine tr_nil (tr_thenN (tr_seq (tr_region (tq (y_move rfl) (tq (y_assign rfl) (tr_nil (tr_thenN (tr_ret (tr_thenR ?_)))))))));exact tr_ret1 rfl rfl ⟨_, rfl, H⟩
   ·replace H := H.2 g11;refine tr_skip (tr_thenN ?_);exact tr_join [(3, (.pointer (some x3))), (5, x5.enc)] ⟨rfl, rfl, trivial⟩ ⟨_, _, rfl, H⟩
  ·refine tr_draw mixed [0, 1, 3, 7, 7, 23, 63, 127, 255, 7, 519, 2047, 4095] (by kernel_rfl) (g_p 0 1 rfl (by kernel_rfl) (y_move rfl) rfl rfl (g_p 1 3 rfl (by kernel_rfl) (y_gtr rfl rfl) rfl rfl (g_p 2 7 rfl (by kernel_rfl) (y_move rfl) rfl rfl ?_)));refine g_split (t := 14) rfl (fun g17 => ?_) (fun g17 => ?_)
   ·replace H := H.1 g17;refine g_p 3 15 rfl (by kernel_rfl) (y_move rfl) rfl rfl (g_p 4 31 rfl (by kernel_rfl) (y_move rfl) rfl rfl (g_p 5 63 rfl (by kernel_rfl) (y_sub rfl rfl) rfl rfl ?_));obtain ⟨a18, e19, H⟩ := H;refine g_p 6 127 rfl (by kernel_rfl) (f_idx (s := s4) Tryz.runUnderlying104 Tryz.sizeOf146 rfl rfl e19) rfl rfl (g_p 7 255 rfl (by kernel_rfl) (y_fa (off := 0) Tryz.runUnderlying146 fo_146_0 rfl) rfl rfl ?_);obtain ⟨y20, k21, H⟩ := H;refine g_h 8 511 rfl (by kernel_rfl) (y_ld Tryz.isAgg3 rfl) k21 rfl rfl (g_p 9 1023 rfl (by kernel_rfl) (y_fa (off := 0) Tryz.runUnderlying146 fo_146_0 rfl) rfl rfl ?_);obtain ⟨y22, k23, H⟩ := H;refine g_h 10 2047 rfl (by kernel_rfl) (y_ld Tryz.isAgg3 rfl) k23 rfl rfl (g_p 11 4095 rfl (by kernel_rfl) (y_eql rfl rfl) rfl rfl (g_p 12 8191 rfl (by kernel_rfl) (y_pick_t rfl rfl) rfl rfl (g_d (by kernel_rfl) (tr_thenN ?_))));exact tr_join [(3, (.pointer (some a2))), (5, s4.enc), (6, (.int .i64 (s4.len : Int))), (24, (.bool ((y20 == y22))))] ⟨rfl, rfl, rfl, rfl, trivial⟩ ⟨_, _, _, _, rfl, H⟩
   ·replace H := H.2 g17;refine g_s 3 15 rfl (by kernel_rfl) rfl rfl (g_s 4 31 rfl (by kernel_rfl) rfl rfl (g_s 5 63 rfl (by kernel_rfl) rfl rfl (g_s 6 127 rfl (by kernel_rfl) rfl rfl (g_s 7 255 rfl (by kernel_rfl) rfl rfl (g_s 8 511 rfl (by kernel_rfl) rfl rfl (g_s 9 1023 rfl (by kernel_rfl) rfl rfl (g_s 10 2047 rfl (by kernel_rfl) rfl rfl (g_s 11 4095 rfl (by kernel_rfl) rfl rfl (g_p 12 8191 rfl (by kernel_rfl) (y_pick_f rfl rfl) rfl rfl (g_d (by kernel_rfl) (tr_thenN ?_)))))))))));exact tr_join [(3, (.pointer (some a2))), (5, s4.enc), (6, (.int .i64 (s4.len : Int))), (24, (.bool false))] ⟨rfl, rfl, rfl, rfl, trivial⟩ ⟨_, _, _, _, rfl, H⟩
def F.xav.j1 (Q : Int -> H -> Prop) (x3 : Int) (h : H) : Prop :=
  Q x3 h
def F.xav.j2 (Q : Int -> H -> Prop) (x3 : Int) (x16 : Bool) (h : H) : Prop :=
  (x16 = true ->
  F.xav.j1 Q (IntKind.wrap .i64 (x3 + 1)) h) ∧
  (x16 = false ->
  F.xav.j1 Q x3 h)
def F.xav (p0 : Sl) (h : H) (Q : Int -> H -> Prop) : Prop :=
  ((decide ((p0.len : Int) > 0)) = true ->
  idxA p0 (IntKind.wrap .i64 ((p0.len : Int) - 1)) 6 fun a3 =>
  ldB h (a3.add 5) fun y5 =>
  F.xav.j2 Q (p0.len : Int) (!y5) h) ∧
  ((decide ((p0.len : Int) > 0)) = false ->
  F.xav.j2 Q (p0.len : Int) false h)
theorem F.xav_ok {p0 : Sl} {h : H} {Q : Int -> H -> Prop} (H : F.xav p0 h Q) : Fn PP 90 ([p0.enc] : List Value).toArray h fun r h' => ∃ r0, r = (.int .i64 r0) ∧ Q r0 h' := by
 unfold F.xav at H;refine fn_of Tryz.func90 Tryz.ntmps90 rfl rfl fun w0 => (tr_sub [(0, p0.enc)] ⟨rfl, trivial⟩ (tr_seq (tr_region (tq (y_assign rfl) (tr_nil (tr_thenN (tr_seq (tr_region (tq (y_move rfl) (tq (y_len (ts := #[]) Tryz.runUnderlying104 (o := p0.ptr) (n := p0.len) (cap := p0.cap) rfl) (tq (y_assign rfl) (tr_nil (tr_thenN ?_)))))))))))));refine tr_seq_j (fun L' h => ∃ (x3 : Int), L' = [(3, (.int .i64 x3))] ∧ F.xav.j1 Q x3 h) ?_ ?_
 ·rintro L' h ⟨x3, rfl, H⟩;unfold F.xav.j1 at H;refine tr_seq (tr_region (tq (y_move rfl) (tq (y_assign rfl) (tr_nil (tr_thenN (tr_ret ?_))))));exact tr_ret1 rfl rfl ⟨_, rfl, H⟩
 ·refine tr_seq_j (fun L' h => ∃ (x3 : Int) (x16 : Bool), L' = [(3, (.int .i64 x3)), (16, (.bool x16))] ∧ F.xav.j2 Q x3 x16 h) ?_ ?_
  ·rintro L' h ⟨x3, x16, rfl, H⟩;unfold F.xav.j2 at H;refine tr_cond rfl (fun g1 => ?_) (fun g1 => ?_)
   ·replace H := H.1 g1;refine tr_region (tq (y_move rfl) (tq (y_add rfl rfl) (tq (y_assign rfl) (tr_nil (tr_thenN ?_)))));exact tr_join [(3, (.int .i64 (IntKind.wrap .i64 (x3 + 1))))] ⟨rfl, trivial⟩ ⟨_, rfl, H⟩
   ·replace H := H.2 g1;refine tr_skip (tr_thenN ?_);exact tr_join [(3, (.int .i64 x3))] ⟨rfl, trivial⟩ ⟨_, rfl, H⟩
  ·refine tr_region (tq (y_move rfl) (tq (y_gtr rfl rfl) (tq (y_move rfl) ?_)));refine tr_split (t := 8) rfl (fun g2 => ?_) (fun g2 => ?_)
   ·replace H := H.1 g2;refine tq (y_move rfl) (tq (y_move rfl) (tq (y_sub rfl rfl) ?_));obtain ⟨a3, e4, H⟩ := H;refine tq (f_idx (s := p0) Tryz.runUnderlying104 Tryz.sizeOf146 rfl rfl e4) (tq (y_fa (off := 5) Tryz.runUnderlying146 fo_146_2 rfl) ?_);obtain ⟨y5, k6, H⟩ := H;refine tr_h (y_ld Tryz.isAgg4 rfl) k6 rfl rfl (tq (y_not rfl) (tq (y_pick_t rfl rfl) (tr_nil (tr_thenN ?_))));exact tr_join [(3, (.int .i64 (p0.len : Int))), (16, (.bool (!y5)))] ⟨rfl, rfl, trivial⟩ ⟨_, _, rfl, H⟩
   ·replace H := H.2 g2;refine ts (ts (ts (ts (ts (ts (ts (tq (y_pick_f rfl rfl) (tr_nil (tr_thenN ?_)))))))));exact tr_join [(3, (.int .i64 (p0.len : Int))), (16, (.bool false))] ⟨rfl, rfl, trivial⟩ ⟨_, _, rfl, H⟩
def F.xbm.l1 (Q : Int -> H -> Prop) : Nat -> (Option Addr) -> Int -> Int -> H -> Prop
  | 0, _, _, _, _ => False
  | q1 + 1, x0, x3, x4, h =>
    nn x0 fun a1 =>
    ldL h (a1.add 1) fun y3 =>
    ((decide (x4 < (y3.len : Int))) = true ->
    nn x0 fun a6 =>
    ldL h (a6.add 1) fun y8 =>
    idxA y8 x4 4 fun a10 =>
    ldL h (a10.add 3) fun y12 =>
    F.xav y12 h fun r15 h14 =>
    (F.xbm.l1 Q q1) x0 (IntKind.wrap .i64 (x3 + r15)) (IntKind.wrap .i64 (x4 + 1)) h14) ∧
    ((decide (x4 < (y3.len : Int))) = false ->
    Q x3 h)
def F.xbm (p0 : Option Addr) (h : H) (Q : Int -> H -> Prop) : Prop :=
  ∃ m, F.xbm.l1 Q m p0 0 0 h
theorem F.xbm_ok {p0 : Option Addr} {h : H} {Q : Int -> H -> Prop} (H : F.xbm p0 h Q) : Fn PP 55 ([(.pointer p0)] : List Value).toArray h fun r h' => ∃ r0, r = (.int .i64 r0) ∧ Q r0 h' := by
 unfold F.xbm at H;refine fn_of Tryz.func55 Tryz.ntmps55 rfl rfl fun w0 => (tr_sub [(0, (.pointer p0))] ⟨rfl, trivial⟩ (tr_seq (tr_region (tq (y_assign rfl) (tr_nil (tr_thenN (tr_seq (tr_region (tq (y_assign rfl) (tr_nil (tr_thenN (tr_seq (tr_seq ?_)))))))))))));refine tr_region (tq (y_assign rfl) (tr_nil (tr_thenN (tr_block ?_))));obtain ⟨m16, H⟩ := H;refine tr_sub [(0, (.pointer p0)), (3, (.int .i64 0)), (4, (.int .i64 0))] ⟨rfl, rfl, rfl, trivial⟩ ?_;refine tr_loop_j (fun m L' h => ∃ (x0 : Option Addr) (x3 : Int) (x4 : Int), L' = [(0, (.pointer x0)), (3, (.int .i64 x3)), (4, (.int .i64 x4))] ∧ F.xbm.l1 Q m x0 x3 x4 h) ?_ ?_ m16 ⟨_, _, _, rfl, H⟩
 ·rintro L' h ⟨_, _, _, _, H⟩; exact H
 ·rintro q1 L' h ⟨x0, x3, x4, rfl, H⟩;unfold F.xbm.l1 at H;refine tr_seq (tr_seq (tr_region (tq (y_move rfl) (tq (y_move rfl) ?_))));obtain ⟨a1, e2, H⟩ := H;refine tq (f_nn rfl e2) (tq (y_fa (off := 1) Tryz.runUnderlying91 fo_91_1 rfl) ?_);obtain ⟨y3, k4, H⟩ := H;refine tr_h (y_ld Tryz.isAgg89 rfl) k4 rfl rfl (tq (y_len (ts := #[]) Tryz.runUnderlying89 (o := y3.ptr) (n := y3.len) (cap := y3.cap) rfl) (tq (y_lss rfl rfl) (tr_nil (tr_thenN ?_))));refine tr_cond rfl (fun g5 => ?_) (fun g5 => ?_)
  ·replace H := H.1 g5;refine tr_skip (tr_thenN (tr_seq (tr_block (tr_region (tq (y_move rfl) (tq (y_move rfl) ?_))))));obtain ⟨a6, e7, H⟩ := H;refine tq (f_nn rfl e7) (tq (y_fa (off := 1) Tryz.runUnderlying91 fo_91_1 rfl) ?_);obtain ⟨y8, k9, H⟩ := H;refine tr_h (y_ld Tryz.isAgg89 rfl) k9 rfl rfl (tq (y_move rfl) ?_);obtain ⟨a10, e11, H⟩ := H;refine tq (f_idx (s := y8) Tryz.runUnderlying89 Tryz.sizeOf106 rfl rfl e11) (tq (y_fa (off := 3) Tryz.runUnderlying106 fo_106_1 rfl) ?_);obtain ⟨y12, k13, H⟩ := H;refine tr_h (y_ld Tryz.isAgg104 rfl) k13 rfl rfl (tr_e (e_call Tryz.call90 rfl (F.xav_ok H)) rfl rfl ?_);rintro _ h14 ⟨r15, rfl, H⟩;refine tq (y_add rfl rfl) (tq (y_assign rfl) (tr_nil (tr_blockN (tr_thenN (tr_region (tq (y_move rfl) (tq (y_add rfl rfl) (tq (y_assign rfl) (tr_nil (tr_thenN ?_))))))))));exact tr_join [(0, (.pointer x0)), (3, (.int .i64 (IntKind.wrap .i64 (x3 + r15)))), (4, (.int .i64 (IntKind.wrap .i64 (x4 + 1))))] ⟨rfl, rfl, rfl, trivial⟩ ⟨_, _, _, rfl, H⟩
  ·replace H := H.2 g5;refine tr_exit (tr_thenE (tr_thenE (tr_hit (tr_thenN (tr_seq (tr_region (tq (y_move rfl) (tq (y_assign rfl) (tr_nil (tr_thenN (tr_ret ?_)))))))))));exact tr_ret1 rfl rfl ⟨_, rfl, H⟩
def F.xbq.j1 (Q : H -> Prop) (x0 : Option Addr) (x6 : Int) (x8 : Sl) (h : H) : Prop :=
  nn x0 fun a22 =>
  ldL h (a22.add 1) fun y24 =>
  cutL y24 x6 (y24.len : Int) 4 fun s27 =>
  runL PP (Builtin.append_ #[89, 89] 89 #[x8.enc, s27.enc]) h fun s29 h28 =>
  nn x0 fun a30 =>
  stH h28 (a30.add 1) [s29.enc] fun h32 =>
  Q h32
def F.xbq (p0 : Option Addr) (p1 : S_api_Cell) (p2 : Sl) (h : H) (Q : H -> Prop) : Prop :=
  new h p1.cells.toArray ty_32 fun a2 h1 =>
  ld_S_api_Cell h1 a2 fun y3 =>
  F.xbr p0 y3 h1 fun r6 r7 h5 =>
  nn p0 fun a8 =>
  ldL h5 (a8.add 1) fun y10 =>
  cutL y10 0 r6 4 fun s13 =>
  runL PP (Builtin.append_ #[89, 89] 89 #[(⟨none, 0, 0⟩ : Sl).enc, s13.enc]) h5 fun s15 h14 =>
  ld_S_api_Cell h14 a2 fun y16 =>
  newL h14 (((⟨y16, p2⟩ : S_spateref7_Held).cells).toArray) ty_106 1 fun s19 h18 =>
  runL PP (Builtin.append_ #[89, 89] 89 #[s15.enc, s19.enc]) h18 fun s21 h20 =>
  (r7 = true ->
  F.xbq.j1 Q p0 (IntKind.wrap .i64 (r6 + 1)) s21 h20) ∧
  (r7 = false ->
  F.xbq.j1 Q p0 r6 s21 h20)
theorem F.xbq_ok {p0 : Option Addr} {p1 : S_api_Cell} {p2 : Sl} {h : H} {Q : H -> Prop} (H : F.xbq p0 p1 p2 h Q) : Fn PP 91 ([(.pointer p0), (.agg p1.cells.toArray), p2.enc] : List Value).toArray h fun r h' => r = .tuple #[] ∧ Q  h' := by
 unfold F.xbq at H;refine fn_of Tryz.func91 Tryz.ntmps91 rfl rfl fun w0 => (tr_sub [(0, (.pointer p0)), (1, (.agg p1.cells.toArray)), (2, p2.enc)] ⟨rfl, rfl, rfl, trivial⟩ (tr_seq (tr_region (tr_e (f_box (cs := p1.cells.toArray) rfl rfl H) rfl rfl ?_))));rintro _ h1 ⟨a2, rfl, H⟩;refine tr_nil (tr_thenN (tr_seq (tr_region (tq (y_move rfl) ?_))));obtain ⟨y3, k4, H⟩ := H;refine tr_h (y_ldS Tryz.isAgg32 Tryz.sizeOf32 rfl rfl) k4 rfl rfl (tr_e (e_call Tryz.call93 rfl (F.xbr_ok H)) rfl rfl ?_);rintro _ h5 ⟨r6, r7, rfl, H⟩;refine tq (y_move rfl) (tq (y_ext rfl rfl) (tq (y_ext rfl rfl) (tq (y_assign rfl) (tq (y_assign rfl) (tr_nil (tr_thenN (tr_seq (tr_region (tq (y_assign rfl) (tr_nil (tr_thenN (tr_seq (tr_region ?_)))))))))))));refine tq (y_move rfl) (tq (y_move rfl) ?_);obtain ⟨a8, e9, H⟩ := H;refine tq (f_nn rfl e9) (tq (y_fa (off := 1) Tryz.runUnderlying91 fo_91_1 rfl) ?_);obtain ⟨y10, k11, H⟩ := H;refine tr_h (y_ld Tryz.isAgg89 rfl) k11 rfl rfl (tq (y_move rfl) ?_);obtain ⟨s13, e12, H⟩ := H;refine tq (f_cutL (s := y10) none (some (.i64, r6)) Tryz.runUnderlying89 Tryz.sizeOf106 rfl rfl rfl e12) (tr_e (f_app rfl H) rfl rfl ?_);rintro _ h14 ⟨s15, rfl, H⟩;refine tq (y_assign rfl) (tr_nil (tr_thenN (tr_seq (tr_region (tq (y_move rfl) ?_)))));obtain ⟨y16, k17, H⟩ := H;refine tr_h (y_ldS Tryz.isAgg32 Tryz.sizeOf32 rfl rfl) k17 rfl rfl (tq (y_move rfl) (tq (f_build rfl (bd_106_0_1 y16 p2)) (tr_e (f_buildL (cs := ((⟨y16, p2⟩ : S_spateref7_Held).cells).toArray) rfl rfl (bl_89_1_0 (⟨y16, p2⟩ : S_spateref7_Held)) H) rfl rfl ?_)));rintro _ h18 ⟨s19, rfl, H⟩;refine tr_e (f_app rfl H) rfl rfl ?_;rintro _ h20 ⟨s21, rfl, H⟩;refine tq (y_assign rfl) (tr_nil (tr_thenN ?_));refine tr_seq_j (fun L' h => ∃ (x0 : Option Addr) (x6 : Int) (x8 : Sl), L' = [(0, (.pointer x0)), (6, (.int .i64 x6)), (8, x8.enc)] ∧ F.xbq.j1 Q x0 x6 x8 h) ?_ ?_
 ·rintro L' h ⟨x0, x6, x8, rfl, H⟩;unfold F.xbq.j1 at H;refine tr_region (tq (y_move rfl) (tq (y_move rfl) (tq (y_move rfl) ?_)));obtain ⟨a22, e23, H⟩ := H;refine tq (f_nn rfl e23) (tq (y_fa (off := 1) Tryz.runUnderlying91 fo_91_1 rfl) ?_);obtain ⟨y24, k25, H⟩ := H;refine tr_h (y_ld Tryz.isAgg89 rfl) k25 rfl rfl (tq (y_move rfl) ?_);obtain ⟨s27, e26, H⟩ := H;refine tq (f_cutL (s := y24) (some (.i64, x6)) none Tryz.runUnderlying89 Tryz.sizeOf106 rfl rfl rfl e26) (tr_e (f_app rfl H) rfl rfl ?_);rintro _ h28 ⟨s29, rfl, H⟩;obtain ⟨a30, e31, H⟩ := H;refine tq (f_nn rfl e31) (tq (y_fa (off := 1) Tryz.runUnderlying91 fo_91_1 rfl) (tr_e (f_store (vs := [s29.enc]) Tryz.sizeOf89 rfl rfl rfl rfl (one1 rfl) H) rfl rfl ?_));rintro _ h32 ⟨rfl, H⟩;refine tr_nil ?_;exact tr_end0 rfl ⟨rfl, H⟩
 ·refine tr_seq (tr_region (tq (y_move rfl) (tr_nil (tr_thenN ?_))));refine tr_cond rfl (fun g33 => ?_) (fun g33 => ?_)
  ·replace H := H.1 g33;refine tr_region (tq (y_move rfl) (tq (y_add rfl rfl) (tq (y_assign rfl) (tr_nil (tr_thenN ?_)))));exact tr_join [(0, (.pointer p0)), (6, (.int .i64 (IntKind.wrap .i64 (r6 + 1)))), (8, s21.enc)] ⟨rfl, rfl, rfl, trivial⟩ ⟨_, _, _, rfl, H⟩
  ·replace H := H.2 g33;refine tr_skip (tr_thenN ?_);exact tr_join [(0, (.pointer p0)), (6, (.int .i64 r6)), (8, s21.enc)] ⟨rfl, rfl, rfl, trivial⟩ ⟨_, _, _, rfl, H⟩
def F.xcs (p0 : Int) (h : H) (Q : Int -> H -> Prop) : Prop :=
  ((decide (p0 < 0)) = true ->
  Q (IntKind.wrap .u64 (0 - (IntKind.wrap .u64 p0))) h) ∧
  ((decide (p0 < 0)) = false ->
  Q (IntKind.wrap .u64 p0) h)
theorem F.xcs_ok {p0 : Int} {h : H} {Q : Int -> H -> Prop} (H : F.xcs p0 h Q) : Fn PP 134 ([(.int .i64 p0)] : List Value).toArray h fun r h' => ∃ r0, r = (.int .u64 r0) ∧ Q r0 h' := by
 unfold F.xcs at H;refine fn_of Tryz.func134 Tryz.ntmps134 rfl rfl fun w0 => (tr_sub [(0, (.int .i64 p0))] ⟨rfl, trivial⟩ (tr_seq (tr_region (tq (y_assign rfl) (tr_nil (tr_thenN (tr_seq (tr_seq (tr_region (tq (y_move rfl) (tq (y_lss rfl rfl) (tr_nil (tr_thenN ?_)))))))))))));refine tr_cond rfl (fun g1 => ?_) (fun g1 => ?_)
 ·replace H := H.1 g1;refine tr_seq (tr_region (tq (y_move rfl) (tq (y_cvt Tryz.runUnderlying2 Tryz.runUnderlying121 rfl) (tq (y_sub rfl rfl) (tq (y_assign rfl) (tr_nil (tr_thenN (tr_ret (tr_thenR ?_)))))))));exact tr_ret1 rfl rfl ⟨_, rfl, H⟩
 ·replace H := H.2 g1;refine tr_skip (tr_thenN (tr_seq (tr_region (tq (y_move rfl) (tq (y_cvt Tryz.runUnderlying2 Tryz.runUnderlying121 rfl) (tq (y_assign rfl) (tr_nil (tr_thenN (tr_ret ?_)))))))));exact tr_ret1 rfl rfl ⟨_, rfl, H⟩
def F.xau.j1 (Q : S_spateref3_Wide -> H -> Prop) (x4 : Addr) (x14 : Addr) (h : H) : Prop :=
  ld_S_spateref3_Wide h x14 fun y15 =>
  stH h x4 y15.cells fun h17 =>
  ld_S_spateref3_Wide h17 x4 fun y18 =>
  Q y18 h17
def F.xau.j2 (Q : S_spateref3_Wide -> H -> Prop) (x4 : Addr) (x14 : Addr) (x67 : Bool) (h : H) : Prop :=
  (x67 = true ->
  stH h (x14.add 0) [(.bool false)] fun h21 =>
  F.xau.j1 Q x4 x14 h21) ∧
  (x67 = false ->
  F.xau.j1 Q x4 x14 h)
def F.xau (p0 : Int) (p1 : Int) (h : H) (Q : S_spateref3_Wide -> H -> Prop) : Prop :=
  new h (((⟨false, 0, 0⟩ : S_spateref3_Wide) : S_spateref3_Wide).cells.toArray) ty_177 fun a2 h1 =>
  F.xcs p0 h1 fun r4 h3 =>
  F.xcs p1 h3 fun r6 h5 =>
  0 <= (32 : Int) ∧
  0 <= (32 : Int) ∧
  0 <= (32 : Int) ∧
  0 <= (32 : Int) ∧
  0 <= (32 : Int) ∧
  new h5 (((⟨false, 0, 0⟩ : S_spateref3_Wide) : S_spateref3_Wide).cells.toArray) ty_177 fun a13 h12 =>
  stH h12 a13 ((⟨(!((decide (p0 < 0)) == (decide (p1 < 0)))), (IntKind.wrap .u64 ((IntKind.wrap .u64 ((IntKind.wrap .u64 ((Int.fdiv r4 (2 ^ (min (32 : Int).toNat (IntKind.bits .u64)) : Int)) * (Int.fdiv r6 (2 ^ (min (32 : Int).toNat (IntKind.bits .u64)) : Int)))) + (Int.fdiv (IntKind.wrap .u64 ((IntKind.wrap .u64 ((Int.fdiv r4 (2 ^ (min (32 : Int).toNat (IntKind.bits .u64)) : Int)) * (bitsOf .and .u64 r6 4294967295))) + (Int.fdiv (IntKind.wrap .u64 ((bitsOf .and .u64 r4 4294967295) * (bitsOf .and .u64 r6 4294967295))) (2 ^ (min (32 : Int).toNat (IntKind.bits .u64)) : Int)))) (2 ^ (min (32 : Int).toNat (IntKind.bits .u64)) : Int)))) + (Int.fdiv (IntKind.wrap .u64 ((IntKind.wrap .u64 ((bitsOf .and .u64 r4 4294967295) * (Int.fdiv r6 (2 ^ (min (32 : Int).toNat (IntKind.bits .u64)) : Int)))) + (bitsOf .and .u64 (IntKind.wrap .u64 ((IntKind.wrap .u64 ((Int.fdiv r4 (2 ^ (min (32 : Int).toNat (IntKind.bits .u64)) : Int)) * (bitsOf .and .u64 r6 4294967295))) + (Int.fdiv (IntKind.wrap .u64 ((bitsOf .and .u64 r4 4294967295) * (bitsOf .and .u64 r6 4294967295))) (2 ^ (min (32 : Int).toNat (IntKind.bits .u64)) : Int)))) 4294967295))) (2 ^ (min (32 : Int).toNat (IntKind.bits .u64)) : Int)))), (IntKind.wrap .u64 (r4 * r6))⟩ : S_spateref3_Wide).cells) fun h14 =>
  ldI .u64 h14 (a13.add 1) fun y22 =>
  (((y22 == 0)) = true ->
  ldI .u64 h14 (a13.add 2) fun y25 =>
  F.xau.j2 Q a2 a13 ((y25 == 0)) h14) ∧
  (((y22 == 0)) = false ->
  F.xau.j2 Q a2 a13 false h14)
theorem F.xau_ok {p0 : Int} {p1 : Int} {h : H} {Q : S_spateref3_Wide -> H -> Prop} (H : F.xau p0 p1 h Q) : Fn PP 119 ([(.int .i64 p0), (.int .i64 p1)] : List Value).toArray h fun r h' => ∃ r0, r = (.agg r0.cells.toArray) ∧ Q r0 h' := by
 unfold F.xau at H;refine fn_of Tryz.func119 Tryz.ntmps119 rfl rfl fun w0 => (tr_sub [(0, (.int .i64 p0)), (1, (.int .i64 p1))] ⟨rfl, rfl, trivial⟩ (tr_seq (tr_region (tr_e (f_alloc (cs := ((⟨false, 0, 0⟩ : S_spateref3_Wide) : S_spateref3_Wide).cells.toArray) Tryz.zeroValue177 rfl H) rfl rfl ?_))));rintro _ h1 ⟨a2, rfl, H⟩;refine tr_nil (tr_thenN (tr_seq (tr_region (tq (y_move rfl) (tr_e (e_call Tryz.call134 rfl (F.xcs_ok H)) rfl rfl ?_)))));rintro _ h3 ⟨r4, rfl, H⟩;refine tq (y_assign rfl) (tr_nil (tr_thenN (tr_seq (tr_region (tq (y_move rfl) (tr_e (e_call Tryz.call134 rfl (F.xcs_ok H)) rfl rfl ?_))))));rintro _ h5 ⟨r6, rfl, H⟩;refine tq (y_assign rfl) (tr_nil (tr_thenN (tr_seq (tr_region (tq (y_move rfl) ?_)))));obtain ⟨e7, H⟩ := H;refine tq (y_shr rfl rfl e7) (tq (y_assign rfl) (tr_nil (tr_thenN (tr_seq (tr_region (tq (y_move rfl) (tq (y_and rfl rfl) (tq (y_assign rfl) (tr_nil (tr_thenN (tr_seq (tr_region (tq (y_move rfl) ?_)))))))))))));obtain ⟨e8, H⟩ := H;refine tq (y_shr rfl rfl e8) (tq (y_assign rfl) (tr_nil (tr_thenN (tr_seq (tr_region (tq (y_move rfl) (tq (y_and rfl rfl) (tq (y_assign rfl) (tr_nil (tr_thenN (tr_seq (tr_region (tq (y_move rfl) ?_)))))))))))));refine tq (y_move rfl) (tq (y_mul rfl rfl) (tq (y_assign rfl) (tr_nil (tr_thenN (tr_seq (tr_region (tq (y_move rfl) (tq (y_move rfl) (tq (y_mul rfl rfl) (tq (y_move rfl) ?_))))))))));obtain ⟨e9, H⟩ := H;refine tq (y_shr rfl rfl e9) (tq (y_add rfl rfl) (tq (y_assign rfl) (tr_nil (tr_thenN (tr_seq (tr_region (tq (y_move rfl) (tq (y_move rfl) (tq (y_mul rfl rfl) (tq (y_move rfl) (tq (y_and rfl rfl) (tq (y_add rfl rfl) (tq (y_assign rfl) ?_)))))))))))));refine tr_nil (tr_thenN (tr_seq (tr_region (tq (y_move rfl) (tq (y_lss rfl rfl) (tq (y_move rfl) (tq (y_lss rfl rfl) (tq (y_bneq Tryz.underlying4 rfl rfl) (tq (y_move rfl) (tq (y_move rfl) (tq (y_mul rfl rfl) (tq (y_move rfl) ?_))))))))))));obtain ⟨e10, H⟩ := H;refine tq (y_shr rfl rfl e10) (tq (y_add rfl rfl) (tq (y_move rfl) ?_));obtain ⟨e11, H⟩ := H;refine tq (y_shr rfl rfl e11) (tq (y_add rfl rfl) (tq (y_move rfl) (tq (y_move rfl) (tq (y_mul rfl rfl) (tq (f_build rfl (bd_177_0_1_2 (!((decide (p0 < 0)) == (decide (p1 < 0)))) (IntKind.wrap .u64 ((IntKind.wrap .u64 ((IntKind.wrap .u64 ((Int.fdiv r4 (2 ^ (min (32 : Int).toNat (IntKind.bits .u64)) : Int)) * (Int.fdiv r6 (2 ^ (min (32 : Int).toNat (IntKind.bits .u64)) : Int)))) + (Int.fdiv (IntKind.wrap .u64 ((IntKind.wrap .u64 ((Int.fdiv r4 (2 ^ (min (32 : Int).toNat (IntKind.bits .u64)) : Int)) * (bitsOf .and .u64 r6 4294967295))) + (Int.fdiv (IntKind.wrap .u64 ((bitsOf .and .u64 r4 4294967295) * (bitsOf .and .u64 r6 4294967295))) (2 ^ (min (32 : Int).toNat (IntKind.bits .u64)) : Int)))) (2 ^ (min (32 : Int).toNat (IntKind.bits .u64)) : Int)))) + (Int.fdiv (IntKind.wrap .u64 ((IntKind.wrap .u64 ((bitsOf .and .u64 r4 4294967295) * (Int.fdiv r6 (2 ^ (min (32 : Int).toNat (IntKind.bits .u64)) : Int)))) + (bitsOf .and .u64 (IntKind.wrap .u64 ((IntKind.wrap .u64 ((Int.fdiv r4 (2 ^ (min (32 : Int).toNat (IntKind.bits .u64)) : Int)) * (bitsOf .and .u64 r6 4294967295))) + (Int.fdiv (IntKind.wrap .u64 ((bitsOf .and .u64 r4 4294967295) * (bitsOf .and .u64 r6 4294967295))) (2 ^ (min (32 : Int).toNat (IntKind.bits .u64)) : Int)))) 4294967295))) (2 ^ (min (32 : Int).toNat (IntKind.bits .u64)) : Int)))) (IntKind.wrap .u64 (r4 * r6)))) (tr_e (f_alloc (cs := ((⟨false, 0, 0⟩ : S_spateref3_Wide) : S_spateref3_Wide).cells.toArray) Tryz.zeroValue177 rfl H) rfl rfl ?_))))));rintro _ h12 ⟨a13, rfl, H⟩;refine tr_e (f_store (vs := (⟨(!((decide (p0 < 0)) == (decide (p1 < 0)))), (IntKind.wrap .u64 ((IntKind.wrap .u64 ((IntKind.wrap .u64 ((Int.fdiv r4 (2 ^ (min (32 : Int).toNat (IntKind.bits .u64)) : Int)) * (Int.fdiv r6 (2 ^ (min (32 : Int).toNat (IntKind.bits .u64)) : Int)))) + (Int.fdiv (IntKind.wrap .u64 ((IntKind.wrap .u64 ((Int.fdiv r4 (2 ^ (min (32 : Int).toNat (IntKind.bits .u64)) : Int)) * (bitsOf .and .u64 r6 4294967295))) + (Int.fdiv (IntKind.wrap .u64 ((bitsOf .and .u64 r4 4294967295) * (bitsOf .and .u64 r6 4294967295))) (2 ^ (min (32 : Int).toNat (IntKind.bits .u64)) : Int)))) (2 ^ (min (32 : Int).toNat (IntKind.bits .u64)) : Int)))) + (Int.fdiv (IntKind.wrap .u64 ((IntKind.wrap .u64 ((bitsOf .and .u64 r4 4294967295) * (Int.fdiv r6 (2 ^ (min (32 : Int).toNat (IntKind.bits .u64)) : Int)))) + (bitsOf .and .u64 (IntKind.wrap .u64 ((IntKind.wrap .u64 ((Int.fdiv r4 (2 ^ (min (32 : Int).toNat (IntKind.bits .u64)) : Int)) * (bitsOf .and .u64 r6 4294967295))) + (Int.fdiv (IntKind.wrap .u64 ((bitsOf .and .u64 r4 4294967295) * (bitsOf .and .u64 r6 4294967295))) (2 ^ (min (32 : Int).toNat (IntKind.bits .u64)) : Int)))) 4294967295))) (2 ^ (min (32 : Int).toNat (IntKind.bits .u64)) : Int)))), (IntKind.wrap .u64 (r4 * r6))⟩ : S_spateref3_Wide).cells) Tryz.sizeOf177 rfl rfl cellsOfStruct rfl (by intro v hv; exact ones_S_spateref3_Wide _ v hv) H) rfl rfl ?_;rintro _ h14 ⟨rfl, H⟩;refine tr_nil (tr_thenN ?_);refine tr_seq_j (fun L' h => ∃ (x4 : Addr) (x14 : Addr), L' = [(4, (.pointer (some x4))), (14, (.pointer (some x14)))] ∧ F.xau.j1 Q x4 x14 h) ?_ ?_
 ·rintro L' h ⟨x4, x14, rfl, H⟩;unfold F.xau.j1 at H;refine tr_seq (tr_region ?_);obtain ⟨y15, k16, H⟩ := H;refine tr_h (y_ldS Tryz.isAgg177 Tryz.sizeOf177 rfl rfl) k16 rfl rfl (tr_e (f_store (vs := y15.cells) Tryz.sizeOf177 rfl rfl cellsOfStruct rfl (by intro v hv; exact ones_S_spateref3_Wide _ v hv) H) rfl rfl ?_);rintro _ h17 ⟨rfl, H⟩;refine tr_nil (tr_thenN (tr_ret ?_));obtain ⟨y18, k19, H⟩ := H;exact tr_rv1 rfl (rv_cellS Tryz.isAgg177 Tryz.sizeOf177 rfl rfl k19) ⟨_, rfl, H⟩
 ·refine tr_seq_j (fun L' h => ∃ (x4 : Addr) (x14 : Addr) (x67 : Bool), L' = [(4, (.pointer (some x4))), (14, (.pointer (some x14))), (67, (.bool x67))] ∧ F.xau.j2 Q x4 x14 x67 h) ?_ ?_
  ·rintro L' h ⟨x4, x14, x67, rfl, H⟩;unfold F.xau.j2 at H;refine tr_cond rfl (fun g20 => ?_) (fun g20 => ?_)
   ·replace H := H.1 g20;refine tr_region (tq (y_fa (off := 0) Tryz.runUnderlying177 fo_177_0 rfl) (tr_e (f_store (vs := [(.bool false)]) Tryz.sizeOf4 rfl rfl rfl rfl (one1 rfl) H) rfl rfl ?_));rintro _ h21 ⟨rfl, H⟩;refine tr_nil (tr_thenN ?_);exact tr_join [(4, (.pointer (some x4))), (14, (.pointer (some x14)))] ⟨rfl, rfl, trivial⟩ ⟨_, _, rfl, H⟩
   ·replace H := H.2 g20;refine tr_skip (tr_thenN ?_);exact tr_join [(4, (.pointer (some x4))), (14, (.pointer (some x14)))] ⟨rfl, rfl, trivial⟩ ⟨_, _, rfl, H⟩
  ·refine tr_region (tq (y_fa (off := 1) Tryz.runUnderlying177 fo_177_1 rfl) ?_);obtain ⟨y22, k23, H⟩ := H;refine tr_h (y_ld Tryz.isAgg121 rfl) k23 rfl rfl (tq (y_eql rfl rfl) (tq (y_move rfl) ?_));refine tr_split (t := 63) rfl (fun g24 => ?_) (fun g24 => ?_)
   ·replace H := H.1 g24;refine tq (y_fa (off := 2) Tryz.runUnderlying177 fo_177_2 rfl) ?_;obtain ⟨y25, k26, H⟩ := H;refine tr_h (y_ld Tryz.isAgg121 rfl) k26 rfl rfl (tq (y_eql rfl rfl) (tq (y_pick_t rfl rfl) (tr_nil (tr_thenN ?_))));exact tr_join [(4, (.pointer (some a2))), (14, (.pointer (some a13))), (67, (.bool ((y25 == 0))))] ⟨rfl, rfl, rfl, trivial⟩ ⟨_, _, _, rfl, H⟩
   ·replace H := H.2 g24;refine ts (ts (ts (tq (y_pick_f rfl rfl) (tr_nil (tr_thenN ?_)))));exact tr_join [(4, (.pointer (some a2))), (14, (.pointer (some a13))), (67, (.bool false))] ⟨rfl, rfl, rfl, trivial⟩ ⟨_, _, _, rfl, H⟩
def F.xbo (p0 : Int) (h : H) (Q : S_spateref3_Wide -> H -> Prop) : Prop :=
  new h (((⟨false, 0, 0⟩ : S_spateref3_Wide) : S_spateref3_Wide).cells.toArray) ty_177 fun a2 h1 =>
  F.xau p0 1 h1 fun r4 h3 =>
  stH h3 a2 r4.cells fun h5 =>
  ld_S_spateref3_Wide h5 a2 fun y6 =>
  Q y6 h5
theorem F.xbo_ok {p0 : Int} {h : H} {Q : S_spateref3_Wide -> H -> Prop} (H : F.xbo p0 h Q) : Fn PP 118 ([(.int .i64 p0)] : List Value).toArray h fun r h' => ∃ r0, r = (.agg r0.cells.toArray) ∧ Q r0 h' := by
 unfold F.xbo at H;refine fn_of Tryz.func118 Tryz.ntmps118 rfl rfl fun w0 => (tr_sub [(0, (.int .i64 p0))] ⟨rfl, trivial⟩ (tr_seq (tr_region (tr_e (f_alloc (cs := ((⟨false, 0, 0⟩ : S_spateref3_Wide) : S_spateref3_Wide).cells.toArray) Tryz.zeroValue177 rfl H) rfl rfl ?_))));rintro _ h1 ⟨a2, rfl, H⟩;refine tr_nil (tr_thenN (tr_seq (tr_region (tq (y_move rfl) (tr_e (e_call Tryz.call119 rfl (F.xau_ok H)) rfl rfl ?_)))));rintro _ h3 ⟨r4, rfl, H⟩;refine tr_e (f_store (vs := r4.cells) Tryz.sizeOf177 rfl rfl cellsOfStruct rfl (by intro v hv; exact ones_S_spateref3_Wide _ v hv) H) rfl rfl ?_;rintro _ h5 ⟨rfl, H⟩;refine tr_nil (tr_thenN (tr_ret ?_));obtain ⟨y6, k7, H⟩ := H;exact tr_rv1 rfl (rv_cellS Tryz.isAgg177 Tryz.sizeOf177 rfl rfl k7) ⟨_, rfl, H⟩
def F.xco (p0 : S_spateref3_Wide) (p1 : S_spateref3_Wide) (h : H) (Q : Bool -> H -> Prop) : Prop :=
  new h p0.cells.toArray ty_177 fun a2 h1 =>
  new h1 p1.cells.toArray ty_177 fun a4 h3 =>
  ldI .u64 h3 (a2.add 1) fun y5 =>
  ldI .u64 h3 (a4.add 1) fun y7 =>
  ((decide (y5 > y7)) = true ->
  Q true h3) ∧
  ((decide (y5 > y7)) = false ->
  ldI .u64 h3 (a2.add 1) fun y10 =>
  ldI .u64 h3 (a4.add 1) fun y12 =>
  (((y10 == y12)) = true ->
  ldI .u64 h3 (a2.add 2) fun y15 =>
  ldI .u64 h3 (a4.add 2) fun y17 =>
  Q (decide (y15 > y17)) h3) ∧
  (((y10 == y12)) = false ->
  Q false h3))
theorem F.xco_ok {p0 : S_spateref3_Wide} {p1 : S_spateref3_Wide} {h : H} {Q : Bool -> H -> Prop} (H : F.xco p0 p1 h Q) : Fn PP 133 ([(.agg p0.cells.toArray), (.agg p1.cells.toArray)] : List Value).toArray h fun r h' => ∃ r0, r = (.bool r0) ∧ Q r0 h' := by
 unfold F.xco at H;refine fn_of Tryz.func133 Tryz.ntmps133 rfl rfl fun w0 => (tr_sub [(0, (.agg p0.cells.toArray)), (1, (.agg p1.cells.toArray))] ⟨rfl, rfl, trivial⟩ (tr_seq (tr_region (tr_e (f_box (cs := p0.cells.toArray) rfl rfl H) rfl rfl ?_))));rintro _ h1 ⟨a2, rfl, H⟩;refine tr_e (f_box (cs := p1.cells.toArray) rfl rfl H) rfl rfl ?_;rintro _ h3 ⟨a4, rfl, H⟩;refine tq (y_assign rfl) (tr_nil (tr_thenN (tr_seq (tr_region (tq (y_fa (off := 1) Tryz.runUnderlying177 fo_177_1 rfl) ?_)))));obtain ⟨y5, k6, H⟩ := H;refine tr_h (y_ld Tryz.isAgg121 rfl) k6 rfl rfl (tq (y_fa (off := 1) Tryz.runUnderlying177 fo_177_1 rfl) ?_);obtain ⟨y7, k8, H⟩ := H;refine tr_h (y_ld Tryz.isAgg121 rfl) k8 rfl rfl (tq (y_gtr rfl rfl) (tq (y_move rfl) ?_));refine tr_split (t := 10) rfl (fun g9 => ?_) (fun g9 => ?_)
 ·replace H := H.1 g9;refine ts (ts (ts (ts (ts (ts (ts (ts (ts (ts (ts (ts (tq (y_pick_t rfl rfl) (tq (y_assign rfl) ?_)))))))))))));refine tr_nil (tr_thenN (tr_ret ?_));exact tr_ret1 rfl rfl ⟨_, rfl, H⟩
 ·replace H := H.2 g9;refine tq (y_fa (off := 1) Tryz.runUnderlying177 fo_177_1 rfl) ?_;obtain ⟨y10, k11, H⟩ := H;refine tr_h (y_ld Tryz.isAgg121 rfl) k11 rfl rfl (tq (y_fa (off := 1) Tryz.runUnderlying177 fo_177_1 rfl) ?_);obtain ⟨y12, k13, H⟩ := H;refine tr_h (y_ld Tryz.isAgg121 rfl) k13 rfl rfl (tq (y_eql rfl rfl) (tq (y_move rfl) ?_));refine tr_split (t := 16) rfl (fun g14 => ?_) (fun g14 => ?_)
  ·replace H := H.1 g14;refine tq (y_fa (off := 2) Tryz.runUnderlying177 fo_177_2 rfl) ?_;obtain ⟨y15, k16, H⟩ := H;refine tr_h (y_ld Tryz.isAgg121 rfl) k16 rfl rfl (tq (y_fa (off := 2) Tryz.runUnderlying177 fo_177_2 rfl) ?_);obtain ⟨y17, k18, H⟩ := H;refine tr_h (y_ld Tryz.isAgg121 rfl) k18 rfl rfl (tq (y_gtr rfl rfl) (tq (y_pick_t rfl rfl) (tq (y_pick_f rfl rfl) (tq (y_assign rfl) (tr_nil (tr_thenN (tr_ret ?_)))))));exact tr_ret1 rfl rfl ⟨_, rfl, H⟩
  ·replace H := H.2 g14;refine ts (ts (ts (ts (ts (tq (y_pick_f rfl rfl) (tq (y_pick_f rfl rfl) (tq (y_assign rfl) (tr_nil (tr_thenN (tr_ret ?_))))))))));exact tr_ret1 rfl rfl ⟨_, rfl, H⟩
def F.xcu (p0 : S_spateref3_Wide) (p1 : S_spateref3_Wide) (h : H) (Q : Bool -> H -> Prop) : Prop :=
  new h p0.cells.toArray ty_177 fun a2 h1 =>
  new h1 p1.cells.toArray ty_177 fun a4 h3 =>
  ldB h3 (a2.add 0) fun y5 =>
  ldB h3 (a4.add 0) fun y7 =>
  ((!(y5 == y7)) = true ->
  ldB h3 (a2.add 0) fun y10 =>
  Q y10 h3) ∧
  ((!(y5 == y7)) = false ->
  ldB h3 (a2.add 0) fun y12 =>
  (y12 = true ->
  ld_S_spateref3_Wide h3 a4 fun y15 =>
  ld_S_spateref3_Wide h3 a2 fun y17 =>
  F.xco y15 y17 h3 fun r20 h19 =>
  Q (!r20) h19) ∧
  (y12 = false ->
  ld_S_spateref3_Wide h3 a2 fun y21 =>
  ld_S_spateref3_Wide h3 a4 fun y23 =>
  F.xco y21 y23 h3 fun r26 h25 =>
  Q (!r26) h25))
theorem F.xcu_ok {p0 : S_spateref3_Wide} {p1 : S_spateref3_Wide} {h : H} {Q : Bool -> H -> Prop} (H : F.xcu p0 p1 h Q) : Fn PP 120 ([(.agg p0.cells.toArray), (.agg p1.cells.toArray)] : List Value).toArray h fun r h' => ∃ r0, r = (.bool r0) ∧ Q r0 h' := by
 unfold F.xcu at H;refine fn_of Tryz.func120 Tryz.ntmps120 rfl rfl fun w0 => (tr_sub [(0, (.agg p0.cells.toArray)), (1, (.agg p1.cells.toArray))] ⟨rfl, rfl, trivial⟩ (tr_seq (tr_region (tr_e (f_box (cs := p0.cells.toArray) rfl rfl H) rfl rfl ?_))));rintro _ h1 ⟨a2, rfl, H⟩;refine tr_e (f_box (cs := p1.cells.toArray) rfl rfl H) rfl rfl ?_;rintro _ h3 ⟨a4, rfl, H⟩;refine tq (y_assign rfl) (tr_nil (tr_thenN (tr_seq (tr_seq (tr_region (tq (y_fa (off := 0) Tryz.runUnderlying177 fo_177_0 rfl) ?_))))));obtain ⟨y5, k6, H⟩ := H;refine tr_h (y_ld Tryz.isAgg4 rfl) k6 rfl rfl (tq (y_fa (off := 0) Tryz.runUnderlying177 fo_177_0 rfl) ?_);obtain ⟨y7, k8, H⟩ := H;refine tr_h (y_ld Tryz.isAgg4 rfl) k8 rfl rfl (tq (y_bneq Tryz.underlying4 rfl rfl) (tr_nil (tr_thenN ?_)));refine tr_cond rfl (fun g9 => ?_) (fun g9 => ?_)
 ·replace H := H.1 g9;refine tr_seq (tr_region (tq (y_fa (off := 0) Tryz.runUnderlying177 fo_177_0 rfl) ?_));obtain ⟨y10, k11, H⟩ := H;refine tr_h (y_ld Tryz.isAgg4 rfl) k11 rfl rfl (tq (y_assign rfl) (tr_nil (tr_thenN (tr_ret (tr_thenR ?_)))));exact tr_ret1 rfl rfl ⟨_, rfl, H⟩
 ·replace H := H.2 g9;refine tr_skip (tr_thenN (tr_seq (tr_seq (tr_region (tq (y_fa (off := 0) Tryz.runUnderlying177 fo_177_0 rfl) ?_)))));obtain ⟨y12, k13, H⟩ := H;refine tr_h (y_ld Tryz.isAgg4 rfl) k13 rfl rfl (tr_nil (tr_thenN ?_));refine tr_cond rfl (fun g14 => ?_) (fun g14 => ?_)
  ·replace H := H.1 g14;refine tr_seq (tr_region ?_);obtain ⟨y15, k16, H⟩ := H;refine tr_h (y_ldS Tryz.isAgg177 Tryz.sizeOf177 rfl rfl) k16 rfl rfl ?_;obtain ⟨y17, k18, H⟩ := H;refine tr_h (y_ldS Tryz.isAgg177 Tryz.sizeOf177 rfl rfl) k18 rfl rfl (tr_e (e_call Tryz.call133 rfl (F.xco_ok H)) rfl rfl ?_);rintro _ h19 ⟨r20, rfl, H⟩;refine tq (y_not rfl) (tq (y_assign rfl) (tr_nil (tr_thenN (tr_ret (tr_thenR ?_)))));exact tr_ret1 rfl rfl ⟨_, rfl, H⟩
  ·replace H := H.2 g14;refine tr_skip (tr_thenN (tr_seq (tr_region ?_)));obtain ⟨y21, k22, H⟩ := H;refine tr_h (y_ldS Tryz.isAgg177 Tryz.sizeOf177 rfl rfl) k22 rfl rfl ?_;obtain ⟨y23, k24, H⟩ := H;refine tr_h (y_ldS Tryz.isAgg177 Tryz.sizeOf177 rfl rfl) k24 rfl rfl (tr_e (e_call Tryz.call133 rfl (F.xco_ok H)) rfl rfl ?_);rintro _ h25 ⟨r26, rfl, H⟩;refine tq (y_not rfl) (tq (y_assign rfl) (tr_nil (tr_thenN (tr_ret ?_))));exact tr_ret1 rfl rfl ⟨_, rfl, H⟩
def F.xad.j1 (R : S_spateref3_Wide -> S_spateref3_Wide -> H -> (S_spateref3_Wide -> H -> Prop) -> Prop) (Q : S_spateref3_Wide -> H -> Prop) (x2 : Addr) (x4 : Addr) (x5 : Int) (x6 : Int) (h : H) : Prop :=
  ldB h (x2.add 0) fun y20 =>
  (y20 = true ->
  (((x6 != 0)) = true ->
  stH h x4 ((⟨true, x6, x5⟩ : S_spateref3_Wide).cells) fun h24 =>
  ld_S_spateref3_Wide h24 x4 fun y25 =>
  Q y25 h24) ∧
  (((x6 != 0)) = false ->
  stH h x4 ((⟨((x5 != 0)), x6, x5⟩ : S_spateref3_Wide).cells) fun h27 =>
  ld_S_spateref3_Wide h27 x4 fun y28 =>
  Q y28 h27)) ∧
  (y20 = false ->
  stH h x4 ((⟨false, x6, x5⟩ : S_spateref3_Wide).cells) fun h30 =>
  ld_S_spateref3_Wide h30 x4 fun y31 =>
  Q y31 h30)
def F.xad.j2 (R : S_spateref3_Wide -> S_spateref3_Wide -> H -> (S_spateref3_Wide -> H -> Prop) -> Prop) (Q : S_spateref3_Wide -> H -> Prop) (x2 : Addr) (x4 : Addr) (x7 : Int) (x8 : Int) (h : H) : Prop :=
  ldB h (x2.add 0) fun y60 =>
  (y60 = true ->
  (((x8 != 0)) = true ->
  stH h x4 ((⟨true, x8, x7⟩ : S_spateref3_Wide).cells) fun h64 =>
  ld_S_spateref3_Wide h64 x4 fun y65 =>
  Q y65 h64) ∧
  (((x8 != 0)) = false ->
  stH h x4 ((⟨((x7 != 0)), x8, x7⟩ : S_spateref3_Wide).cells) fun h67 =>
  ld_S_spateref3_Wide h67 x4 fun y68 =>
  Q y68 h67)) ∧
  (y60 = false ->
  stH h x4 ((⟨false, x8, x7⟩ : S_spateref3_Wide).cells) fun h70 =>
  ld_S_spateref3_Wide h70 x4 fun y71 =>
  Q y71 h70)
def F.xad.fu : Nat -> S_spateref3_Wide -> S_spateref3_Wide -> H -> (S_spateref3_Wide -> H -> Prop) -> Prop
  | 0, _, _, _, _ => False
  | m0 + 1, p0, p1, h, Q =>
    new h p0.cells.toArray ty_177 fun a2 h1 =>
    new h1 p1.cells.toArray ty_177 fun a4 h3 =>
    new h3 (((⟨false, 0, 0⟩ : S_spateref3_Wide) : S_spateref3_Wide).cells.toArray) ty_177 fun a6 h5 =>
    ldB h5 (a2.add 0) fun y7 =>
    ldB h5 (a4.add 0) fun y9 =>
    ((y7 == y9) = true ->
    ldI .u64 h5 (a2.add 2) fun y12 =>
    ldI .u64 h5 (a4.add 2) fun y14 =>
    ldI .u64 h5 (a2.add 1) fun y16 =>
    ldI .u64 h5 (a4.add 1) fun y18 =>
    ldI .u64 h5 (a2.add 2) fun y33 =>
    ((decide ((IntKind.wrap .u64 (y12 + y14)) < y33)) = true ->
    F.xad.j1 (F.xad.fu m0) Q a2 a6 (IntKind.wrap .u64 (y12 + y14)) (IntKind.wrap .u64 ((IntKind.wrap .u64 (y16 + y18)) + 1)) h5) ∧
    ((decide ((IntKind.wrap .u64 (y12 + y14)) < y33)) = false ->
    F.xad.j1 (F.xad.fu m0) Q a2 a6 (IntKind.wrap .u64 (y12 + y14)) (IntKind.wrap .u64 (y16 + y18)) h5)) ∧
    ((y7 == y9) = false ->
    ld_S_spateref3_Wide h5 a4 fun y36 =>
    ld_S_spateref3_Wide h5 a2 fun y38 =>
    F.xco y36 y38 h5 fun r41 h40 =>
    (r41 = true ->
    ld_S_spateref3_Wide h40 a4 fun y43 =>
    ld_S_spateref3_Wide h40 a2 fun y45 =>
    (F.xad.fu m0) y43 y45 h40 fun r48 h47 =>
    stH h47 a6 r48.cells fun h49 =>
    ld_S_spateref3_Wide h49 a6 fun y50 =>
    Q y50 h49) ∧
    (r41 = false ->
    ldI .u64 h40 (a2.add 2) fun y52 =>
    ldI .u64 h40 (a4.add 2) fun y54 =>
    ldI .u64 h40 (a2.add 1) fun y56 =>
    ldI .u64 h40 (a4.add 1) fun y58 =>
    ldI .u64 h40 (a2.add 2) fun y73 =>
    ldI .u64 h40 (a4.add 2) fun y75 =>
    ((decide (y73 < y75)) = true ->
    F.xad.j2 (F.xad.fu m0) Q a2 a6 (IntKind.wrap .u64 (y52 - y54)) (IntKind.wrap .u64 ((IntKind.wrap .u64 (y56 - y58)) - 1)) h40) ∧
    ((decide (y73 < y75)) = false ->
    F.xad.j2 (F.xad.fu m0) Q a2 a6 (IntKind.wrap .u64 (y52 - y54)) (IntKind.wrap .u64 (y56 - y58)) h40)))
theorem F.xad.fu_ok : ∀ (m0 : Nat) {p0 : S_spateref3_Wide} {p1 : S_spateref3_Wide} {h : H} {Q : S_spateref3_Wide -> H -> Prop}, F.xad.fu m0 p0 p1 h Q -> Fn PP 117 ([(.agg p0.cells.toArray), (.agg p1.cells.toArray)] : List Value).toArray h fun r h' => ∃ r0, r = (.agg r0.cells.toArray) ∧ Q r0 h' := by
  intro m0
  induction m0 with
  | zero => intro p0 p1 h Q H; unfold F.xad.fu at H; exact H.elim
  | succ m0 IH =>
  intro p0 p1 h Q H
  unfold F.xad.fu at H
  refine fn_of Tryz.func117 Tryz.ntmps117 rfl rfl fun w0 => ?_
  refine tr_sub [(0, (.agg p0.cells.toArray)), (1, (.agg p1.cells.toArray))] ⟨rfl, rfl, trivial⟩ ?_
  refine tr_seq ?_
  refine tr_region ?_
  refine tr_e (f_box (cs := p0.cells.toArray) rfl rfl H) rfl rfl ?_
  rintro _ h1 ⟨a2, rfl, H⟩
  refine tr_e (f_box (cs := p1.cells.toArray) rfl rfl H) rfl rfl ?_
  rintro _ h3 ⟨a4, rfl, H⟩
  refine tr_e (f_alloc (cs := ((⟨false, 0, 0⟩ : S_spateref3_Wide) : S_spateref3_Wide).cells.toArray) Tryz.zeroValue177 rfl H) rfl rfl ?_
  rintro _ h5 ⟨a6, rfl, H⟩
  refine tr_nil ?_
  refine tr_thenN ?_
  refine tr_seq ?_
  refine tr_seq ?_
  refine tr_region ?_
  refine tr_p (y_fa (off := 0) Tryz.runUnderlying177 fo_177_0 rfl) rfl rfl ?_
  obtain ⟨y7, k8, H⟩ := H
  refine tr_h (y_ld Tryz.isAgg4 rfl) k8 rfl rfl ?_
  refine tr_p (y_fa (off := 0) Tryz.runUnderlying177 fo_177_0 rfl) rfl rfl ?_
  obtain ⟨y9, k10, H⟩ := H
  refine tr_h (y_ld Tryz.isAgg4 rfl) k10 rfl rfl ?_
  refine tr_p (y_beql Tryz.underlying4 rfl rfl) rfl rfl ?_
  refine tr_nil ?_
  refine tr_thenN ?_
  refine tr_cond rfl (fun g11 => ?_) (fun g11 => ?_)
  · replace H := H.1 g11
    refine tr_seq ?_
    refine tr_region ?_
    refine tr_p (y_fa (off := 2) Tryz.runUnderlying177 fo_177_2 rfl) rfl rfl ?_
    obtain ⟨y12, k13, H⟩ := H
    refine tr_h (y_ld Tryz.isAgg121 rfl) k13 rfl rfl ?_
    refine tr_p (y_fa (off := 2) Tryz.runUnderlying177 fo_177_2 rfl) rfl rfl ?_
    obtain ⟨y14, k15, H⟩ := H
    refine tr_h (y_ld Tryz.isAgg121 rfl) k15 rfl rfl ?_
    refine tr_p (y_add rfl rfl) rfl rfl ?_
    refine tr_p (y_assign rfl) rfl rfl ?_
    refine tr_nil ?_
    refine tr_thenN ?_
    refine tr_seq ?_
    refine tr_region ?_
    refine tr_p (y_fa (off := 1) Tryz.runUnderlying177 fo_177_1 rfl) rfl rfl ?_
    obtain ⟨y16, k17, H⟩ := H
    refine tr_h (y_ld Tryz.isAgg121 rfl) k17 rfl rfl ?_
    refine tr_p (y_fa (off := 1) Tryz.runUnderlying177 fo_177_1 rfl) rfl rfl ?_
    obtain ⟨y18, k19, H⟩ := H
    refine tr_h (y_ld Tryz.isAgg121 rfl) k19 rfl rfl ?_
    refine tr_p (y_add rfl rfl) rfl rfl ?_
    refine tr_p (y_assign rfl) rfl rfl ?_
    refine tr_nil ?_
    refine tr_thenN ?_
    refine tr_seq_j (fun L' h => ∃ (x2 : Addr) (x4 : Addr) (x5 : Int) (x6 : Int), L' = [(2, (.pointer (some x2))), (4, (.pointer (some x4))), (5, (.int .u64 x5)), (6, (.int .u64 x6))] ∧ F.xad.j1 (F.xad.fu m0) Q x2 x4 x5 x6 h) ?_ ?_
    · rintro L' h ⟨x2, x4, x5, x6, rfl, H⟩
      unfold F.xad.j1 at H
      refine tr_seq ?_
      refine tr_region ?_
      refine tr_p (y_fa (off := 0) Tryz.runUnderlying177 fo_177_0 rfl) rfl rfl ?_
      obtain ⟨y20, k21, H⟩ := H
      refine tr_h (y_ld Tryz.isAgg4 rfl) k21 rfl rfl ?_
      refine tr_p (y_move rfl) rfl rfl ?_
      refine tr_split (t := 32) rfl (fun g22 => ?_) (fun g22 => ?_)
      · replace H := H.1 g22
        refine tr_p (y_move rfl) rfl rfl ?_
        refine tr_p (y_neq rfl rfl) rfl rfl ?_
        refine tr_p (y_move rfl) rfl rfl ?_
        refine tr_split (t := 35) rfl (fun g23 => ?_) (fun g23 => ?_)
        · replace H := H.1 g23
          refine tr_s rfl rfl ?_
          refine tr_s rfl rfl ?_
          refine tr_p (y_pick_t rfl rfl) rfl rfl ?_
          refine tr_p (y_pick_t rfl rfl) rfl rfl ?_
          refine tr_p (y_move rfl) rfl rfl ?_
          refine tr_p (y_move rfl) rfl rfl ?_
          refine tr_p (f_build rfl (bd_177_0_1_2 true x6 x5)) rfl rfl ?_
          refine tr_e (f_store (vs := (⟨true, x6, x5⟩ : S_spateref3_Wide).cells) Tryz.sizeOf177 rfl rfl cellsOfStruct rfl (by intro v hv; exact ones_S_spateref3_Wide _ v hv) H) rfl rfl ?_
          rintro _ h24 ⟨rfl, H⟩
          refine tr_nil ?_
          refine tr_thenN ?_
          refine tr_ret ?_
          refine tr_thenR ?_
          obtain ⟨y25, k26, H⟩ := H
          exact tr_rv1 rfl (rv_cellS Tryz.isAgg177 Tryz.sizeOf177 rfl rfl k26) ⟨_, rfl, H⟩
        · replace H := H.2 g23
          refine tr_p (y_move rfl) rfl rfl ?_
          refine tr_p (y_neq rfl rfl) rfl rfl ?_
          refine tr_p (y_pick_f rfl rfl) rfl rfl ?_
          refine tr_p (y_pick_t rfl rfl) rfl rfl ?_
          refine tr_p (y_move rfl) rfl rfl ?_
          refine tr_p (y_move rfl) rfl rfl ?_
          refine tr_p (f_build rfl (bd_177_0_1_2 ((x5 != 0)) x6 x5)) rfl rfl ?_
          refine tr_e (f_store (vs := (⟨((x5 != 0)), x6, x5⟩ : S_spateref3_Wide).cells) Tryz.sizeOf177 rfl rfl cellsOfStruct rfl (by intro v hv; exact ones_S_spateref3_Wide _ v hv) H) rfl rfl ?_
          rintro _ h27 ⟨rfl, H⟩
          refine tr_nil ?_
          refine tr_thenN ?_
          refine tr_ret ?_
          refine tr_thenR ?_
          obtain ⟨y28, k29, H⟩ := H
          exact tr_rv1 rfl (rv_cellS Tryz.isAgg177 Tryz.sizeOf177 rfl rfl k29) ⟨_, rfl, H⟩
      · replace H := H.2 g22
        refine tr_s rfl rfl ?_
        refine tr_s rfl rfl ?_
        refine tr_s rfl rfl ?_
        refine tr_s rfl rfl ?_
        refine tr_s rfl rfl ?_
        refine tr_s rfl rfl ?_
        refine tr_p (y_pick_f rfl rfl) rfl rfl ?_
        refine tr_p (y_move rfl) rfl rfl ?_
        refine tr_p (y_move rfl) rfl rfl ?_
        refine tr_p (f_build rfl (bd_177_0_1_2 false x6 x5)) rfl rfl ?_
        refine tr_e (f_store (vs := (⟨false, x6, x5⟩ : S_spateref3_Wide).cells) Tryz.sizeOf177 rfl rfl cellsOfStruct rfl (by intro v hv; exact ones_S_spateref3_Wide _ v hv) H) rfl rfl ?_
        rintro _ h30 ⟨rfl, H⟩
        refine tr_nil ?_
        refine tr_thenN ?_
        refine tr_ret ?_
        refine tr_thenR ?_
        obtain ⟨y31, k32, H⟩ := H
        exact tr_rv1 rfl (rv_cellS Tryz.isAgg177 Tryz.sizeOf177 rfl rfl k32) ⟨_, rfl, H⟩
    · refine tr_seq ?_
      refine tr_region ?_
      refine tr_p (y_move rfl) rfl rfl ?_
      refine tr_p (y_fa (off := 2) Tryz.runUnderlying177 fo_177_2 rfl) rfl rfl ?_
      obtain ⟨y33, k34, H⟩ := H
      refine tr_h (y_ld Tryz.isAgg121 rfl) k34 rfl rfl ?_
      refine tr_p (y_lss rfl rfl) rfl rfl ?_
      refine tr_nil ?_
      refine tr_thenN ?_
      refine tr_cond rfl (fun g35 => ?_) (fun g35 => ?_)
      · replace H := H.1 g35
        refine tr_region ?_
        refine tr_p (y_move rfl) rfl rfl ?_
        refine tr_p (y_add rfl rfl) rfl rfl ?_
        refine tr_p (y_assign rfl) rfl rfl ?_
        refine tr_nil ?_
        refine tr_thenN ?_
        exact tr_join [(2, (.pointer (some a2))), (4, (.pointer (some a6))), (5, (.int .u64 (IntKind.wrap .u64 (y12 + y14)))), (6, (.int .u64 (IntKind.wrap .u64 ((IntKind.wrap .u64 (y16 + y18)) + 1))))] ⟨rfl, rfl, rfl, rfl, trivial⟩ ⟨_, _, _, _, rfl, H⟩
      · replace H := H.2 g35
        refine tr_skip ?_
        refine tr_thenN ?_
        exact tr_join [(2, (.pointer (some a2))), (4, (.pointer (some a6))), (5, (.int .u64 (IntKind.wrap .u64 (y12 + y14)))), (6, (.int .u64 (IntKind.wrap .u64 (y16 + y18))))] ⟨rfl, rfl, rfl, rfl, trivial⟩ ⟨_, _, _, _, rfl, H⟩
  · replace H := H.2 g11
    refine tr_skip ?_
    refine tr_thenN ?_
    refine tr_seq ?_
    refine tr_seq ?_
    refine tr_region ?_
    obtain ⟨y36, k37, H⟩ := H
    refine tr_h (y_ldS Tryz.isAgg177 Tryz.sizeOf177 rfl rfl) k37 rfl rfl ?_
    obtain ⟨y38, k39, H⟩ := H
    refine tr_h (y_ldS Tryz.isAgg177 Tryz.sizeOf177 rfl rfl) k39 rfl rfl ?_
    refine tr_e (e_call Tryz.call133 rfl (F.xco_ok H)) rfl rfl ?_
    rintro _ h40 ⟨r41, rfl, H⟩
    refine tr_nil ?_
    refine tr_thenN ?_
    refine tr_cond rfl (fun g42 => ?_) (fun g42 => ?_)
    · replace H := H.1 g42
      refine tr_seq ?_
      refine tr_region ?_
      obtain ⟨y43, k44, H⟩ := H
      refine tr_h (y_ldS Tryz.isAgg177 Tryz.sizeOf177 rfl rfl) k44 rfl rfl ?_
      obtain ⟨y45, k46, H⟩ := H
      refine tr_h (y_ldS Tryz.isAgg177 Tryz.sizeOf177 rfl rfl) k46 rfl rfl ?_
      refine tr_e (e_call Tryz.call117 rfl (IH H)) rfl rfl ?_
      rintro _ h47 ⟨r48, rfl, H⟩
      refine tr_e (f_store (vs := r48.cells) Tryz.sizeOf177 rfl rfl cellsOfStruct rfl (by intro v hv; exact ones_S_spateref3_Wide _ v hv) H) rfl rfl ?_
      rintro _ h49 ⟨rfl, H⟩
      refine tr_nil ?_
      refine tr_thenN ?_
      refine tr_ret ?_
      refine tr_thenR ?_
      obtain ⟨y50, k51, H⟩ := H
      exact tr_rv1 rfl (rv_cellS Tryz.isAgg177 Tryz.sizeOf177 rfl rfl k51) ⟨_, rfl, H⟩
    · replace H := H.2 g42
      refine tr_skip ?_
      refine tr_thenN ?_
      refine tr_seq ?_
      refine tr_region ?_
      refine tr_p (y_fa (off := 2) Tryz.runUnderlying177 fo_177_2 rfl) rfl rfl ?_
      obtain ⟨y52, k53, H⟩ := H
      refine tr_h (y_ld Tryz.isAgg121 rfl) k53 rfl rfl ?_
      refine tr_p (y_fa (off := 2) Tryz.runUnderlying177 fo_177_2 rfl) rfl rfl ?_
      obtain ⟨y54, k55, H⟩ := H
      refine tr_h (y_ld Tryz.isAgg121 rfl) k55 rfl rfl ?_
      refine tr_p (y_sub rfl rfl) rfl rfl ?_
      refine tr_p (y_assign rfl) rfl rfl ?_
      refine tr_nil ?_
      refine tr_thenN ?_
      refine tr_seq ?_
      refine tr_region ?_
      refine tr_p (y_fa (off := 1) Tryz.runUnderlying177 fo_177_1 rfl) rfl rfl ?_
      obtain ⟨y56, k57, H⟩ := H
      refine tr_h (y_ld Tryz.isAgg121 rfl) k57 rfl rfl ?_
      refine tr_p (y_fa (off := 1) Tryz.runUnderlying177 fo_177_1 rfl) rfl rfl ?_
      obtain ⟨y58, k59, H⟩ := H
      refine tr_h (y_ld Tryz.isAgg121 rfl) k59 rfl rfl ?_
      refine tr_p (y_sub rfl rfl) rfl rfl ?_
      refine tr_p (y_assign rfl) rfl rfl ?_
      refine tr_nil ?_
      refine tr_thenN ?_
      refine tr_seq_j (fun L' h => ∃ (x2 : Addr) (x4 : Addr) (x7 : Int) (x8 : Int), L' = [(2, (.pointer (some x2))), (4, (.pointer (some x4))), (7, (.int .u64 x7)), (8, (.int .u64 x8))] ∧ F.xad.j2 (F.xad.fu m0) Q x2 x4 x7 x8 h) ?_ ?_
      · rintro L' h ⟨x2, x4, x7, x8, rfl, H⟩
        unfold F.xad.j2 at H
        refine tr_seq ?_
        refine tr_region ?_
        refine tr_p (y_fa (off := 0) Tryz.runUnderlying177 fo_177_0 rfl) rfl rfl ?_
        obtain ⟨y60, k61, H⟩ := H
        refine tr_h (y_ld Tryz.isAgg4 rfl) k61 rfl rfl ?_
        refine tr_p (y_move rfl) rfl rfl ?_
        refine tr_split (t := 68) rfl (fun g62 => ?_) (fun g62 => ?_)
        · replace H := H.1 g62
          refine tr_p (y_move rfl) rfl rfl ?_
          refine tr_p (y_neq rfl rfl) rfl rfl ?_
          refine tr_p (y_move rfl) rfl rfl ?_
          refine tr_split (t := 71) rfl (fun g63 => ?_) (fun g63 => ?_)
          · replace H := H.1 g63
            refine tr_s rfl rfl ?_
            refine tr_s rfl rfl ?_
            refine tr_p (y_pick_t rfl rfl) rfl rfl ?_
            refine tr_p (y_pick_t rfl rfl) rfl rfl ?_
            refine tr_p (y_move rfl) rfl rfl ?_
            refine tr_p (y_move rfl) rfl rfl ?_
            refine tr_p (f_build rfl (bd_177_0_1_2 true x8 x7)) rfl rfl ?_
            refine tr_e (f_store (vs := (⟨true, x8, x7⟩ : S_spateref3_Wide).cells) Tryz.sizeOf177 rfl rfl cellsOfStruct rfl (by intro v hv; exact ones_S_spateref3_Wide _ v hv) H) rfl rfl ?_
            rintro _ h64 ⟨rfl, H⟩
            refine tr_nil ?_
            refine tr_thenN ?_
            refine tr_ret ?_
            obtain ⟨y65, k66, H⟩ := H
            exact tr_rv1 rfl (rv_cellS Tryz.isAgg177 Tryz.sizeOf177 rfl rfl k66) ⟨_, rfl, H⟩
          · replace H := H.2 g63
            refine tr_p (y_move rfl) rfl rfl ?_
            refine tr_p (y_neq rfl rfl) rfl rfl ?_
            refine tr_p (y_pick_f rfl rfl) rfl rfl ?_
            refine tr_p (y_pick_t rfl rfl) rfl rfl ?_
            refine tr_p (y_move rfl) rfl rfl ?_
            refine tr_p (y_move rfl) rfl rfl ?_
            refine tr_p (f_build rfl (bd_177_0_1_2 ((x7 != 0)) x8 x7)) rfl rfl ?_
            refine tr_e (f_store (vs := (⟨((x7 != 0)), x8, x7⟩ : S_spateref3_Wide).cells) Tryz.sizeOf177 rfl rfl cellsOfStruct rfl (by intro v hv; exact ones_S_spateref3_Wide _ v hv) H) rfl rfl ?_
            rintro _ h67 ⟨rfl, H⟩
            refine tr_nil ?_
            refine tr_thenN ?_
            refine tr_ret ?_
            obtain ⟨y68, k69, H⟩ := H
            exact tr_rv1 rfl (rv_cellS Tryz.isAgg177 Tryz.sizeOf177 rfl rfl k69) ⟨_, rfl, H⟩
        · replace H := H.2 g62
          refine tr_s rfl rfl ?_
          refine tr_s rfl rfl ?_
          refine tr_s rfl rfl ?_
          refine tr_s rfl rfl ?_
          refine tr_s rfl rfl ?_
          refine tr_s rfl rfl ?_
          refine tr_p (y_pick_f rfl rfl) rfl rfl ?_
          refine tr_p (y_move rfl) rfl rfl ?_
          refine tr_p (y_move rfl) rfl rfl ?_
          refine tr_p (f_build rfl (bd_177_0_1_2 false x8 x7)) rfl rfl ?_
          refine tr_e (f_store (vs := (⟨false, x8, x7⟩ : S_spateref3_Wide).cells) Tryz.sizeOf177 rfl rfl cellsOfStruct rfl (by intro v hv; exact ones_S_spateref3_Wide _ v hv) H) rfl rfl ?_
          rintro _ h70 ⟨rfl, H⟩
          refine tr_nil ?_
          refine tr_thenN ?_
          refine tr_ret ?_
          obtain ⟨y71, k72, H⟩ := H
          exact tr_rv1 rfl (rv_cellS Tryz.isAgg177 Tryz.sizeOf177 rfl rfl k72) ⟨_, rfl, H⟩
      · refine tr_seq ?_
        refine tr_region ?_
        refine tr_p (y_fa (off := 2) Tryz.runUnderlying177 fo_177_2 rfl) rfl rfl ?_
        obtain ⟨y73, k74, H⟩ := H
        refine tr_h (y_ld Tryz.isAgg121 rfl) k74 rfl rfl ?_
        refine tr_p (y_fa (off := 2) Tryz.runUnderlying177 fo_177_2 rfl) rfl rfl ?_
        obtain ⟨y75, k76, H⟩ := H
        refine tr_h (y_ld Tryz.isAgg121 rfl) k76 rfl rfl ?_
        refine tr_p (y_lss rfl rfl) rfl rfl ?_
        refine tr_nil ?_
        refine tr_thenN ?_
        refine tr_cond rfl (fun g77 => ?_) (fun g77 => ?_)
        · replace H := H.1 g77
          refine tr_region ?_
          refine tr_p (y_move rfl) rfl rfl ?_
          refine tr_p (y_sub rfl rfl) rfl rfl ?_
          refine tr_p (y_assign rfl) rfl rfl ?_
          refine tr_nil ?_
          refine tr_thenN ?_
          exact tr_join [(2, (.pointer (some a2))), (4, (.pointer (some a6))), (7, (.int .u64 (IntKind.wrap .u64 (y52 - y54)))), (8, (.int .u64 (IntKind.wrap .u64 ((IntKind.wrap .u64 (y56 - y58)) - 1))))] ⟨rfl, rfl, rfl, rfl, trivial⟩ ⟨_, _, _, _, rfl, H⟩
        · replace H := H.2 g77
          refine tr_skip ?_
          refine tr_thenN ?_
          exact tr_join [(2, (.pointer (some a2))), (4, (.pointer (some a6))), (7, (.int .u64 (IntKind.wrap .u64 (y52 - y54)))), (8, (.int .u64 (IntKind.wrap .u64 (y56 - y58))))] ⟨rfl, rfl, rfl, rfl, trivial⟩ ⟨_, _, _, _, rfl, H⟩
def F.xad (p0 : S_spateref3_Wide) (p1 : S_spateref3_Wide) (h : H) (Q : S_spateref3_Wide -> H -> Prop) : Prop := ∃ m0, F.xad.fu m0 p0 p1 h Q
theorem F.xad_ok {p0 : S_spateref3_Wide} {p1 : S_spateref3_Wide} {h : H} {Q : S_spateref3_Wide -> H -> Prop} (H : F.xad p0 p1 h Q) : Fn PP 117 ([(.agg p0.cells.toArray), (.agg p1.cells.toArray)] : List Value).toArray h fun r h' => ∃ r0, r = (.agg r0.cells.toArray) ∧ Q r0 h' := by
 obtain ⟨m0, H⟩ := H;exact F.xad.fu_ok m0 H
def F.xan.j3 (Q : Bool -> H -> Prop) (x1 : Addr) (x4 : Addr) (x5 : Addr) (h : H) : Prop :=
  ld_S_spateref3_Wide h x4 fun y25 =>
  ldI .i64 h (x1.add 1) fun y27 =>
  F.xbo y27 h fun r30 h29 =>
  Cells h29 x4 y25.cells ∧
  F.xcu y25 r30 h29 fun r33 h32 =>
  (r33 = true ->
  ldI .i64 h32 (x1.add 1) fun y35 =>
  ld_S_spateref3_Wide h32 x5 fun y37 =>
  F.xbo y35 h32 fun r40 h39 =>
  Cells h39 x5 y37.cells ∧
  F.xcu r40 y37 h39 fun r43 h42 =>
  Q r43 h42) ∧
  (r33 = false ->
  Q false h32)
def F.xan.j2 (Q : Bool -> H -> Prop) (x1 : Addr) (x3 : Addr) (x4 : Addr) (h : H) : Prop :=
  ld_S_spateref3_Wide h x3 fun y44 =>
  ldI .i64 h (x1.add 0) fun y46 =>
  ldI .i64 h (x1.add 3) fun y48 =>
  (F.xau (IntKind.wrap .i64 (y46 - 2)) y48 h fun r51 h50 =>
  Cells h50 x3 y44.cells ∧
  (F.xad y44 r51 h50 fun r54 h53 =>
  new h53 (((⟨false, 0, 0⟩ : S_spateref3_Wide) : S_spateref3_Wide).cells.toArray) ty_177 fun a56 h55 =>
  stH h55 a56 r54.cells fun h57 =>
  F.xan.j3 Q x1 x4 a56 h57) ∧
  (new h50 (((⟨false, 0, 0⟩ : S_spateref3_Wide) : S_spateref3_Wide).cells.toArray) ty_177 fun a59 h58 =>
  Cells h58 x3 y44.cells ∧
  F.xad y44 r51 h58 fun r62 h61 =>
  stH h61 a59 r62.cells fun h63 =>
  F.xan.j3 Q x1 x4 a59 h63)) ∧
  (new h (((⟨false, 0, 0⟩ : S_spateref3_Wide) : S_spateref3_Wide).cells.toArray) ty_177 fun a65 h64 =>
  cellH h64 (x1.add 3) = some (.int .i64 y48) ∧
  cellH h64 (x1.add 0) = some (.int .i64 y46) ∧
  Cells h64 x3 y44.cells ∧
  F.xau (IntKind.wrap .i64 (y46 - 2)) y48 h64 fun r70 h69 =>
  Cells h69 x3 y44.cells ∧
  F.xad y44 r70 h69 fun r73 h72 =>
  stH h72 a65 r73.cells fun h74 =>
  F.xan.j3 Q x1 x4 a65 h74)
def F.xan.j1 (Q : Bool -> H -> Prop) (x1 : Addr) (x3 : Addr) (h : H) : Prop :=
  ld_S_spateref3_Wide h x3 fun y75 =>
  ldI .i64 h (x1.add 0) fun y77 =>
  ldI .i64 h (x1.add 2) fun y79 =>
  (F.xau (IntKind.wrap .i64 (y77 - 2)) y79 h fun r82 h81 =>
  Cells h81 x3 y75.cells ∧
  (F.xad y75 r82 h81 fun r85 h84 =>
  new h84 (((⟨false, 0, 0⟩ : S_spateref3_Wide) : S_spateref3_Wide).cells.toArray) ty_177 fun a87 h86 =>
  stH h86 a87 r85.cells fun h88 =>
  F.xan.j2 Q x1 x3 a87 h88) ∧
  (new h81 (((⟨false, 0, 0⟩ : S_spateref3_Wide) : S_spateref3_Wide).cells.toArray) ty_177 fun a90 h89 =>
  Cells h89 x3 y75.cells ∧
  F.xad y75 r82 h89 fun r93 h92 =>
  stH h92 a90 r93.cells fun h94 =>
  F.xan.j2 Q x1 x3 a90 h94)) ∧
  (new h (((⟨false, 0, 0⟩ : S_spateref3_Wide) : S_spateref3_Wide).cells.toArray) ty_177 fun a96 h95 =>
  cellH h95 (x1.add 2) = some (.int .i64 y79) ∧
  cellH h95 (x1.add 0) = some (.int .i64 y77) ∧
  Cells h95 x3 y75.cells ∧
  F.xau (IntKind.wrap .i64 (y77 - 2)) y79 h95 fun r101 h100 =>
  Cells h100 x3 y75.cells ∧
  F.xad y75 r101 h100 fun r104 h103 =>
  stH h103 a96 r104.cells fun h105 =>
  F.xan.j2 Q x1 x3 a96 h105)
def F.xan (p0 : S_api_Agg) (h : H) (Q : Bool -> H -> Prop) : Prop :=
  new h p0.cells.toArray ty_34 fun a2 h1 =>
  ldI .i64 h1 (a2.add 0) fun y3 =>
  ((decide (y3 <= 0)) = true ->
  ld_S_api_Agg h1 a2 fun y6 =>
  Q ((y6.Count == (⟨0, 0, 0, 0⟩ : S_api_Agg).Count) && ((y6.Sum == (⟨0, 0, 0, 0⟩ : S_api_Agg).Sum) && ((y6.Min == (⟨0, 0, 0, 0⟩ : S_api_Agg).Min) && ((y6.Max == (⟨0, 0, 0, 0⟩ : S_api_Agg).Max) && true)))) h1) ∧
  ((decide (y3 <= 0)) = false ->
  ldI .i64 h1 (a2.add 0) fun y8 =>
  (((y8 == 1)) = true ->
  ldI .i64 h1 (a2.add 1) fun y11 =>
  ldI .i64 h1 (a2.add 2) fun y13 =>
  (((y11 == y13)) = true ->
  ldI .i64 h1 (a2.add 1) fun y16 =>
  ldI .i64 h1 (a2.add 3) fun y18 =>
  Q ((y16 == y18)) h1) ∧
  (((y11 == y13)) = false ->
  Q false h1)) ∧
  (((y8 == 1)) = false ->
  ldI .i64 h1 (a2.add 2) fun y20 =>
  ldI .i64 h1 (a2.add 3) fun y22 =>
  ((decide (y20 > y22)) = true ->
  Q false h1) ∧
  ((decide (y20 > y22)) = false ->
  ldI .i64 h1 (a2.add 2) fun y106 =>
  ldI .i64 h1 (a2.add 3) fun y108 =>
  (F.xbo y106 h1 fun r111 h110 =>
  cellH h110 (a2.add 3) = some (.int .i64 y108) ∧
  (F.xbo y108 h110 fun r114 h113 =>
  (F.xad r111 r114 h113 fun r116 h115 =>
  new h115 (((⟨false, 0, 0⟩ : S_spateref3_Wide) : S_spateref3_Wide).cells.toArray) ty_177 fun a118 h117 =>
  stH h117 a118 r116.cells fun h119 =>
  F.xan.j1 Q a2 a118 h119) ∧
  (new h113 (((⟨false, 0, 0⟩ : S_spateref3_Wide) : S_spateref3_Wide).cells.toArray) ty_177 fun a121 h120 =>
  F.xad r111 r114 h120 fun r123 h122 =>
  stH h122 a121 r123.cells fun h124 =>
  F.xan.j1 Q a2 a121 h124)) ∧
  (new h110 (((⟨false, 0, 0⟩ : S_spateref3_Wide) : S_spateref3_Wide).cells.toArray) ty_177 fun a126 h125 =>
  cellH h125 (a2.add 3) = some (.int .i64 y108) ∧
  F.xbo y108 h125 fun r129 h128 =>
  F.xad r111 r129 h128 fun r131 h130 =>
  stH h130 a126 r131.cells fun h132 =>
  F.xan.j1 Q a2 a126 h132)) ∧
  (new h1 (((⟨false, 0, 0⟩ : S_spateref3_Wide) : S_spateref3_Wide).cells.toArray) ty_177 fun a134 h133 =>
  cellH h133 (a2.add 3) = some (.int .i64 y108) ∧
  cellH h133 (a2.add 2) = some (.int .i64 y106) ∧
  F.xbo y106 h133 fun r138 h137 =>
  cellH h137 (a2.add 3) = some (.int .i64 y108) ∧
  F.xbo y108 h137 fun r141 h140 =>
  F.xad r138 r141 h140 fun r143 h142 =>
  stH h142 a134 r143.cells fun h144 =>
  F.xan.j1 Q a2 a134 h144))))
theorem F.xan_ok {p0 : S_api_Agg} {h : H} {Q : Bool -> H -> Prop} (H : F.xan p0 h Q) : Fn PP 86 ([(.agg p0.cells.toArray)] : List Value).toArray h fun r h' => ∃ r0, r = (.bool r0) ∧ Q r0 h' := by
 unfold F.xan at H;refine fn_of Tryz.func86 Tryz.ntmps86 rfl rfl fun w0 => (tr_sub [(0, (.agg p0.cells.toArray))] ⟨rfl, trivial⟩ (tr_seq (tr_region (tr_e (f_box (cs := p0.cells.toArray) rfl rfl H) rfl rfl ?_))));rintro _ h1 ⟨a2, rfl, H⟩;refine tq (y_assign rfl) (tr_nil (tr_thenN (tr_seq (tr_seq (tr_region (tq (y_fa (off := 0) Tryz.runUnderlying34 fo_34_0 rfl) ?_))))));obtain ⟨y3, k4, H⟩ := H;refine tr_h (y_ld Tryz.isAgg2 rfl) k4 rfl rfl (tq (y_leq rfl rfl) (tr_nil (tr_thenN ?_)));refine tr_cond rfl (fun g5 => ?_) (fun g5 => ?_)
 ·replace H := H.1 g5;refine tr_seq (tr_region ?_);obtain ⟨y6, k7, H⟩ := H;refine tr_h (y_ldS Tryz.isAgg34 Tryz.sizeOf34 rfl rfl) k7 rfl rfl (tq (f_build rfl (bd_34_ )) (tq (st_eql (b := ((y6.Count == (⟨0, 0, 0, 0⟩ : S_api_Agg).Count) && ((y6.Sum == (⟨0, 0, 0, 0⟩ : S_api_Agg).Sum) && ((y6.Min == (⟨0, 0, 0, 0⟩ : S_api_Agg).Min) && ((y6.Max == (⟨0, 0, 0, 0⟩ : S_api_Agg).Max) && true))))) eqg_34 (fun w => eqst_34 y6 (⟨0, 0, 0, 0⟩ : S_api_Agg) 9998 w) rfl rfl) (tq (y_assign rfl) (tr_nil (tr_thenN (tr_ret (tr_thenR ?_)))))));exact tr_ret1 rfl rfl ⟨_, rfl, H⟩
 ·replace H := H.2 g5;refine tr_skip (tr_thenN (tr_seq (tr_seq (tr_region (tq (y_fa (off := 0) Tryz.runUnderlying34 fo_34_0 rfl) ?_)))));obtain ⟨y8, k9, H⟩ := H;refine tr_h (y_ld Tryz.isAgg2 rfl) k9 rfl rfl (tq (y_eql rfl rfl) (tr_nil (tr_thenN ?_)));refine tr_cond rfl (fun g10 => ?_) (fun g10 => ?_)
  ·replace H := H.1 g10;refine tr_seq (tr_region (tq (y_fa (off := 1) Tryz.runUnderlying34 fo_34_1 rfl) ?_));obtain ⟨y11, k12, H⟩ := H;refine tr_h (y_ld Tryz.isAgg2 rfl) k12 rfl rfl (tq (y_fa (off := 2) Tryz.runUnderlying34 fo_34_2 rfl) ?_);obtain ⟨y13, k14, H⟩ := H;refine tr_h (y_ld Tryz.isAgg2 rfl) k14 rfl rfl (tq (y_eql rfl rfl) (tq (y_move rfl) ?_));refine tr_split (t := 20) rfl (fun g15 => ?_) (fun g15 => ?_)
   ·replace H := H.1 g15;refine tq (y_fa (off := 1) Tryz.runUnderlying34 fo_34_1 rfl) ?_;obtain ⟨y16, k17, H⟩ := H;refine tr_h (y_ld Tryz.isAgg2 rfl) k17 rfl rfl (tq (y_fa (off := 3) Tryz.runUnderlying34 fo_34_3 rfl) ?_);obtain ⟨y18, k19, H⟩ := H;refine tr_h (y_ld Tryz.isAgg2 rfl) k19 rfl rfl (tq (y_eql rfl rfl) (tq (y_pick_t rfl rfl) (tq (y_assign rfl) (tr_nil (tr_thenN (tr_ret (tr_thenR ?_)))))));exact tr_ret1 rfl rfl ⟨_, rfl, H⟩
   ·replace H := H.2 g15;refine ts (ts (ts (ts (ts (tq (y_pick_f rfl rfl) (tq (y_assign rfl) (tr_nil (tr_thenN (tr_ret (tr_thenR ?_))))))))));exact tr_ret1 rfl rfl ⟨_, rfl, H⟩
  ·replace H := H.2 g10;refine tr_skip (tr_thenN (tr_seq (tr_seq (tr_region (tq (y_fa (off := 2) Tryz.runUnderlying34 fo_34_2 rfl) ?_)))));obtain ⟨y20, k21, H⟩ := H;refine tr_h (y_ld Tryz.isAgg2 rfl) k21 rfl rfl (tq (y_fa (off := 3) Tryz.runUnderlying34 fo_34_3 rfl) ?_);obtain ⟨y22, k23, H⟩ := H;refine tr_h (y_ld Tryz.isAgg2 rfl) k23 rfl rfl (tq (y_gtr rfl rfl) (tr_nil (tr_thenN ?_)));refine tr_cond rfl (fun g24 => ?_) (fun g24 => ?_)
   ·replace H := H.1 g24;refine tr_seq (tr_region (tq (y_assign rfl) (tr_nil (tr_thenN (tr_ret (tr_thenR ?_))))));exact tr_ret1 rfl rfl ⟨_, rfl, H⟩
   ·replace H := H.2 g24;refine tr_skip (tr_thenN ?_);refine tr_seq_j (fun L' h => ∃ (x1 : Addr) (x3 : Addr), L' = [(1, (.pointer (some x1))), (3, (.pointer (some x3)))] ∧ F.xan.j1 Q x1 x3 h) ?_ ?_
    ·rintro L' h ⟨x1, x3, rfl, H⟩;unfold F.xan.j1 at H;refine tr_seq_j (fun L' h => ∃ (x1 : Addr) (x3 : Addr) (x4 : Addr), L' = [(1, (.pointer (some x1))), (3, (.pointer (some x3))), (4, (.pointer (some x4)))] ∧ F.xan.j2 Q x1 x3 x4 h) ?_ ?_
     ·rintro L' h ⟨x1, x3, x4, rfl, H⟩;unfold F.xan.j2 at H;refine tr_seq_j (fun L' h => ∃ (x1 : Addr) (x4 : Addr) (x5 : Addr), L' = [(1, (.pointer (some x1))), (4, (.pointer (some x4))), (5, (.pointer (some x5)))] ∧ F.xan.j3 Q x1 x4 x5 h) ?_ ?_
      ·rintro L' h ⟨x1, x4, x5, rfl, H⟩;unfold F.xan.j3 at H;refine tr_seq (tr_draw mixed [0, 0, 2, 6, 15, 31, 63, 127, 255, 63, 1023, 2047, 4095] (by kernel_rfl) ?_);obtain ⟨y25, k26, H⟩ := H;refine g_h 0 1 rfl (by kernel_rfl) (y_ldS Tryz.isAgg177 Tryz.sizeOf177 rfl rfl) k26 rfl rfl (g_p 1 3 rfl (by kernel_rfl) (y_fa (off := 1) Tryz.runUnderlying34 fo_34_1 rfl) rfl rfl ?_);obtain ⟨y27, k28, H⟩ := H;refine g_h 2 7 rfl (by kernel_rfl) (y_ld Tryz.isAgg2 rfl) k28 rfl rfl (g_e 3 15 [(0, fun h => Cells h x4 y25.cells)] (by kernel_rfl) rfl (by kernel_rfl) (e_call Tryz.call118 rfl (F.xbo_ok H)) rfl rfl ?_);rintro _ h29 ⟨r30, rfl, H⟩;obtain ⟨k31, H⟩ := H;refine ⟨And.intro k31 trivial, ?_⟩;refine g_e 4 31 [] (by kernel_rfl) rfl (by kernel_rfl) (e_call Tryz.call120 rfl (F.xcu_ok H)) rfl rfl ?_;rintro _ h32 ⟨r33, rfl, H⟩;refine ⟨trivial, ?_⟩;refine g_p 5 63 rfl (by kernel_rfl) (y_move rfl) rfl rfl ?_;refine g_split (t := 60) rfl (fun g34 => ?_) (fun g34 => ?_)
       ·replace H := H.1 g34;refine g_p 6 127 rfl (by kernel_rfl) (y_fa (off := 1) Tryz.runUnderlying34 fo_34_1 rfl) rfl rfl ?_;obtain ⟨y35, k36, H⟩ := H;refine g_h 7 255 rfl (by kernel_rfl) (y_ld Tryz.isAgg2 rfl) k36 rfl rfl ?_;obtain ⟨y37, k38, H⟩ := H;refine g_h 9 767 rfl (by kernel_rfl) (y_ldS Tryz.isAgg177 Tryz.sizeOf177 rfl rfl) k38 rfl rfl (g_e 8 1023 [(9, fun h => Cells h x5 y37.cells)] (by kernel_rfl) rfl (by kernel_rfl) (e_call Tryz.call118 rfl (F.xbo_ok H)) rfl rfl ?_);rintro _ h39 ⟨r40, rfl, H⟩;obtain ⟨k41, H⟩ := H;refine ⟨And.intro k41 trivial, ?_⟩;refine g_e 10 2047 [] (by kernel_rfl) rfl (by kernel_rfl) (e_call Tryz.call120 rfl (F.xcu_ok H)) rfl rfl ?_;rintro _ h42 ⟨r43, rfl, H⟩;refine ⟨trivial, ?_⟩;refine g_p 11 4095 rfl (by kernel_rfl) (y_pick_t rfl rfl) rfl rfl (g_p 12 8191 rfl (by kernel_rfl) (y_assign rfl) rfl rfl (g_d (by kernel_rfl) (tr_thenN (tr_ret ?_))));exact tr_ret1 rfl rfl ⟨_, rfl, H⟩
       ·replace H := H.2 g34;refine g_s 6 127 rfl (by kernel_rfl) rfl rfl (g_s 7 255 rfl (by kernel_rfl) rfl rfl (g_s 8 511 rfl (by kernel_rfl) rfl rfl (g_s 9 1023 rfl (by kernel_rfl) rfl rfl (g_s 10 2047 rfl (by kernel_rfl) rfl rfl (g_p 11 4095 rfl (by kernel_rfl) (y_pick_f rfl rfl) rfl rfl (g_p 12 8191 rfl (by kernel_rfl) (y_assign rfl) rfl rfl (g_d (by kernel_rfl) (tr_thenN (tr_ret ?_)))))))));exact tr_ret1 rfl rfl ⟨_, rfl, H⟩
      ·refine tr_draw mixed [0, 0, 2, 6, 0, 16, 62, 127, 0, 511] (by kernel_rfl) ?_;obtain ⟨y44, k45, H⟩ := H;refine g_h 0 1 rfl (by kernel_rfl) (y_ldS Tryz.isAgg177 Tryz.sizeOf177 rfl rfl) k45 rfl rfl (g_p 1 3 rfl (by kernel_rfl) (y_fa (off := 0) Tryz.runUnderlying34 fo_34_0 rfl) rfl rfl ?_);obtain ⟨y46, k47, H⟩ := H;refine g_h 2 7 rfl (by kernel_rfl) (y_ld Tryz.isAgg2 rfl) k47 rfl rfl (g_p 3 15 rfl (by kernel_rfl) (y_sub rfl rfl) rfl rfl (g_p 4 31 rfl (by kernel_rfl) (y_fa (off := 3) Tryz.runUnderlying34 fo_34_3 rfl) rfl rfl ?_));obtain ⟨y48, k49, H⟩ := H;refine g_h 5 63 rfl (by kernel_rfl) (y_ld Tryz.isAgg2 rfl) k49 rfl rfl ?_;refine g_e2 6 127 8 319 [(0, fun h => Cells h x3 y44.cells)] [(5, fun h => cellH h (x1.add 3) = some (.int .i64 y48)), (2, fun h => cellH h (x1.add 0) = some (.int .i64 y46)), (0, fun h => Cells h x3 y44.cells)] (by kernel_rfl) (by kernel_rfl) (by kernel_rfl) (by kernel_rfl) (by kernel_rfl) rfl rfl rfl rfl rfl rfl ?_ ?_
       ·replace H := H.1;refine ⟨_, (e_call Tryz.call119 rfl (F.xau_ok H)), ?_⟩;rintro _ h50 ⟨r51, rfl, H⟩;obtain ⟨k52, H⟩ := H;refine ⟨And.intro k52 trivial, ?_⟩;refine g_e2 7 255 8 383 [] [(0, fun h => Cells h x3 y44.cells)] (by kernel_rfl) (by kernel_rfl) (by kernel_rfl) (by kernel_rfl) (by kernel_rfl) rfl rfl rfl rfl rfl rfl ?_ ?_
        ·replace H := H.1;refine ⟨_, (e_call Tryz.call117 rfl (F.xad_ok H)), ?_⟩;rintro _ h53 ⟨r54, rfl, H⟩;refine ⟨trivial, ?_⟩;refine g_e 8 511 [] (by kernel_rfl) rfl (by kernel_rfl) (f_alloc (cs := ((⟨false, 0, 0⟩ : S_spateref3_Wide) : S_spateref3_Wide).cells.toArray) Tryz.zeroValue177 rfl H) rfl rfl ?_;rintro _ h55 ⟨a56, rfl, H⟩;refine ⟨trivial, ?_⟩;refine g_e 9 1023 [] (by kernel_rfl) rfl (by kernel_rfl) (f_store (vs := r54.cells) Tryz.sizeOf177 rfl rfl cellsOfStruct rfl (by intro v hv; exact ones_S_spateref3_Wide _ v hv) H) rfl rfl ?_;rintro _ h57 ⟨rfl, H⟩;refine ⟨trivial, ?_⟩;refine g_d (by kernel_rfl) (tr_thenN ?_);exact tr_join [(1, (.pointer (some x1))), (4, (.pointer (some x4))), (5, (.pointer (some a56)))] ⟨rfl, rfl, rfl, trivial⟩ ⟨_, _, _, rfl, H⟩
        ·replace H := H.2;refine ⟨_, (f_alloc (cs := ((⟨false, 0, 0⟩ : S_spateref3_Wide) : S_spateref3_Wide).cells.toArray) Tryz.zeroValue177 rfl H), ?_⟩;rintro _ h58 ⟨a59, rfl, H⟩;obtain ⟨k60, H⟩ := H;refine ⟨And.intro k60 trivial, ?_⟩;refine g_e 7 511 [] (by kernel_rfl) rfl (by kernel_rfl) (e_call Tryz.call117 rfl (F.xad_ok H)) rfl rfl ?_;rintro _ h61 ⟨r62, rfl, H⟩;refine ⟨trivial, ?_⟩;refine g_e 9 1023 [] (by kernel_rfl) rfl (by kernel_rfl) (f_store (vs := r62.cells) Tryz.sizeOf177 rfl rfl cellsOfStruct rfl (by intro v hv; exact ones_S_spateref3_Wide _ v hv) H) rfl rfl ?_;rintro _ h63 ⟨rfl, H⟩;refine ⟨trivial, ?_⟩;refine g_d (by kernel_rfl) (tr_thenN ?_);exact tr_join [(1, (.pointer (some x1))), (4, (.pointer (some x4))), (5, (.pointer (some a59)))] ⟨rfl, rfl, rfl, trivial⟩ ⟨_, _, _, rfl, H⟩
       ·replace H := H.2;refine ⟨_, (f_alloc (cs := ((⟨false, 0, 0⟩ : S_spateref3_Wide) : S_spateref3_Wide).cells.toArray) Tryz.zeroValue177 rfl H), ?_⟩;rintro _ h64 ⟨a65, rfl, H⟩;obtain ⟨k66, k67, k68, H⟩ := H;refine ⟨And.intro k66 (And.intro k67 (And.intro k68 trivial)), ?_⟩;refine g_e 6 383 [(0, fun h => Cells h x3 y44.cells)] (by kernel_rfl) rfl (by kernel_rfl) (e_call Tryz.call119 rfl (F.xau_ok H)) rfl rfl ?_;rintro _ h69 ⟨r70, rfl, H⟩;obtain ⟨k71, H⟩ := H;refine ⟨And.intro k71 trivial, ?_⟩;refine g_e 7 511 [] (by kernel_rfl) rfl (by kernel_rfl) (e_call Tryz.call117 rfl (F.xad_ok H)) rfl rfl ?_;rintro _ h72 ⟨r73, rfl, H⟩;refine ⟨trivial, ?_⟩;refine g_e 9 1023 [] (by kernel_rfl) rfl (by kernel_rfl) (f_store (vs := r73.cells) Tryz.sizeOf177 rfl rfl cellsOfStruct rfl (by intro v hv; exact ones_S_spateref3_Wide _ v hv) H) rfl rfl ?_;rintro _ h74 ⟨rfl, H⟩;refine ⟨trivial, ?_⟩;refine g_d (by kernel_rfl) (tr_thenN ?_);exact tr_join [(1, (.pointer (some x1))), (4, (.pointer (some x4))), (5, (.pointer (some a65)))] ⟨rfl, rfl, rfl, trivial⟩ ⟨_, _, _, rfl, H⟩
     ·refine tr_draw mixed [0, 0, 2, 6, 0, 16, 62, 127, 0, 511] (by kernel_rfl) ?_;obtain ⟨y75, k76, H⟩ := H;refine g_h 0 1 rfl (by kernel_rfl) (y_ldS Tryz.isAgg177 Tryz.sizeOf177 rfl rfl) k76 rfl rfl (g_p 1 3 rfl (by kernel_rfl) (y_fa (off := 0) Tryz.runUnderlying34 fo_34_0 rfl) rfl rfl ?_);obtain ⟨y77, k78, H⟩ := H;refine g_h 2 7 rfl (by kernel_rfl) (y_ld Tryz.isAgg2 rfl) k78 rfl rfl (g_p 3 15 rfl (by kernel_rfl) (y_sub rfl rfl) rfl rfl (g_p 4 31 rfl (by kernel_rfl) (y_fa (off := 2) Tryz.runUnderlying34 fo_34_2 rfl) rfl rfl ?_));obtain ⟨y79, k80, H⟩ := H;refine g_h 5 63 rfl (by kernel_rfl) (y_ld Tryz.isAgg2 rfl) k80 rfl rfl ?_;refine g_e2 6 127 8 319 [(0, fun h => Cells h x3 y75.cells)] [(5, fun h => cellH h (x1.add 2) = some (.int .i64 y79)), (2, fun h => cellH h (x1.add 0) = some (.int .i64 y77)), (0, fun h => Cells h x3 y75.cells)] (by kernel_rfl) (by kernel_rfl) (by kernel_rfl) (by kernel_rfl) (by kernel_rfl) rfl rfl rfl rfl rfl rfl ?_ ?_
      ·replace H := H.1;refine ⟨_, (e_call Tryz.call119 rfl (F.xau_ok H)), ?_⟩;rintro _ h81 ⟨r82, rfl, H⟩;obtain ⟨k83, H⟩ := H;refine ⟨And.intro k83 trivial, ?_⟩;refine g_e2 7 255 8 383 [] [(0, fun h => Cells h x3 y75.cells)] (by kernel_rfl) (by kernel_rfl) (by kernel_rfl) (by kernel_rfl) (by kernel_rfl) rfl rfl rfl rfl rfl rfl ?_ ?_
       ·replace H := H.1;refine ⟨_, (e_call Tryz.call117 rfl (F.xad_ok H)), ?_⟩;rintro _ h84 ⟨r85, rfl, H⟩;refine ⟨trivial, ?_⟩;refine g_e 8 511 [] (by kernel_rfl) rfl (by kernel_rfl) (f_alloc (cs := ((⟨false, 0, 0⟩ : S_spateref3_Wide) : S_spateref3_Wide).cells.toArray) Tryz.zeroValue177 rfl H) rfl rfl ?_;rintro _ h86 ⟨a87, rfl, H⟩;refine ⟨trivial, ?_⟩;refine g_e 9 1023 [] (by kernel_rfl) rfl (by kernel_rfl) (f_store (vs := r85.cells) Tryz.sizeOf177 rfl rfl cellsOfStruct rfl (by intro v hv; exact ones_S_spateref3_Wide _ v hv) H) rfl rfl ?_;rintro _ h88 ⟨rfl, H⟩;refine ⟨trivial, ?_⟩;refine g_d (by kernel_rfl) (tr_thenN ?_);exact tr_join [(1, (.pointer (some x1))), (3, (.pointer (some x3))), (4, (.pointer (some a87)))] ⟨rfl, rfl, rfl, trivial⟩ ⟨_, _, _, rfl, H⟩
       ·replace H := H.2;refine ⟨_, (f_alloc (cs := ((⟨false, 0, 0⟩ : S_spateref3_Wide) : S_spateref3_Wide).cells.toArray) Tryz.zeroValue177 rfl H), ?_⟩;rintro _ h89 ⟨a90, rfl, H⟩;obtain ⟨k91, H⟩ := H;refine ⟨And.intro k91 trivial, ?_⟩;refine g_e 7 511 [] (by kernel_rfl) rfl (by kernel_rfl) (e_call Tryz.call117 rfl (F.xad_ok H)) rfl rfl ?_;rintro _ h92 ⟨r93, rfl, H⟩;refine ⟨trivial, ?_⟩;refine g_e 9 1023 [] (by kernel_rfl) rfl (by kernel_rfl) (f_store (vs := r93.cells) Tryz.sizeOf177 rfl rfl cellsOfStruct rfl (by intro v hv; exact ones_S_spateref3_Wide _ v hv) H) rfl rfl ?_;rintro _ h94 ⟨rfl, H⟩;refine ⟨trivial, ?_⟩;refine g_d (by kernel_rfl) (tr_thenN ?_);exact tr_join [(1, (.pointer (some x1))), (3, (.pointer (some x3))), (4, (.pointer (some a90)))] ⟨rfl, rfl, rfl, trivial⟩ ⟨_, _, _, rfl, H⟩
      ·replace H := H.2;refine ⟨_, (f_alloc (cs := ((⟨false, 0, 0⟩ : S_spateref3_Wide) : S_spateref3_Wide).cells.toArray) Tryz.zeroValue177 rfl H), ?_⟩;rintro _ h95 ⟨a96, rfl, H⟩;obtain ⟨k97, k98, k99, H⟩ := H;refine ⟨And.intro k97 (And.intro k98 (And.intro k99 trivial)), ?_⟩;refine g_e 6 383 [(0, fun h => Cells h x3 y75.cells)] (by kernel_rfl) rfl (by kernel_rfl) (e_call Tryz.call119 rfl (F.xau_ok H)) rfl rfl ?_;rintro _ h100 ⟨r101, rfl, H⟩;obtain ⟨k102, H⟩ := H;refine ⟨And.intro k102 trivial, ?_⟩;refine g_e 7 511 [] (by kernel_rfl) rfl (by kernel_rfl) (e_call Tryz.call117 rfl (F.xad_ok H)) rfl rfl ?_;rintro _ h103 ⟨r104, rfl, H⟩;refine ⟨trivial, ?_⟩;refine g_e 9 1023 [] (by kernel_rfl) rfl (by kernel_rfl) (f_store (vs := r104.cells) Tryz.sizeOf177 rfl rfl cellsOfStruct rfl (by intro v hv; exact ones_S_spateref3_Wide _ v hv) H) rfl rfl ?_;rintro _ h105 ⟨rfl, H⟩;refine ⟨trivial, ?_⟩;refine g_d (by kernel_rfl) (tr_thenN ?_);exact tr_join [(1, (.pointer (some x1))), (3, (.pointer (some x3))), (4, (.pointer (some a96)))] ⟨rfl, rfl, rfl, trivial⟩ ⟨_, _, _, rfl, H⟩
    ·refine tr_draw mixed [0, 1, 3, 0, 8, 31, 63, 0, 255] (by kernel_rfl) (g_p 0 1 rfl (by kernel_rfl) (y_fa (off := 2) Tryz.runUnderlying34 fo_34_2 rfl) rfl rfl ?_);obtain ⟨y106, k107, H⟩ := H;refine g_h 1 3 rfl (by kernel_rfl) (y_ld Tryz.isAgg2 rfl) k107 rfl rfl (g_p 3 11 rfl (by kernel_rfl) (y_fa (off := 3) Tryz.runUnderlying34 fo_34_3 rfl) rfl rfl ?_);obtain ⟨y108, k109, H⟩ := H;refine g_h 4 27 rfl (by kernel_rfl) (y_ld Tryz.isAgg2 rfl) k109 rfl rfl ?_;refine g_e2 2 31 7 155 [(4, fun h => cellH h (a2.add 3) = some (.int .i64 y108))] [(4, fun h => cellH h (a2.add 3) = some (.int .i64 y108)), (1, fun h => cellH h (a2.add 2) = some (.int .i64 y106))] (by kernel_rfl) (by kernel_rfl) (by kernel_rfl) (by kernel_rfl) (by kernel_rfl) rfl rfl rfl rfl rfl rfl ?_ ?_
     ·replace H := H.1;refine ⟨_, (e_call Tryz.call118 rfl (F.xbo_ok H)), ?_⟩;rintro _ h110 ⟨r111, rfl, H⟩;obtain ⟨k112, H⟩ := H;refine ⟨And.intro k112 trivial, ?_⟩;refine g_e2 5 63 7 159 [] [(4, fun h => cellH h (a2.add 3) = some (.int .i64 y108))] (by kernel_rfl) (by kernel_rfl) (by kernel_rfl) (by kernel_rfl) (by kernel_rfl) rfl rfl rfl rfl rfl rfl ?_ ?_
      ·replace H := H.1;refine ⟨_, (e_call Tryz.call118 rfl (F.xbo_ok H)), ?_⟩;rintro _ h113 ⟨r114, rfl, H⟩;refine ⟨trivial, ?_⟩;refine g_e2 6 127 7 191 [] [] (by kernel_rfl) (by kernel_rfl) (by kernel_rfl) (by kernel_rfl) (by kernel_rfl) rfl rfl rfl rfl rfl rfl ?_ ?_
       ·replace H := H.1;refine ⟨_, (e_call Tryz.call117 rfl (F.xad_ok H)), ?_⟩;rintro _ h115 ⟨r116, rfl, H⟩;refine ⟨trivial, ?_⟩;refine g_e 7 255 [] (by kernel_rfl) rfl (by kernel_rfl) (f_alloc (cs := ((⟨false, 0, 0⟩ : S_spateref3_Wide) : S_spateref3_Wide).cells.toArray) Tryz.zeroValue177 rfl H) rfl rfl ?_;rintro _ h117 ⟨a118, rfl, H⟩;refine ⟨trivial, ?_⟩;refine g_e 8 511 [] (by kernel_rfl) rfl (by kernel_rfl) (f_store (vs := r116.cells) Tryz.sizeOf177 rfl rfl cellsOfStruct rfl (by intro v hv; exact ones_S_spateref3_Wide _ v hv) H) rfl rfl ?_;rintro _ h119 ⟨rfl, H⟩;refine ⟨trivial, ?_⟩;refine g_d (by kernel_rfl) (tr_thenN ?_);exact tr_join [(1, (.pointer (some a2))), (3, (.pointer (some a118)))] ⟨rfl, rfl, trivial⟩ ⟨_, _, rfl, H⟩
       ·replace H := H.2;refine ⟨_, (f_alloc (cs := ((⟨false, 0, 0⟩ : S_spateref3_Wide) : S_spateref3_Wide).cells.toArray) Tryz.zeroValue177 rfl H), ?_⟩;rintro _ h120 ⟨a121, rfl, H⟩;refine ⟨trivial, ?_⟩;refine g_e 6 255 [] (by kernel_rfl) rfl (by kernel_rfl) (e_call Tryz.call117 rfl (F.xad_ok H)) rfl rfl ?_;rintro _ h122 ⟨r123, rfl, H⟩;refine ⟨trivial, ?_⟩;refine g_e 8 511 [] (by kernel_rfl) rfl (by kernel_rfl) (f_store (vs := r123.cells) Tryz.sizeOf177 rfl rfl cellsOfStruct rfl (by intro v hv; exact ones_S_spateref3_Wide _ v hv) H) rfl rfl ?_;rintro _ h124 ⟨rfl, H⟩;refine ⟨trivial, ?_⟩;refine g_d (by kernel_rfl) (tr_thenN ?_);exact tr_join [(1, (.pointer (some a2))), (3, (.pointer (some a121)))] ⟨rfl, rfl, trivial⟩ ⟨_, _, rfl, H⟩
      ·replace H := H.2;refine ⟨_, (f_alloc (cs := ((⟨false, 0, 0⟩ : S_spateref3_Wide) : S_spateref3_Wide).cells.toArray) Tryz.zeroValue177 rfl H), ?_⟩;rintro _ h125 ⟨a126, rfl, H⟩;obtain ⟨k127, H⟩ := H;refine ⟨And.intro k127 trivial, ?_⟩;refine g_e 5 191 [] (by kernel_rfl) rfl (by kernel_rfl) (e_call Tryz.call118 rfl (F.xbo_ok H)) rfl rfl ?_;rintro _ h128 ⟨r129, rfl, H⟩;refine ⟨trivial, ?_⟩;refine g_e 6 255 [] (by kernel_rfl) rfl (by kernel_rfl) (e_call Tryz.call117 rfl (F.xad_ok H)) rfl rfl ?_;rintro _ h130 ⟨r131, rfl, H⟩;refine ⟨trivial, ?_⟩;refine g_e 8 511 [] (by kernel_rfl) rfl (by kernel_rfl) (f_store (vs := r131.cells) Tryz.sizeOf177 rfl rfl cellsOfStruct rfl (by intro v hv; exact ones_S_spateref3_Wide _ v hv) H) rfl rfl ?_;rintro _ h132 ⟨rfl, H⟩;refine ⟨trivial, ?_⟩;refine g_d (by kernel_rfl) (tr_thenN ?_);exact tr_join [(1, (.pointer (some a2))), (3, (.pointer (some a126)))] ⟨rfl, rfl, trivial⟩ ⟨_, _, rfl, H⟩
     ·replace H := H.2;refine ⟨_, (f_alloc (cs := ((⟨false, 0, 0⟩ : S_spateref3_Wide) : S_spateref3_Wide).cells.toArray) Tryz.zeroValue177 rfl H), ?_⟩;rintro _ h133 ⟨a134, rfl, H⟩;obtain ⟨k135, k136, H⟩ := H;refine ⟨And.intro k135 (And.intro k136 trivial), ?_⟩;refine g_e 2 159 [(4, fun h => cellH h (a2.add 3) = some (.int .i64 y108))] (by kernel_rfl) rfl (by kernel_rfl) (e_call Tryz.call118 rfl (F.xbo_ok H)) rfl rfl ?_;rintro _ h137 ⟨r138, rfl, H⟩;obtain ⟨k139, H⟩ := H;refine ⟨And.intro k139 trivial, ?_⟩;refine g_e 5 191 [] (by kernel_rfl) rfl (by kernel_rfl) (e_call Tryz.call118 rfl (F.xbo_ok H)) rfl rfl ?_;rintro _ h140 ⟨r141, rfl, H⟩;refine ⟨trivial, ?_⟩;refine g_e 6 255 [] (by kernel_rfl) rfl (by kernel_rfl) (e_call Tryz.call117 rfl (F.xad_ok H)) rfl rfl ?_;rintro _ h142 ⟨r143, rfl, H⟩;refine ⟨trivial, ?_⟩;refine g_e 8 511 [] (by kernel_rfl) rfl (by kernel_rfl) (f_store (vs := r143.cells) Tryz.sizeOf177 rfl rfl cellsOfStruct rfl (by intro v hv; exact ones_S_spateref3_Wide _ v hv) H) rfl rfl ?_;rintro _ h144 ⟨rfl, H⟩;refine ⟨trivial, ?_⟩;refine g_d (by kernel_rfl) (tr_thenN ?_);exact tr_join [(1, (.pointer (some a2))), (3, (.pointer (some a134)))] ⟨rfl, rfl, trivial⟩ ⟨_, _, rfl, H⟩
def F.xbh.j1 (Q : Int -> H -> Prop) (x0 : Option Addr) (x1 : Int) (x5 : Addr) (h : H) : Prop :=
  ld_S_api_Cell h (x5.add 0) fun y8 =>
  F.xcl x0 y8 h fun r11 h10 =>
  F.xcp r11 h10 fun r13 h12 =>
  ((decide (r13 > x1)) = true ->
  Q 32 h12) ∧
  ((decide (r13 > x1)) = false ->
  ld_S_api_Agg h12 (x5.add 3) fun y15 =>
  F.xay r11 (⟨x1, y15, false⟩ : S_spateref7_Version) h12 fun r18 h17 =>
  nn x0 fun a19 =>
  ldI .i64 h17 (a19.add 0) fun y21 =>
  F.xbm x0 h17 fun r24 h23 =>
  cellH h23 (a19.add 0) = some (.int .i64 y21) ∧
  F.xav r11 h23 fun r27 h26 =>
  cellH h26 (a19.add 0) = some (.int .i64 y21) ∧
  F.xav r18 h26 fun r30 h29 =>
  cellH h29 (a19.add 0) = some (.int .i64 y21) ∧
  ((decide ((IntKind.wrap .i64 ((IntKind.wrap .i64 (r24 - r27)) + r30)) > y21)) = true ->
  Q 31 h29) ∧
  ((decide ((IntKind.wrap .i64 ((IntKind.wrap .i64 (r24 - r27)) + r30)) > y21)) = false ->
  ld_S_api_Cell h29 (x5.add 0) fun y33 =>
  F.xbq x0 y33 r18 h29 fun h35 =>
  Q 0 h35))
def F.xbh.j2 (Q : Int -> H -> Prop) (x0 : Option Addr) (x1 : Int) (x5 : Addr) (x33 : Bool) (h : H) : Prop :=
  (x33 = true ->
  Q 1 h) ∧
  (x33 = false ->
  F.xbh.j1 Q x0 x1 x5 h)
def F.xbh (p0 : Option Addr) (p1 : Int) (p2 : S_api_Row) (h : H) (Q : Int -> H -> Prop) : Prop :=
  new h p2.cells.toArray ty_51 fun a2 h1 =>
  ld_S_api_Cell h1 (a2.add 0) fun y3 =>
  F.xal y3 h1 fun r6 h5 =>
  (((r6 != 0)) = true ->
  Q r6 h5) ∧
  (((r6 != 0)) = false ->
  ((decide (p1 < 1)) = true ->
  F.xbh.j2 Q p0 p1 a2 true h5) ∧
  ((decide (p1 < 1)) = false ->
  ((decide (p1 > 1099511627776)) = true ->
  F.xbh.j2 Q p0 p1 a2 true h5) ∧
  ((decide (p1 > 1099511627776)) = false ->
  ld_S_api_Agg h5 (a2.add 3) fun y39 =>
  F.xan y39 h5 fun r42 h41 =>
  ((!r42) = true ->
  F.xbh.j2 Q p0 p1 a2 true h41) ∧
  ((!r42) = false ->
  ldI .i64 h41 ((a2.add 3).add 0) fun y44 =>
  F.xbh.j2 Q p0 p1 a2 ((y44 == 0)) h41))))
theorem F.xbh_ok {p0 : Option Addr} {p1 : Int} {p2 : S_api_Row} {h : H} {Q : Int -> H -> Prop} (H : F.xbh p0 p1 p2 h Q) : Fn PP 46 ([(.pointer p0), (.int .i64 p1), (.agg p2.cells.toArray)] : List Value).toArray h fun r h' => ∃ r0, r = (.int .i64 r0) ∧ Q r0 h' := by
 unfold F.xbh at H;refine fn_of Tryz.func46 Tryz.ntmps46 rfl rfl fun w0 => (tr_sub [(0, (.pointer p0)), (1, (.int .i64 p1)), (2, (.agg p2.cells.toArray))] ⟨rfl, rfl, rfl, trivial⟩ (tr_seq (tr_region (tr_e (f_box (cs := p2.cells.toArray) rfl rfl H) rfl rfl ?_))));rintro _ h1 ⟨a2, rfl, H⟩;refine tq (y_assign rfl) (tr_nil (tr_thenN (tr_seq (tr_region (tq (y_fa (off := 0) Tryz.runUnderlying51 fo_51_0 rfl) ?_)))));obtain ⟨y3, k4, H⟩ := H;refine tr_h (y_ldS Tryz.isAgg32 Tryz.sizeOf32 rfl rfl) k4 rfl rfl (tr_e (e_call Tryz.call85 rfl (F.xal_ok H)) rfl rfl ?_);rintro _ h5 ⟨r6, rfl, H⟩;refine tq (y_assign rfl) (tr_nil (tr_thenN (tr_seq (tr_seq (tr_region (tq (y_move rfl) (tq (y_neq rfl rfl) (tr_nil (tr_thenN ?_)))))))));refine tr_cond rfl (fun g7 => ?_) (fun g7 => ?_)
 ·replace H := H.1 g7;refine tr_seq (tr_region (tq (y_move rfl) (tq (y_assign rfl) (tr_nil (tr_thenN (tr_ret (tr_thenR ?_)))))));exact tr_ret1 rfl rfl ⟨_, rfl, H⟩
 ·replace H := H.2 g7;refine tr_skip (tr_thenN ?_);refine tr_seq_j (fun L' h => ∃ (x0 : Option Addr) (x1 : Int) (x5 : Addr), L' = [(0, (.pointer x0)), (1, (.int .i64 x1)), (5, (.pointer (some x5)))] ∧ F.xbh.j1 Q x0 x1 x5 h) ?_ ?_
  ·rintro L' h ⟨x0, x1, x5, rfl, H⟩;unfold F.xbh.j1 at H;refine tr_seq (tr_region (tq (y_move rfl) (tq (y_fa (off := 0) Tryz.runUnderlying51 fo_51_0 rfl) ?_)));obtain ⟨y8, k9, H⟩ := H;refine tr_h (y_ldS Tryz.isAgg32 Tryz.sizeOf32 rfl rfl) k9 rfl rfl (tr_e (e_call Tryz.call87 rfl (F.xcl_ok H)) rfl rfl ?_);rintro _ h10 ⟨r11, rfl, H⟩;refine tq (y_assign rfl) (tr_nil (tr_thenN (tr_seq (tr_seq (tr_region (tq (y_move rfl) (tr_e (e_call Tryz.call88 rfl (F.xcp_ok H)) rfl rfl ?_)))))));rintro _ h12 ⟨r13, rfl, H⟩;refine tq (y_move rfl) (tq (y_gtr rfl rfl) (tr_nil (tr_thenN ?_)));refine tr_cond rfl (fun g14 => ?_) (fun g14 => ?_)
   ·replace H := H.1 g14;refine tr_seq (tr_region (tq (y_assign rfl) (tr_nil (tr_thenN (tr_ret (tr_thenR ?_))))));exact tr_ret1 rfl rfl ⟨_, rfl, H⟩
   ·replace H := H.2 g14;refine tr_skip (tr_thenN (tr_seq (tr_region (tq (y_move rfl) (tq (y_move rfl) (tq (y_fa (off := 3) Tryz.runUnderlying51 fo_51_1 rfl) ?_))))));obtain ⟨y15, k16, H⟩ := H;refine tr_h (y_ldS Tryz.isAgg34 Tryz.sizeOf34 rfl rfl) k16 rfl rfl (tq (f_build rfl (bd_146_0_1 x1 y15)) (tr_e (e_call Tryz.call89 rfl (F.xay_ok H)) rfl rfl ?_));rintro _ h17 ⟨r18, rfl, H⟩;refine tq (y_assign rfl) (tr_nil (tr_thenN (tr_seq (tr_seq (tr_draw mixed [0, 1, 0, 7, 15, 0, 47, 127, 0, 256, 768, 1792, 4095] (by kernel_rfl) (g_p 0 1 rfl (by kernel_rfl) (y_move rfl) rfl rfl (g_p 2 5 rfl (by kernel_rfl) (y_move rfl) rfl rfl (g_p 5 37 rfl (by kernel_rfl) (y_move rfl) rfl rfl (g_p 8 293 rfl (by kernel_rfl) (y_move rfl) rfl rfl ?_)))))))));obtain ⟨a19, e20, H⟩ := H;refine g_p 9 805 rfl (by kernel_rfl) (f_nn rfl e20) rfl rfl (g_p 10 1829 rfl (by kernel_rfl) (y_fa (off := 0) Tryz.runUnderlying91 fo_91_0 rfl) rfl rfl ?_);obtain ⟨y21, k22, H⟩ := H;refine g_h 11 3877 rfl (by kernel_rfl) (y_ld Tryz.isAgg3 rfl) k22 rfl rfl (g_e 1 3879 [(11, fun h => cellH h (a19.add 0) = some (.int .i64 y21))] (by kernel_rfl) rfl (by kernel_rfl) (e_call Tryz.call55 rfl (F.xbm_ok H)) rfl rfl ?_);rintro _ h23 ⟨r24, rfl, H⟩;obtain ⟨k25, H⟩ := H;refine ⟨And.intro k25 trivial, ?_⟩;refine g_e 3 3887 [(11, fun h => cellH h (a19.add 0) = some (.int .i64 y21))] (by kernel_rfl) rfl (by kernel_rfl) (e_call Tryz.call90 rfl (F.xav_ok H)) rfl rfl ?_;rintro _ h26 ⟨r27, rfl, H⟩;obtain ⟨k28, H⟩ := H;refine ⟨And.intro k28 trivial, ?_⟩;refine g_p 4 3903 rfl (by kernel_rfl) (y_sub rfl rfl) rfl rfl (g_e 6 3967 [(11, fun h => cellH h (a19.add 0) = some (.int .i64 y21))] (by kernel_rfl) rfl (by kernel_rfl) (e_call Tryz.call90 rfl (F.xav_ok H)) rfl rfl ?_);rintro _ h29 ⟨r30, rfl, H⟩;obtain ⟨k31, H⟩ := H;refine ⟨And.intro k31 trivial, ?_⟩;refine g_p 7 4095 rfl (by kernel_rfl) (y_add rfl rfl) rfl rfl (g_p 12 8191 rfl (by kernel_rfl) (y_gtr rfl rfl) rfl rfl (g_d (by kernel_rfl) (tr_thenN ?_)));refine tr_cond rfl (fun g32 => ?_) (fun g32 => ?_)
    ·replace H := H.1 g32;refine tr_seq (tr_region (tq (y_assign rfl) (tr_nil (tr_thenN (tr_ret (tr_thenR ?_))))));exact tr_ret1 rfl rfl ⟨_, rfl, H⟩
    ·replace H := H.2 g32;refine tr_skip (tr_thenN (tr_seq (tr_region (tq (y_move rfl) (tq (y_fa (off := 0) Tryz.runUnderlying51 fo_51_0 rfl) ?_)))));obtain ⟨y33, k34, H⟩ := H;refine tr_h (y_ldS Tryz.isAgg32 Tryz.sizeOf32 rfl rfl) k34 rfl rfl (tq (y_move rfl) (tr_e (e_call Tryz.call91 rfl (F.xbq_ok H)) rfl rfl ?_));rintro _ h35 ⟨rfl, H⟩;refine tr_nil (tr_thenN (tr_seq (tr_region (tq (y_assign rfl) (tr_nil (tr_thenN (tr_ret ?_)))))));exact tr_ret1 rfl rfl ⟨_, rfl, H⟩
  ·refine tr_seq_j (fun L' h => ∃ (x0 : Option Addr) (x1 : Int) (x5 : Addr) (x33 : Bool), L' = [(0, (.pointer x0)), (1, (.int .i64 x1)), (5, (.pointer (some x5))), (33, (.bool x33))] ∧ F.xbh.j2 Q x0 x1 x5 x33 h) ?_ ?_
   ·rintro L' h ⟨x0, x1, x5, x33, rfl, H⟩;unfold F.xbh.j2 at H;refine tr_cond rfl (fun g36 => ?_) (fun g36 => ?_)
    ·replace H := H.1 g36;refine tr_seq (tr_region (tq (y_assign rfl) (tr_nil (tr_thenN (tr_ret (tr_thenR ?_))))));exact tr_ret1 rfl rfl ⟨_, rfl, H⟩
    ·replace H := H.2 g36;refine tr_skip (tr_thenN ?_);exact tr_join [(0, (.pointer x0)), (1, (.int .i64 x1)), (5, (.pointer (some x5)))] ⟨rfl, rfl, rfl, trivial⟩ ⟨_, _, _, rfl, H⟩
   ·refine tr_region (tq (y_move rfl) (tq (y_lss rfl rfl) (tq (y_move rfl) ?_)));refine tr_split (t := 18) rfl (fun g37 => ?_) (fun g37 => ?_)
    ·replace H := H.1 g37;refine ts (ts (tq (y_pick_t rfl rfl) (tq (y_move rfl) (ts (ts (ts (ts (tq (y_pick_t rfl rfl) (tq (y_move rfl) (ts (ts (ts (ts ?_)))))))))))));refine tq (y_pick_t rfl rfl) (tr_nil (tr_thenN ?_));exact tr_join [(0, (.pointer p0)), (1, (.int .i64 p1)), (5, (.pointer (some a2))), (33, (.bool true))] ⟨rfl, rfl, rfl, rfl, trivial⟩ ⟨_, _, _, _, rfl, H⟩
    ·replace H := H.2 g37;refine tq (y_move rfl) (tq (y_gtr rfl rfl) (tq (y_pick_f rfl rfl) (tq (y_move rfl) ?_)));refine tr_split (t := 22) rfl (fun g38 => ?_) (fun g38 => ?_)
     ·replace H := H.1 g38;refine ts (ts (ts (ts (tq (y_pick_t rfl rfl) (tq (y_move rfl) (ts (ts (ts (ts (tq (y_pick_t rfl rfl) (tr_nil (tr_thenN ?_))))))))))));exact tr_join [(0, (.pointer p0)), (1, (.int .i64 p1)), (5, (.pointer (some a2))), (33, (.bool true))] ⟨rfl, rfl, rfl, rfl, trivial⟩ ⟨_, _, _, _, rfl, H⟩
     ·replace H := H.2 g38;refine tq (y_fa (off := 3) Tryz.runUnderlying51 fo_51_1 rfl) ?_;obtain ⟨y39, k40, H⟩ := H;refine tr_h (y_ldS Tryz.isAgg34 Tryz.sizeOf34 rfl rfl) k40 rfl rfl (tr_e (e_call Tryz.call86 rfl (F.xan_ok H)) rfl rfl ?_);rintro _ h41 ⟨r42, rfl, H⟩;refine tq (y_not rfl) (tq (y_pick_f rfl rfl) (tq (y_move rfl) ?_));refine tr_split (t := 28) rfl (fun g43 => ?_) (fun g43 => ?_)
      ·replace H := H.1 g43;refine ts (ts (ts (ts (tq (y_pick_t rfl rfl) (tr_nil (tr_thenN ?_))))));exact tr_join [(0, (.pointer p0)), (1, (.int .i64 p1)), (5, (.pointer (some a2))), (33, (.bool true))] ⟨rfl, rfl, rfl, rfl, trivial⟩ ⟨_, _, _, _, rfl, H⟩
      ·replace H := H.2 g43;refine tq (y_fa (off := 3) Tryz.runUnderlying51 fo_51_1 rfl) (tq (y_fa (off := 0) Tryz.runUnderlying34 fo_34_0 rfl) ?_);obtain ⟨y44, k45, H⟩ := H;refine tr_h (y_ld Tryz.isAgg2 rfl) k45 rfl rfl (tq (y_eql rfl rfl) (tq (y_pick_f rfl rfl) (tr_nil (tr_thenN ?_))));exact tr_join [(0, (.pointer p0)), (1, (.int .i64 p1)), (5, (.pointer (some a2))), (33, (.bool ((y44 == 0))))] ⟨rfl, rfl, rfl, rfl, trivial⟩ ⟨_, _, _, _, rfl, H⟩
def F.xat.j2 (Q : Int -> H -> Prop) (x0 : Option Addr) (x1 : Int) (x5 : Addr) (x8 : Sl) (h : H) : Prop :=
  ld_S_api_Cell h x5 fun y15 =>
  F.xay x8 (⟨x1, (⟨0, 0, 0, 0⟩ : S_api_Agg), true⟩ : S_spateref7_Version) h fun r18 h17 =>
  Cells h17 x5 y15.cells ∧
  F.xbq x0 y15 r18 h17 fun h20 =>
  Q 0 h20
def F.xat.j3 (Q : Int -> H -> Prop) (x0 : Option Addr) (x1 : Int) (x5 : Addr) (x8 : Sl) (x38 : Bool) (h : H) : Prop :=
  (x38 = true ->
  Q 44 h) ∧
  (x38 = false ->
  F.xat.j2 Q x0 x1 x5 x8 h)
def F.xat.j1 (Q : Int -> H -> Prop) (x0 : Option Addr) (x1 : Int) (x5 : Addr) (h : H) : Prop :=
  ld_S_api_Cell h x5 fun y8 =>
  F.xcl x0 y8 h fun r11 h10 =>
  F.xcp r11 h10 fun r13 h12 =>
  ((decide (r13 > x1)) = true ->
  Q 32 h12) ∧
  ((decide (r13 > x1)) = false ->
  ((((r11.len : Int) == 0)) = true ->
  F.xat.j3 Q x0 x1 x5 r11 true h12) ∧
  ((((r11.len : Int) == 0)) = false ->
  idxA r11 (IntKind.wrap .i64 ((r11.len : Int) - 1)) 6 fun a23 =>
  ldB h12 (a23.add 5) fun y25 =>
  F.xat.j3 Q x0 x1 x5 r11 y25 h12))
def F.xat.j4 (Q : Int -> H -> Prop) (x0 : Option Addr) (x1 : Int) (x5 : Addr) (x19 : Bool) (h : H) : Prop :=
  (x19 = true ->
  Q 1 h) ∧
  (x19 = false ->
  F.xat.j1 Q x0 x1 x5 h)
def F.xat (p0 : Option Addr) (p1 : Int) (p2 : S_api_Cell) (h : H) (Q : Int -> H -> Prop) : Prop :=
  new h p2.cells.toArray ty_32 fun a2 h1 =>
  ld_S_api_Cell h1 a2 fun y3 =>
  F.xal y3 h1 fun r6 h5 =>
  (((r6 != 0)) = true ->
  Q r6 h5) ∧
  (((r6 != 0)) = false ->
  ((decide (p1 < 1)) = true ->
  F.xat.j4 Q p0 p1 a2 true h5) ∧
  ((decide (p1 < 1)) = false ->
  F.xat.j4 Q p0 p1 a2 (decide (p1 > 1099511627776)) h5))
theorem F.xat_ok {p0 : Option Addr} {p1 : Int} {p2 : S_api_Cell} {h : H} {Q : Int -> H -> Prop} (H : F.xat p0 p1 p2 h Q) : Fn PP 47 ([(.pointer p0), (.int .i64 p1), (.agg p2.cells.toArray)] : List Value).toArray h fun r h' => ∃ r0, r = (.int .i64 r0) ∧ Q r0 h' := by
 unfold F.xat at H;refine fn_of Tryz.func47 Tryz.ntmps47 rfl rfl fun w0 => (tr_sub [(0, (.pointer p0)), (1, (.int .i64 p1)), (2, (.agg p2.cells.toArray))] ⟨rfl, rfl, rfl, trivial⟩ (tr_seq (tr_region (tr_e (f_box (cs := p2.cells.toArray) rfl rfl H) rfl rfl ?_))));rintro _ h1 ⟨a2, rfl, H⟩;refine tq (y_assign rfl) (tr_nil (tr_thenN (tr_seq (tr_region ?_))));obtain ⟨y3, k4, H⟩ := H;refine tr_h (y_ldS Tryz.isAgg32 Tryz.sizeOf32 rfl rfl) k4 rfl rfl (tr_e (e_call Tryz.call85 rfl (F.xal_ok H)) rfl rfl ?_);rintro _ h5 ⟨r6, rfl, H⟩;refine tq (y_assign rfl) (tr_nil (tr_thenN (tr_seq (tr_seq (tr_region (tq (y_move rfl) (tq (y_neq rfl rfl) (tr_nil (tr_thenN ?_)))))))));refine tr_cond rfl (fun g7 => ?_) (fun g7 => ?_)
 ·replace H := H.1 g7;refine tr_seq (tr_region (tq (y_move rfl) (tq (y_assign rfl) (tr_nil (tr_thenN (tr_ret (tr_thenR ?_)))))));exact tr_ret1 rfl rfl ⟨_, rfl, H⟩
 ·replace H := H.2 g7;refine tr_skip (tr_thenN ?_);refine tr_seq_j (fun L' h => ∃ (x0 : Option Addr) (x1 : Int) (x5 : Addr), L' = [(0, (.pointer x0)), (1, (.int .i64 x1)), (5, (.pointer (some x5)))] ∧ F.xat.j1 Q x0 x1 x5 h) ?_ ?_
  ·rintro L' h ⟨x0, x1, x5, rfl, H⟩;unfold F.xat.j1 at H;refine tr_seq (tr_region (tq (y_move rfl) ?_));obtain ⟨y8, k9, H⟩ := H;refine tr_h (y_ldS Tryz.isAgg32 Tryz.sizeOf32 rfl rfl) k9 rfl rfl (tr_e (e_call Tryz.call87 rfl (F.xcl_ok H)) rfl rfl ?_);rintro _ h10 ⟨r11, rfl, H⟩;refine tq (y_assign rfl) (tr_nil (tr_thenN (tr_seq (tr_seq (tr_region (tq (y_move rfl) (tr_e (e_call Tryz.call88 rfl (F.xcp_ok H)) rfl rfl ?_)))))));rintro _ h12 ⟨r13, rfl, H⟩;refine tq (y_move rfl) (tq (y_gtr rfl rfl) (tr_nil (tr_thenN ?_)));refine tr_cond rfl (fun g14 => ?_) (fun g14 => ?_)
   ·replace H := H.1 g14;refine tr_seq (tr_region (tq (y_assign rfl) (tr_nil (tr_thenN (tr_ret (tr_thenR ?_))))));exact tr_ret1 rfl rfl ⟨_, rfl, H⟩
   ·replace H := H.2 g14;refine tr_skip (tr_thenN ?_);refine tr_seq_j (fun L' h => ∃ (x0 : Option Addr) (x1 : Int) (x5 : Addr) (x8 : Sl), L' = [(0, (.pointer x0)), (1, (.int .i64 x1)), (5, (.pointer (some x5))), (8, x8.enc)] ∧ F.xat.j2 Q x0 x1 x5 x8 h) ?_ ?_
    ·rintro L' h ⟨x0, x1, x5, x8, rfl, H⟩;unfold F.xat.j2 at H;refine tr_seq (tr_draw mixed [0, 0, 0, 0, 8, 28, 63] (by kernel_rfl) (g_p 0 1 rfl (by kernel_rfl) (y_move rfl) rfl rfl ?_));obtain ⟨y15, k16, H⟩ := H;refine g_h 1 3 rfl (by kernel_rfl) (y_ldS Tryz.isAgg32 Tryz.sizeOf32 rfl rfl) k16 rfl rfl (g_p 2 7 rfl (by kernel_rfl) (y_move rfl) rfl rfl (g_p 3 15 rfl (by kernel_rfl) (y_move rfl) rfl rfl (g_p 4 31 rfl (by kernel_rfl) (f_build rfl (bd_146_0_2 x1 true)) rfl rfl (g_e 5 63 [(1, fun h => Cells h x5 y15.cells)] (by kernel_rfl) rfl (by kernel_rfl) (e_call Tryz.call89 rfl (F.xay_ok H)) rfl rfl ?_))));rintro _ h17 ⟨r18, rfl, H⟩;obtain ⟨k19, H⟩ := H;refine ⟨And.intro k19 trivial, ?_⟩;refine g_e 6 127 [] (by kernel_rfl) rfl (by kernel_rfl) (e_call Tryz.call91 rfl (F.xbq_ok H)) rfl rfl ?_;rintro _ h20 ⟨rfl, H⟩;refine ⟨trivial, ?_⟩;refine g_d (by kernel_rfl) (tr_thenN (tr_seq (tr_region (tq (y_assign rfl) (tr_nil (tr_thenN (tr_ret ?_)))))));exact tr_ret1 rfl rfl ⟨_, rfl, H⟩
    ·refine tr_seq_j (fun L' h => ∃ (x0 : Option Addr) (x1 : Int) (x5 : Addr) (x8 : Sl) (x38 : Bool), L' = [(0, (.pointer x0)), (1, (.int .i64 x1)), (5, (.pointer (some x5))), (8, x8.enc), (38, (.bool x38))] ∧ F.xat.j3 Q x0 x1 x5 x8 x38 h) ?_ ?_
     ·rintro L' h ⟨x0, x1, x5, x8, x38, rfl, H⟩;unfold F.xat.j3 at H;refine tr_cond rfl (fun g21 => ?_) (fun g21 => ?_)
      ·replace H := H.1 g21;refine tr_seq (tr_region (tq (y_assign rfl) (tr_nil (tr_thenN (tr_ret (tr_thenR ?_))))));exact tr_ret1 rfl rfl ⟨_, rfl, H⟩
      ·replace H := H.2 g21;refine tr_skip (tr_thenN ?_);exact tr_join [(0, (.pointer x0)), (1, (.int .i64 x1)), (5, (.pointer (some x5))), (8, x8.enc)] ⟨rfl, rfl, rfl, rfl, trivial⟩ ⟨_, _, _, _, rfl, H⟩
     ·refine tr_region (tq (y_move rfl) (tq (y_len (ts := #[]) Tryz.runUnderlying104 (o := r11.ptr) (n := r11.len) (cap := r11.cap) rfl) (tq (y_eql rfl rfl) (tq (y_move rfl) ?_))));refine tr_split (t := 30) rfl (fun g22 => ?_) (fun g22 => ?_)
      ·replace H := H.1 g22;refine ts (ts (ts (ts (ts (ts (ts (tq (y_pick_t rfl rfl) (tr_nil (tr_thenN ?_)))))))));exact tr_join [(0, (.pointer x0)), (1, (.int .i64 x1)), (5, (.pointer (some x5))), (8, r11.enc), (38, (.bool true))] ⟨rfl, rfl, rfl, rfl, rfl, trivial⟩ ⟨_, _, _, _, _, rfl, H⟩
      ·replace H := H.2 g22;refine tq (y_move rfl) (tq (y_move rfl) (tq (y_len (ts := #[]) Tryz.runUnderlying104 (o := r11.ptr) (n := r11.len) (cap := r11.cap) rfl) (tq (y_sub rfl rfl) ?_)));obtain ⟨a23, e24, H⟩ := H;refine tq (f_idx (s := r11) Tryz.runUnderlying104 Tryz.sizeOf146 rfl rfl e24) (tq (y_fa (off := 5) Tryz.runUnderlying146 fo_146_2 rfl) ?_);obtain ⟨y25, k26, H⟩ := H;refine tr_h (y_ld Tryz.isAgg4 rfl) k26 rfl rfl (tq (y_pick_f rfl rfl) (tr_nil (tr_thenN ?_)));exact tr_join [(0, (.pointer x0)), (1, (.int .i64 x1)), (5, (.pointer (some x5))), (8, r11.enc), (38, (.bool y25))] ⟨rfl, rfl, rfl, rfl, rfl, trivial⟩ ⟨_, _, _, _, _, rfl, H⟩
  ·refine tr_seq_j (fun L' h => ∃ (x0 : Option Addr) (x1 : Int) (x5 : Addr) (x19 : Bool), L' = [(0, (.pointer x0)), (1, (.int .i64 x1)), (5, (.pointer (some x5))), (19, (.bool x19))] ∧ F.xat.j4 Q x0 x1 x5 x19 h) ?_ ?_
   ·rintro L' h ⟨x0, x1, x5, x19, rfl, H⟩;unfold F.xat.j4 at H;refine tr_cond rfl (fun g27 => ?_) (fun g27 => ?_)
    ·replace H := H.1 g27;refine tr_seq (tr_region (tq (y_assign rfl) (tr_nil (tr_thenN (tr_ret (tr_thenR ?_))))));exact tr_ret1 rfl rfl ⟨_, rfl, H⟩
    ·replace H := H.2 g27;refine tr_skip (tr_thenN ?_);exact tr_join [(0, (.pointer x0)), (1, (.int .i64 x1)), (5, (.pointer (some x5)))] ⟨rfl, rfl, rfl, trivial⟩ ⟨_, _, _, rfl, H⟩
   ·refine tr_region (tq (y_move rfl) (tq (y_lss rfl rfl) (tq (y_move rfl) ?_)));refine tr_split (t := 16) rfl (fun g28 => ?_) (fun g28 => ?_)
    ·replace H := H.1 g28;refine ts (ts (tq (y_pick_t rfl rfl) (tr_nil (tr_thenN ?_))));exact tr_join [(0, (.pointer p0)), (1, (.int .i64 p1)), (5, (.pointer (some a2))), (19, (.bool true))] ⟨rfl, rfl, rfl, rfl, trivial⟩ ⟨_, _, _, _, rfl, H⟩
    ·replace H := H.2 g28;refine tq (y_move rfl) (tq (y_gtr rfl rfl) (tq (y_pick_f rfl rfl) (tr_nil (tr_thenN ?_))));exact tr_join [(0, (.pointer p0)), (1, (.int .i64 p1)), (5, (.pointer (some a2))), (19, (.bool (decide (p1 > 1099511627776))))] ⟨rfl, rfl, rfl, rfl, trivial⟩ ⟨_, _, _, _, rfl, H⟩
def F.xdl (p0 : Sl) (h : H) (Q : Sl -> H -> Prop) : Prop :=
  runL PP (Instr.makeSlice 35 (.int .i64 0) (.int .i64 (IntKind.wrap .i64 ((p0.len : Int) + 3)))) h fun s2 h1 =>
  runL PP (Builtin.append_ #[35, 35] 35 #[s2.enc, p0.enc]) h1 fun s4 h3 =>
  newL h3 #[(.int .i64 (-77))] ty_3 1 fun s6 h5 =>
  runL PP (Builtin.append_ #[35, 35] 35 #[s4.enc, s6.enc]) h5 fun s8 h7 =>
  cutL s8 0 (p0.len : Int) 1 fun s10 =>
  Q s10 h7
theorem F.xdl_ok {p0 : Sl} {h : H} {Q : Sl -> H -> Prop} (H : F.xdl p0 h Q) : Fn PP 48 ([p0.enc] : List Value).toArray h fun r h' => ∃ r0, r = r0.enc ∧ Q r0 h' := by
 unfold F.xdl at H;refine fn_of Tryz.func48 Tryz.ntmps48 rfl rfl fun w0 => (tr_sub [(0, p0.enc)] ⟨rfl, trivial⟩ (tr_seq (tr_region (tq (y_assign rfl) (tr_nil (tr_thenN (tr_seq (tr_region (tq (y_move rfl) (tq (y_len (ts := #[]) Tryz.runUnderlying35 (o := p0.ptr) (n := p0.len) (cap := p0.cap) rfl) (tq (y_add rfl rfl) (tr_e (f_make rfl rfl H) rfl rfl ?_))))))))))));rintro _ h1 ⟨s2, rfl, H⟩;refine tq (y_move rfl) (tr_e (f_app rfl H) rfl rfl ?_);rintro _ h3 ⟨s4, rfl, H⟩;refine tq (y_assign rfl) (tr_nil (tr_thenN (tr_seq (tr_region (tq (y_move rfl) (tr_e (f_buildL (cs := #[(.int .i64 (-77))]) rfl rfl (bl_35_1_0 (-77)) H) rfl rfl ?_))))));rintro _ h5 ⟨s6, rfl, H⟩;refine tr_e (f_app rfl H) rfl rfl ?_;rintro _ h7 ⟨s8, rfl, H⟩;refine tq (y_move rfl) (tq (y_len (ts := #[]) Tryz.runUnderlying35 (o := p0.ptr) (n := p0.len) (cap := p0.cap) rfl) ?_);obtain ⟨s10, e9, H⟩ := H;refine tq (f_cutL (s := s8) none (some (.i64, (p0.len : Int))) Tryz.runUnderlying35 Tryz.sizeOf3 rfl rfl rfl e9) (tq (y_assign rfl) (tr_nil (tr_thenN (tr_ret ?_))));exact tr_ret1 rfl rfl ⟨_, rfl, H⟩
def F.xaa.j3 (Q : Sl -> H -> Prop) (C1 : Sl -> Sl -> Sl -> Int -> H -> Prop) (C2 : Sl -> Sl -> Sl -> Int -> Int -> H -> Prop) (x0 : Sl) (x1 : Sl) (x5 : Sl) (x6 : Int) (x7 : Int) (h : H) : Prop :=
  C2 x0 x1 x5 x6 (IntKind.wrap .i64 (x7 + 1)) h
def F.xaa.j4 (Q : Sl -> H -> Prop) (C1 : Sl -> Sl -> Sl -> Int -> H -> Prop) (C2 : Sl -> Sl -> Sl -> Int -> Int -> H -> Prop) (x0 : Sl) (x1 : Sl) (x5 : Sl) (x6 : Int) (x7 : Int) (x62 : Bool) (h : H) : Prop :=
  (x62 = true ->
  idxA x5 x6 1 fun a9 =>
  stH h a9 [(.bool true)] fun h11 =>
  F.xaa.j3 Q C1 C2 x0 x1 x5 x6 x7 h11) ∧
  (x62 = false ->
  F.xaa.j3 Q C1 C2 x0 x1 x5 x6 x7 h)
def F.xaa.l2 (Q : Sl -> H -> Prop) (C1 : Sl -> Sl -> Sl -> Int -> H -> Prop) : Nat -> Sl -> Sl -> Sl -> Int -> Int -> H -> Prop
  | 0, _, _, _, _, _, _ => False
  | q2 + 1, x0, x1, x5, x6, x7, h =>
    ((decide (x7 < (x1.len : Int))) = true ->
    idxA x0 x6 6 fun a12 =>
    ldI .i64 h (a12.add 0) fun y14 =>
    idxA x1 x7 1 fun a16 =>
    ldI .i64 h a16 fun y18 =>
    ((decide (y14 <= y18)) = true ->
    (((x6 == (IntKind.wrap .i64 ((x0.len : Int) - 1)))) = true ->
    F.xaa.j4 Q C1 (F.xaa.l2 Q C1 q2) x0 x1 x5 x6 x7 true h) ∧
    (((x6 == (IntKind.wrap .i64 ((x0.len : Int) - 1)))) = false ->
    idxA x0 (IntKind.wrap .i64 (x6 + 1)) 6 fun a22 =>
    ldI .i64 h (a22.add 0) fun y24 =>
    idxA x1 x7 1 fun a26 =>
    ldI .i64 h a26 fun y28 =>
    F.xaa.j4 Q C1 (F.xaa.l2 Q C1 q2) x0 x1 x5 x6 x7 (decide (y24 > y28)) h)) ∧
    ((decide (y14 <= y18)) = false ->
    F.xaa.j4 Q C1 (F.xaa.l2 Q C1 q2) x0 x1 x5 x6 x7 false h)) ∧
    ((decide (x7 < (x1.len : Int))) = false ->
    C1 x0 x1 x5 (IntKind.wrap .i64 (x6 + 1)) h)
def F.xaa.j6 (Q : Sl -> H -> Prop) (C1 : Sl -> Sl -> Sl -> Int -> H -> Prop) (x0 : Sl) (x5 : Sl) (x8 : Sl) (x9 : Int) (h : H) : Prop :=
  C1 x0 x5 x8 (IntKind.wrap .i64 (x9 + 1)) h
def F.xaa.j7 (Q : Sl -> H -> Prop) (x8 : Sl) (h : H) : Prop :=
  Q x8 h
def F.xaa.j8 (Q : Sl -> H -> Prop) (x8 : Sl) (x91 : Bool) (h : H) : Prop :=
  (x91 = true ->
  Q (⟨none, 0, 0⟩ : Sl) h) ∧
  (x91 = false ->
  F.xaa.j7 Q x8 h)
def F.xaa.l5 (Q : Sl -> H -> Prop) : Nat -> Sl -> Sl -> Sl -> Int -> H -> Prop
  | 0, _, _, _, _, _ => False
  | q5 + 1, x0, x5, x8, x9, h =>
    ((decide (x9 < (x0.len : Int))) = true ->
    idxA x5 x9 1 fun a32 =>
    ldB h a32 fun y34 =>
    (y34 = true ->
    idxA x0 x9 6 fun a37 =>
    ld_S_spateref7_Version h a37 fun y39 =>
    newL h ((y39.cells).toArray) ty_146 1 fun s42 h41 =>
    runL PP (Builtin.append_ #[104, 104] 104 #[x8.enc, s42.enc]) h41 fun s44 h43 =>
    F.xaa.j6 Q (F.xaa.l5 Q q5) x0 x5 s44 x9 h43) ∧
    (y34 = false ->
    F.xaa.j6 Q (F.xaa.l5 Q q5) x0 x5 x8 x9 h)) ∧
    ((decide (x9 < (x0.len : Int))) = false ->
    ((((x8.len : Int) == 1)) = true ->
    idxA x8 0 6 fun a47 =>
    ldB h (a47.add 5) fun y49 =>
    F.xaa.j8 Q x8 y49 h) ∧
    ((((x8.len : Int) == 1)) = false ->
    F.xaa.j8 Q x8 false h))
def F.xaa.l1 (Q : Sl -> H -> Prop) : Nat -> Sl -> Sl -> Sl -> Int -> H -> Prop
  | 0, _, _, _, _, _ => False
  | q1 + 1, x0, x1, x5, x6, h =>
    ((decide (x6 < (x0.len : Int))) = true ->
    idxA x5 x6 1 fun a4 =>
    stH h a4 [(.bool ((x6 == (IntKind.wrap .i64 ((x0.len : Int) - 1)))))] fun h6 =>
    ∃ m, F.xaa.l2 Q (F.xaa.l1 Q q1) m x0 x1 x5 x6 0 h6) ∧
    ((decide (x6 < (x0.len : Int))) = false ->
    ∃ m, F.xaa.l5 Q m x0 x5 (⟨none, 0, 0⟩ : Sl) 0 h)
def F.xaa (p0 : Sl) (p1 : Sl) (h : H) (Q : Sl -> H -> Prop) : Prop :=
  runL PP (Instr.makeSlice 159 (.int .i64 (p0.len : Int)) (.int .i64 (p0.len : Int))) h fun s2 h1 =>
  ∃ m, F.xaa.l1 Q m p0 p1 s2 0 h1
theorem F.xaa_ok {p0 : Sl} {p1 : Sl} {h : H} {Q : Sl -> H -> Prop} (H : F.xaa p0 p1 h Q) : Fn PP 92 ([p0.enc, p1.enc] : List Value).toArray h fun r h' => ∃ r0, r = r0.enc ∧ Q r0 h' := by
 unfold F.xaa at H;refine fn_of Tryz.func92 Tryz.ntmps92 rfl rfl fun w0 => (tr_sub [(0, p0.enc), (1, p1.enc)] ⟨rfl, rfl, trivial⟩ (tr_seq (tr_region (tq (y_assign rfl) (tr_nil (tr_thenN (tr_seq (tr_region (tq (y_move rfl) (tq (y_len (ts := #[]) Tryz.runUnderlying104 (o := p0.ptr) (n := p0.len) (cap := p0.cap) rfl) (tr_e (f_make rfl rfl H) rfl rfl ?_)))))))))));rintro _ h1 ⟨s2, rfl, H⟩;refine tq (y_assign rfl) (tr_nil (tr_thenN (tr_seq (tr_seq (tr_region (tq (y_assign rfl) (tr_nil (tr_thenN (tr_block ?_)))))))));obtain ⟨m52, H⟩ := H;refine tr_sub [(0, p0.enc), (1, p1.enc), (5, s2.enc), (6, (.int .i64 0))] ⟨rfl, rfl, rfl, rfl, trivial⟩ ?_;refine tr_loop_j (fun m L' h => ∃ (x0 : Sl) (x1 : Sl) (x5 : Sl) (x6 : Int), L' = [(0, x0.enc), (1, x1.enc), (5, x5.enc), (6, (.int .i64 x6))] ∧ F.xaa.l1 Q m x0 x1 x5 x6 h) ?_ ?_ m52 ⟨_, _, _, _, rfl, H⟩
 ·rintro L' h ⟨_, _, _, _, _, H⟩; exact H
 ·rintro q1 L' h ⟨x0, x1, x5, x6, rfl, H⟩;unfold F.xaa.l1 at H;refine tr_seq (tr_seq (tr_region (tq (y_move rfl) (tq (y_move rfl) (tq (y_len (ts := #[]) Tryz.runUnderlying104 (o := x0.ptr) (n := x0.len) (cap := x0.cap) rfl) (tq (y_lss rfl rfl) (tr_nil (tr_thenN ?_))))))));refine tr_cond rfl (fun g3 => ?_) (fun g3 => ?_)
  ·replace H := H.1 g3;refine tr_skip (tr_thenN (tr_seq (tr_block (tr_seq (tr_region (tq (y_move rfl) (tq (y_move rfl) (tq (y_move rfl) (tq (y_move rfl) (tq (y_len (ts := #[]) Tryz.runUnderlying104 (o := x0.ptr) (n := x0.len) (cap := x0.cap) rfl) (tq (y_sub rfl rfl) (tq (y_eql rfl rfl) ?_))))))))))));obtain ⟨a4, e5, H⟩ := H;refine tq (f_idx (s := x5) Tryz.runUnderlying159 Tryz.sizeOf4 rfl rfl e5) (tr_e (f_store (vs := [(.bool ((x6 == (IntKind.wrap .i64 ((x0.len : Int) - 1)))))]) Tryz.sizeOf4 rfl rfl rfl rfl (one1 rfl) H) rfl rfl ?_);rintro _ h6 ⟨rfl, H⟩;refine tr_nil (tr_thenN (tr_seq (tr_region (tq (y_assign rfl) (tr_nil (tr_thenN (tr_block ?_)))))));obtain ⟨m30, H⟩ := H;refine tr_sub [(0, x0.enc), (1, x1.enc), (5, x5.enc), (6, (.int .i64 x6)), (7, (.int .i64 0))] ⟨rfl, rfl, rfl, rfl, rfl, trivial⟩ ?_;refine tr_loop_j (fun m L' h => ∃ (x0 : Sl) (x1 : Sl) (x5 : Sl) (x6 : Int) (x7 : Int), L' = [(0, x0.enc), (1, x1.enc), (5, x5.enc), (6, (.int .i64 x6)), (7, (.int .i64 x7))] ∧ F.xaa.l2 Q (F.xaa.l1 Q q1) m x0 x1 x5 x6 x7 h) ?_ ?_ m30 ⟨_, _, _, _, _, rfl, H⟩
   ·rintro L' h ⟨_, _, _, _, _, _, H⟩; exact H
   ·rintro q2 L' h ⟨x0, x1, x5, x6, x7, rfl, H⟩;unfold F.xaa.l2 at H;refine tr_seq (tr_seq (tr_region (tq (y_move rfl) (tq (y_move rfl) (tq (y_len (ts := #[]) Tryz.runUnderlying35 (o := x1.ptr) (n := x1.len) (cap := x1.cap) rfl) (tq (y_lss rfl rfl) (tr_nil (tr_thenN ?_))))))));refine tr_cond rfl (fun g7 => ?_) (fun g7 => ?_)
    ·replace H := H.1 g7;refine tr_skip (tr_thenN ?_);refine tr_seq_j (fun L' h => ∃ (x0 : Sl) (x1 : Sl) (x5 : Sl) (x6 : Int) (x7 : Int), L' = [(0, x0.enc), (1, x1.enc), (5, x5.enc), (6, (.int .i64 x6)), (7, (.int .i64 x7))] ∧ F.xaa.j3 Q (F.xaa.l1 Q q1) (F.xaa.l2 Q (F.xaa.l1 Q q1) q2) x0 x1 x5 x6 x7 h) ?_ ?_
     ·rintro L' h ⟨x0, x1, x5, x6, x7, rfl, H⟩;unfold F.xaa.j3 at H;refine tr_region (tq (y_move rfl) (tq (y_add rfl rfl) (tq (y_assign rfl) (tr_nil (tr_thenN ?_)))));exact tr_join [(0, x0.enc), (1, x1.enc), (5, x5.enc), (6, (.int .i64 x6)), (7, (.int .i64 (IntKind.wrap .i64 (x7 + 1))))] ⟨rfl, rfl, rfl, rfl, rfl, trivial⟩ ⟨_, _, _, _, _, rfl, H⟩
     ·refine tr_block ?_;refine tr_seq_j (fun L' h => ∃ (x0 : Sl) (x1 : Sl) (x5 : Sl) (x6 : Int) (x7 : Int) (x62 : Bool), L' = [(0, x0.enc), (1, x1.enc), (5, x5.enc), (6, (.int .i64 x6)), (7, (.int .i64 x7)), (62, (.bool x62))] ∧ F.xaa.j4 Q (F.xaa.l1 Q q1) (F.xaa.l2 Q (F.xaa.l1 Q q1) q2) x0 x1 x5 x6 x7 x62 h) ?_ ?_
      ·rintro L' h ⟨x0, x1, x5, x6, x7, x62, rfl, H⟩;unfold F.xaa.j4 at H;refine tr_cond rfl (fun g8 => ?_) (fun g8 => ?_)
       ·replace H := H.1 g8;refine tr_region (tq (y_move rfl) (tq (y_move rfl) ?_));obtain ⟨a9, e10, H⟩ := H;refine tq (f_idx (s := x5) Tryz.runUnderlying159 Tryz.sizeOf4 rfl rfl e10) (tr_e (f_store (vs := [(.bool true)]) Tryz.sizeOf4 rfl rfl rfl rfl (one1 rfl) H) rfl rfl ?_);rintro _ h11 ⟨rfl, H⟩;refine tr_nil (tr_blockN (tr_thenN ?_));exact tr_join [(0, x0.enc), (1, x1.enc), (5, x5.enc), (6, (.int .i64 x6)), (7, (.int .i64 x7))] ⟨rfl, rfl, rfl, rfl, rfl, trivial⟩ ⟨_, _, _, _, _, rfl, H⟩
       ·replace H := H.2 g8;refine tr_skip (tr_blockN (tr_thenN ?_));exact tr_join [(0, x0.enc), (1, x1.enc), (5, x5.enc), (6, (.int .i64 x6)), (7, (.int .i64 x7))] ⟨rfl, rfl, rfl, rfl, rfl, trivial⟩ ⟨_, _, _, _, _, rfl, H⟩
      ·refine tr_draw mixed [0, 0, 3, 7, 15, 0, 0, 96, 224, 511, 1023, 2047, 2047, 6143, 14335, 32767, 65535, 131071, 131071, 393215, 1048575, 2097151, 4194303, 131071, 131071, 25296895, 58851327, 134217727, 268435455, 536870911] (by kernel_rfl) (g_p 0 1 rfl (by kernel_rfl) (y_move rfl) rfl rfl (g_p 1 3 rfl (by kernel_rfl) (y_move rfl) rfl rfl ?_));obtain ⟨a12, e13, H⟩ := H;refine g_p 2 7 rfl (by kernel_rfl) (f_idx (s := x0) Tryz.runUnderlying104 Tryz.sizeOf146 rfl rfl e13) rfl rfl (g_p 3 15 rfl (by kernel_rfl) (y_fa (off := 0) Tryz.runUnderlying146 fo_146_0 rfl) rfl rfl ?_);obtain ⟨y14, k15, H⟩ := H;refine g_h 4 31 rfl (by kernel_rfl) (y_ld Tryz.isAgg3 rfl) k15 rfl rfl (g_p 5 63 rfl (by kernel_rfl) (y_move rfl) rfl rfl (g_p 6 127 rfl (by kernel_rfl) (y_move rfl) rfl rfl ?_));obtain ⟨a16, e17, H⟩ := H;refine g_p 7 255 rfl (by kernel_rfl) (f_idx (s := x1) Tryz.runUnderlying35 Tryz.sizeOf3 rfl rfl e17) rfl rfl ?_;obtain ⟨y18, k19, H⟩ := H;refine g_h 8 511 rfl (by kernel_rfl) (y_ld Tryz.isAgg3 rfl) k19 rfl rfl (g_p 9 1023 rfl (by kernel_rfl) (y_leq rfl rfl) rfl rfl (g_p 10 2047 rfl (by kernel_rfl) (y_move rfl) rfl rfl ?_));refine g_split (t := 43) rfl (fun g20 => ?_) (fun g20 => ?_)
       ·replace H := H.1 g20;refine g_p 11 4095 rfl (by kernel_rfl) (y_move rfl) rfl rfl (g_p 12 8191 rfl (by kernel_rfl) (y_move rfl) rfl rfl (g_p 13 16383 rfl (by kernel_rfl) (y_len (ts := #[]) Tryz.runUnderlying104 (o := x0.ptr) (n := x0.len) (cap := x0.cap) rfl) rfl rfl (g_p 14 32767 rfl (by kernel_rfl) (y_sub rfl rfl) rfl rfl (g_p 15 65535 rfl (by kernel_rfl) (y_eql rfl rfl) rfl rfl (g_p 16 131071 rfl (by kernel_rfl) (y_move rfl) rfl rfl ?_)))));refine g_split (t := 49) rfl (fun g21 => ?_) (fun g21 => ?_)
        ·replace H := H.1 g21;refine g_s 17 262143 rfl (by kernel_rfl) rfl rfl (g_s 18 524287 rfl (by kernel_rfl) rfl rfl (g_s 19 1048575 rfl (by kernel_rfl) rfl rfl (g_s 20 2097151 rfl (by kernel_rfl) rfl rfl (g_s 21 4194303 rfl (by kernel_rfl) rfl rfl (g_s 22 8388607 rfl (by kernel_rfl) rfl rfl (g_s 23 16777215 rfl (by kernel_rfl) rfl rfl (g_s 24 33554431 rfl (by kernel_rfl) rfl rfl (g_s 25 67108863 rfl (by kernel_rfl) rfl rfl (g_s 26 134217727 rfl (by kernel_rfl) rfl rfl (g_s 27 268435455 rfl (by kernel_rfl) rfl rfl (g_p 28 536870911 rfl (by kernel_rfl) (y_pick_t rfl rfl) rfl rfl (g_p 29 1073741823 rfl (by kernel_rfl) (y_pick_t rfl rfl) rfl rfl (g_d (by kernel_rfl) ?_)))))))))))));refine tr_thenN ?_;exact tr_join [(0, x0.enc), (1, x1.enc), (5, x5.enc), (6, (.int .i64 x6)), (7, (.int .i64 x7)), (62, (.bool true))] ⟨rfl, rfl, rfl, rfl, rfl, rfl, trivial⟩ ⟨_, _, _, _, _, _, rfl, H⟩
        ·replace H := H.2 g21;refine g_p 17 262143 rfl (by kernel_rfl) (y_move rfl) rfl rfl (g_p 18 524287 rfl (by kernel_rfl) (y_move rfl) rfl rfl (g_p 19 1048575 rfl (by kernel_rfl) (y_add rfl rfl) rfl rfl ?_));obtain ⟨a22, e23, H⟩ := H;refine g_p 20 2097151 rfl (by kernel_rfl) (f_idx (s := x0) Tryz.runUnderlying104 Tryz.sizeOf146 rfl rfl e23) rfl rfl (g_p 21 4194303 rfl (by kernel_rfl) (y_fa (off := 0) Tryz.runUnderlying146 fo_146_0 rfl) rfl rfl ?_);obtain ⟨y24, k25, H⟩ := H;refine g_h 22 8388607 rfl (by kernel_rfl) (y_ld Tryz.isAgg3 rfl) k25 rfl rfl (g_p 23 16777215 rfl (by kernel_rfl) (y_move rfl) rfl rfl (g_p 24 33554431 rfl (by kernel_rfl) (y_move rfl) rfl rfl ?_));obtain ⟨a26, e27, H⟩ := H;refine g_p 25 67108863 rfl (by kernel_rfl) (f_idx (s := x1) Tryz.runUnderlying35 Tryz.sizeOf3 rfl rfl e27) rfl rfl ?_;obtain ⟨y28, k29, H⟩ := H;refine g_h 26 134217727 rfl (by kernel_rfl) (y_ld Tryz.isAgg3 rfl) k29 rfl rfl (g_p 27 268435455 rfl (by kernel_rfl) (y_gtr rfl rfl) rfl rfl (g_p 28 536870911 rfl (by kernel_rfl) (y_pick_f rfl rfl) rfl rfl (g_p 29 1073741823 rfl (by kernel_rfl) (y_pick_t rfl rfl) rfl rfl (g_d (by kernel_rfl) (tr_thenN ?_)))));exact tr_join [(0, x0.enc), (1, x1.enc), (5, x5.enc), (6, (.int .i64 x6)), (7, (.int .i64 x7)), (62, (.bool (decide (y24 > y28))))] ⟨rfl, rfl, rfl, rfl, rfl, rfl, trivial⟩ ⟨_, _, _, _, _, _, rfl, H⟩
       ·replace H := H.2 g20;refine g_s 11 4095 rfl (by kernel_rfl) rfl rfl (g_s 12 8191 rfl (by kernel_rfl) rfl rfl (g_s 13 16383 rfl (by kernel_rfl) rfl rfl (g_s 14 32767 rfl (by kernel_rfl) rfl rfl (g_s 15 65535 rfl (by kernel_rfl) rfl rfl (g_s 16 131071 rfl (by kernel_rfl) rfl rfl (g_s 17 262143 rfl (by kernel_rfl) rfl rfl (g_s 18 524287 rfl (by kernel_rfl) rfl rfl (g_s 19 1048575 rfl (by kernel_rfl) rfl rfl (g_s 20 2097151 rfl (by kernel_rfl) rfl rfl (g_s 21 4194303 rfl (by kernel_rfl) rfl rfl (g_s 22 8388607 rfl (by kernel_rfl) rfl rfl (g_s 23 16777215 rfl (by kernel_rfl) rfl rfl (g_s 24 33554431 rfl (by kernel_rfl) rfl rfl ?_)))))))))))));refine g_s 25 67108863 rfl (by kernel_rfl) rfl rfl (g_s 26 134217727 rfl (by kernel_rfl) rfl rfl (g_s 27 268435455 rfl (by kernel_rfl) rfl rfl (g_s 28 536870911 rfl (by kernel_rfl) rfl rfl (g_p 29 1073741823 rfl (by kernel_rfl) (y_pick_f rfl rfl) rfl rfl (g_d (by kernel_rfl) (tr_thenN ?_))))));exact tr_join [(0, x0.enc), (1, x1.enc), (5, x5.enc), (6, (.int .i64 x6)), (7, (.int .i64 x7)), (62, (.bool false))] ⟨rfl, rfl, rfl, rfl, rfl, rfl, trivial⟩ ⟨_, _, _, _, _, _, rfl, H⟩
    ·replace H := H.2 g7;refine tr_exit (tr_thenE (tr_thenE (tr_hit (tr_blockN (tr_thenN (tr_region (tq (y_move rfl) (tq (y_add rfl rfl) (tq (y_assign rfl) (tr_nil (tr_thenN ?_)))))))))));exact tr_join [(0, x0.enc), (1, x1.enc), (5, x5.enc), (6, (.int .i64 (IntKind.wrap .i64 (x6 + 1))))] ⟨rfl, rfl, rfl, rfl, trivial⟩ ⟨_, _, _, _, rfl, H⟩
  ·replace H := H.2 g3;refine tr_exit (tr_thenE (tr_thenE (tr_hit (tr_thenN (tr_seq (tr_region (tq (y_assign rfl) (tr_nil (tr_thenN (tr_seq (tr_seq (tr_region (tq (y_assign rfl) ?_)))))))))))));refine tr_nil (tr_thenN (tr_block ?_));obtain ⟨m51, H⟩ := H;refine tr_sub [(0, x0.enc), (5, x5.enc), (8, (⟨none, 0, 0⟩ : Sl).enc), (9, (.int .i64 0))] ⟨rfl, rfl, rfl, rfl, trivial⟩ ?_;refine tr_loop_j (fun m L' h => ∃ (x0 : Sl) (x5 : Sl) (x8 : Sl) (x9 : Int), L' = [(0, x0.enc), (5, x5.enc), (8, x8.enc), (9, (.int .i64 x9))] ∧ F.xaa.l5 Q m x0 x5 x8 x9 h) ?_ ?_ m51 ⟨_, _, _, _, rfl, H⟩
   ·rintro L' h ⟨_, _, _, _, _, H⟩; exact H
   ·rintro q5 L' h ⟨x0, x5, x8, x9, rfl, H⟩;unfold F.xaa.l5 at H;refine tr_seq (tr_seq (tr_region (tq (y_move rfl) (tq (y_move rfl) (tq (y_len (ts := #[]) Tryz.runUnderlying104 (o := x0.ptr) (n := x0.len) (cap := x0.cap) rfl) (tq (y_lss rfl rfl) (tr_nil (tr_thenN ?_))))))));refine tr_cond rfl (fun g31 => ?_) (fun g31 => ?_)
    ·replace H := H.1 g31;refine tr_skip (tr_thenN ?_);refine tr_seq_j (fun L' h => ∃ (x0 : Sl) (x5 : Sl) (x8 : Sl) (x9 : Int), L' = [(0, x0.enc), (5, x5.enc), (8, x8.enc), (9, (.int .i64 x9))] ∧ F.xaa.j6 Q (F.xaa.l5 Q q5) x0 x5 x8 x9 h) ?_ ?_
     ·rintro L' h ⟨x0, x5, x8, x9, rfl, H⟩;unfold F.xaa.j6 at H;refine tr_region (tq (y_move rfl) (tq (y_add rfl rfl) (tq (y_assign rfl) (tr_nil (tr_thenN ?_)))));exact tr_join [(0, x0.enc), (5, x5.enc), (8, x8.enc), (9, (.int .i64 (IntKind.wrap .i64 (x9 + 1))))] ⟨rfl, rfl, rfl, rfl, trivial⟩ ⟨_, _, _, _, rfl, H⟩
     ·refine tr_block (tr_seq (tr_region (tq (y_move rfl) (tq (y_move rfl) ?_))));obtain ⟨a32, e33, H⟩ := H;refine tq (f_idx (s := x5) Tryz.runUnderlying159 Tryz.sizeOf4 rfl rfl e33) ?_;obtain ⟨y34, k35, H⟩ := H;refine tr_h (y_ld Tryz.isAgg4 rfl) k35 rfl rfl (tr_nil (tr_thenN ?_));refine tr_cond rfl (fun g36 => ?_) (fun g36 => ?_)
      ·replace H := H.1 g36;refine tr_region (tq (y_move rfl) (tq (y_move rfl) (tq (y_move rfl) ?_)));obtain ⟨a37, e38, H⟩ := H;refine tq (f_idx (s := x0) Tryz.runUnderlying104 Tryz.sizeOf146 rfl rfl e38) ?_;obtain ⟨y39, k40, H⟩ := H;refine tr_h (y_ldS Tryz.isAgg146 Tryz.sizeOf146 rfl rfl) k40 rfl rfl (tr_e (f_buildL (cs := (y39.cells).toArray) rfl rfl (bl_104_1_0 y39) H) rfl rfl ?_);rintro _ h41 ⟨s42, rfl, H⟩;refine tr_e (f_app rfl H) rfl rfl ?_;rintro _ h43 ⟨s44, rfl, H⟩;refine tq (y_assign rfl) (tr_nil (tr_blockN (tr_thenN ?_)));exact tr_join [(0, x0.enc), (5, x5.enc), (8, s44.enc), (9, (.int .i64 x9))] ⟨rfl, rfl, rfl, rfl, trivial⟩ ⟨_, _, _, _, rfl, H⟩
      ·replace H := H.2 g36;refine tr_skip (tr_blockN (tr_thenN ?_));exact tr_join [(0, x0.enc), (5, x5.enc), (8, x8.enc), (9, (.int .i64 x9))] ⟨rfl, rfl, rfl, rfl, trivial⟩ ⟨_, _, _, _, rfl, H⟩
    ·replace H := H.2 g31;refine tr_exit (tr_thenE (tr_thenE (tr_hit (tr_thenN ?_))));refine tr_seq_j (fun L' h => ∃ (x8 : Sl), L' = [(8, x8.enc)] ∧ F.xaa.j7 Q x8 h) ?_ ?_
     ·rintro L' h ⟨x8, rfl, H⟩;unfold F.xaa.j7 at H;refine tr_seq (tr_region (tq (y_move rfl) (tq (y_assign rfl) (tr_nil (tr_thenN (tr_ret ?_))))));exact tr_ret1 rfl rfl ⟨_, rfl, H⟩
     ·refine tr_seq_j (fun L' h => ∃ (x8 : Sl) (x91 : Bool), L' = [(8, x8.enc), (91, (.bool x91))] ∧ F.xaa.j8 Q x8 x91 h) ?_ ?_
      ·rintro L' h ⟨x8, x91, rfl, H⟩;unfold F.xaa.j8 at H;refine tr_cond rfl (fun g45 => ?_) (fun g45 => ?_)
       ·replace H := H.1 g45;refine tr_seq (tr_region (tq (y_assign rfl) (tr_nil (tr_thenN (tr_ret (tr_thenR ?_))))));exact tr_ret1 rfl rfl ⟨_, rfl, H⟩
       ·replace H := H.2 g45;refine tr_skip (tr_thenN ?_);exact tr_join [(8, x8.enc)] ⟨rfl, trivial⟩ ⟨_, rfl, H⟩
      ·refine tr_region (tq (y_move rfl) (tq (y_len (ts := #[]) Tryz.runUnderlying104 (o := x8.ptr) (n := x8.len) (cap := x8.cap) rfl) (tq (y_eql rfl rfl) (tq (y_move rfl) ?_))));refine tr_split (t := 86) rfl (fun g46 => ?_) (fun g46 => ?_)
       ·replace H := H.1 g46;refine tq (y_move rfl) ?_;obtain ⟨a47, e48, H⟩ := H;refine tq (f_idx (s := x8) Tryz.runUnderlying104 Tryz.sizeOf146 rfl rfl e48) (tq (y_fa (off := 5) Tryz.runUnderlying146 fo_146_2 rfl) ?_);obtain ⟨y49, k50, H⟩ := H;refine tr_h (y_ld Tryz.isAgg4 rfl) k50 rfl rfl (tq (y_pick_t rfl rfl) (tr_nil (tr_thenN ?_)));exact tr_join [(8, x8.enc), (91, (.bool y49))] ⟨rfl, rfl, trivial⟩ ⟨_, _, rfl, H⟩
       ·replace H := H.2 g46;refine ts (ts (ts (ts (tq (y_pick_f rfl rfl) (tr_nil (tr_thenN ?_))))));exact tr_join [(8, x8.enc), (91, (.bool false))] ⟨rfl, rfl, trivial⟩ ⟨_, _, rfl, H⟩
def F.xba.j2 (Q : Int -> H -> Prop) (C1 : (Option Addr) -> Sl -> Int -> Sl -> Int -> H -> Prop) (x0 : Option Addr) (x1 : Sl) (x5 : Int) (x6 : Sl) (x7 : Int) (h : H) : Prop :=
  C1 x0 x1 x5 x6 (IntKind.wrap .i64 (x7 + 1)) h
def F.xba.l1 (Q : Int -> H -> Prop) : Nat -> (Option Addr) -> Sl -> Int -> Sl -> Int -> H -> Prop
  | 0, _, _, _, _, _, _ => False
  | q1 + 1, x0, x1, x5, x6, x7, h =>
    nn x0 fun a3 =>
    ldL h (a3.add 1) fun y5 =>
    ((decide (x7 < (y5.len : Int))) = true ->
    nn x0 fun a8 =>
    ldL h (a8.add 1) fun y10 =>
    idxA y10 x7 4 fun a12 =>
    ldL h (a12.add 3) fun y14 =>
    F.xaa y14 x1 h fun r17 h16 =>
    ((decide ((r17.len : Int) > 0)) = true ->
    nn x0 fun a19 =>
    ldL h16 (a19.add 1) fun y21 =>
    idxA y21 x7 4 fun a23 =>
    ld_S_api_Cell h16 (a23.add 0) fun y25 =>
    newL h16 (((⟨y25, r17⟩ : S_spateref7_Held).cells).toArray) ty_106 1 fun s28 h27 =>
    runL PP (Builtin.append_ #[89, 89] 89 #[x6.enc, s28.enc]) h27 fun s30 h29 =>
    F.xba.j2 Q (F.xba.l1 Q q1) x0 x1 x5 s30 x7 h29) ∧
    ((decide ((r17.len : Int) > 0)) = false ->
    F.xba.j2 Q (F.xba.l1 Q q1) x0 x1 x5 x6 x7 h16)) ∧
    ((decide (x7 < (y5.len : Int))) = false ->
    nn x0 fun a31 =>
    stH h (a31.add 1) [x6.enc] fun h33 =>
    F.xbm x0 h33 fun r35 h34 =>
    Q (IntKind.wrap .i64 (x5 - r35)) h34)
def F.xba (p0 : Option Addr) (p1 : Sl) (h : H) (Q : Int -> H -> Prop) : Prop :=
  F.xbm p0 h fun r2 h1 =>
  ∃ m, F.xba.l1 Q m p0 p1 r2 (⟨none, 0, 0⟩ : Sl) 0 h1
theorem F.xba_ok {p0 : Option Addr} {p1 : Sl} {h : H} {Q : Int -> H -> Prop} (H : F.xba p0 p1 h Q) : Fn PP 49 ([(.pointer p0), p1.enc] : List Value).toArray h fun r h' => ∃ r0, r = (.int .i64 r0) ∧ Q r0 h' := by
 unfold F.xba at H;refine fn_of Tryz.func49 Tryz.ntmps49 rfl rfl fun w0 => (tr_sub [(0, (.pointer p0)), (1, p1.enc)] ⟨rfl, rfl, trivial⟩ (tr_seq (tr_region (tq (y_assign rfl) (tr_nil (tr_thenN (tr_seq (tr_region (tq (y_move rfl) (tr_e (e_call Tryz.call55 rfl (F.xbm_ok H)) rfl rfl ?_))))))))));rintro _ h1 ⟨r2, rfl, H⟩;refine tq (y_assign rfl) (tr_nil (tr_thenN (tr_seq (tr_region (tq (y_assign rfl) (tr_nil (tr_thenN (tr_seq (tr_seq (tr_region (tq (y_assign rfl) (tr_nil (tr_thenN ?_)))))))))))));refine tr_block ?_;obtain ⟨m36, H⟩ := H;refine tr_sub [(0, (.pointer p0)), (1, p1.enc), (5, (.int .i64 r2)), (6, (⟨none, 0, 0⟩ : Sl).enc), (7, (.int .i64 0))] ⟨rfl, rfl, rfl, rfl, rfl, trivial⟩ ?_;refine tr_loop_j (fun m L' h => ∃ (x0 : Option Addr) (x1 : Sl) (x5 : Int) (x6 : Sl) (x7 : Int), L' = [(0, (.pointer x0)), (1, x1.enc), (5, (.int .i64 x5)), (6, x6.enc), (7, (.int .i64 x7))] ∧ F.xba.l1 Q m x0 x1 x5 x6 x7 h) ?_ ?_ m36 ⟨_, _, _, _, _, rfl, H⟩
 ·rintro L' h ⟨_, _, _, _, _, _, H⟩; exact H
 ·rintro q1 L' h ⟨x0, x1, x5, x6, x7, rfl, H⟩;unfold F.xba.l1 at H;refine tr_seq (tr_seq (tr_region (tq (y_move rfl) (tq (y_move rfl) ?_))));obtain ⟨a3, e4, H⟩ := H;refine tq (f_nn rfl e4) (tq (y_fa (off := 1) Tryz.runUnderlying91 fo_91_1 rfl) ?_);obtain ⟨y5, k6, H⟩ := H;refine tr_h (y_ld Tryz.isAgg89 rfl) k6 rfl rfl (tq (y_len (ts := #[]) Tryz.runUnderlying89 (o := y5.ptr) (n := y5.len) (cap := y5.cap) rfl) (tq (y_lss rfl rfl) (tr_nil (tr_thenN ?_))));refine tr_cond rfl (fun g7 => ?_) (fun g7 => ?_)
  ·replace H := H.1 g7;refine tr_skip (tr_thenN ?_);refine tr_seq_j (fun L' h => ∃ (x0 : Option Addr) (x1 : Sl) (x5 : Int) (x6 : Sl) (x7 : Int), L' = [(0, (.pointer x0)), (1, x1.enc), (5, (.int .i64 x5)), (6, x6.enc), (7, (.int .i64 x7))] ∧ F.xba.j2 Q (F.xba.l1 Q q1) x0 x1 x5 x6 x7 h) ?_ ?_
   ·rintro L' h ⟨x0, x1, x5, x6, x7, rfl, H⟩;unfold F.xba.j2 at H;refine tr_region (tq (y_move rfl) (tq (y_add rfl rfl) (tq (y_assign rfl) (tr_nil (tr_thenN ?_)))));exact tr_join [(0, (.pointer x0)), (1, x1.enc), (5, (.int .i64 x5)), (6, x6.enc), (7, (.int .i64 (IntKind.wrap .i64 (x7 + 1))))] ⟨rfl, rfl, rfl, rfl, rfl, trivial⟩ ⟨_, _, _, _, _, rfl, H⟩
   ·refine tr_block (tr_seq (tr_region (tq (y_move rfl) ?_)));obtain ⟨a8, e9, H⟩ := H;refine tq (f_nn rfl e9) (tq (y_fa (off := 1) Tryz.runUnderlying91 fo_91_1 rfl) ?_);obtain ⟨y10, k11, H⟩ := H;refine tr_h (y_ld Tryz.isAgg89 rfl) k11 rfl rfl (tq (y_move rfl) ?_);obtain ⟨a12, e13, H⟩ := H;refine tq (f_idx (s := y10) Tryz.runUnderlying89 Tryz.sizeOf106 rfl rfl e13) (tq (y_fa (off := 3) Tryz.runUnderlying106 fo_106_1 rfl) ?_);obtain ⟨y14, k15, H⟩ := H;refine tr_h (y_ld Tryz.isAgg104 rfl) k15 rfl rfl (tq (y_move rfl) (tr_e (e_call Tryz.call92 rfl (F.xaa_ok H)) rfl rfl ?_));rintro _ h16 ⟨r17, rfl, H⟩;refine tq (y_assign rfl) (tr_nil (tr_thenN (tr_seq (tr_region (tq (y_move rfl) (tq (y_len (ts := #[]) Tryz.runUnderlying104 (o := r17.ptr) (n := r17.len) (cap := r17.cap) rfl) (tq (y_gtr rfl rfl) (tr_nil (tr_thenN ?_)))))))));refine tr_cond rfl (fun g18 => ?_) (fun g18 => ?_)
    ·replace H := H.1 g18;refine tr_region (tq (y_move rfl) (tq (y_move rfl) ?_));obtain ⟨a19, e20, H⟩ := H;refine tq (f_nn rfl e20) (tq (y_fa (off := 1) Tryz.runUnderlying91 fo_91_1 rfl) ?_);obtain ⟨y21, k22, H⟩ := H;refine tr_h (y_ld Tryz.isAgg89 rfl) k22 rfl rfl (tq (y_move rfl) ?_);obtain ⟨a23, e24, H⟩ := H;refine tq (f_idx (s := y21) Tryz.runUnderlying89 Tryz.sizeOf106 rfl rfl e24) (tq (y_fa (off := 0) Tryz.runUnderlying106 fo_106_0 rfl) ?_);obtain ⟨y25, k26, H⟩ := H;refine tr_h (y_ldS Tryz.isAgg32 Tryz.sizeOf32 rfl rfl) k26 rfl rfl (tq (y_move rfl) (tq (f_build rfl (bd_106_0_1 y25 r17)) (tr_e (f_buildL (cs := ((⟨y25, r17⟩ : S_spateref7_Held).cells).toArray) rfl rfl (bl_89_1_0 (⟨y25, r17⟩ : S_spateref7_Held)) H) rfl rfl ?_)));rintro _ h27 ⟨s28, rfl, H⟩;refine tr_e (f_app rfl H) rfl rfl ?_;rintro _ h29 ⟨s30, rfl, H⟩;refine tq (y_assign rfl) (tr_nil (tr_blockN (tr_thenN ?_)));exact tr_join [(0, (.pointer x0)), (1, x1.enc), (5, (.int .i64 x5)), (6, s30.enc), (7, (.int .i64 x7))] ⟨rfl, rfl, rfl, rfl, rfl, trivial⟩ ⟨_, _, _, _, _, rfl, H⟩
    ·replace H := H.2 g18;refine tr_skip (tr_blockN (tr_thenN ?_));exact tr_join [(0, (.pointer x0)), (1, x1.enc), (5, (.int .i64 x5)), (6, x6.enc), (7, (.int .i64 x7))] ⟨rfl, rfl, rfl, rfl, rfl, trivial⟩ ⟨_, _, _, _, _, rfl, H⟩
  ·replace H := H.2 g7;refine tr_exit (tr_thenE (tr_thenE (tr_hit (tr_thenN (tr_seq (tr_region (tq (y_move rfl) (tq (y_move rfl) ?_))))))));obtain ⟨a31, e32, H⟩ := H;refine tq (f_nn rfl e32) (tq (y_fa (off := 1) Tryz.runUnderlying91 fo_91_1 rfl) (tr_e (f_store (vs := [x6.enc]) Tryz.sizeOf89 rfl rfl rfl rfl (one1 rfl) H) rfl rfl ?_));rintro _ h33 ⟨rfl, H⟩;refine tr_nil (tr_thenN (tr_seq (tr_region (tq (y_move rfl) (tq (y_move rfl) (tr_e (e_call Tryz.call55 rfl (F.xbm_ok H)) rfl rfl ?_))))));rintro _ h34 ⟨r35, rfl, H⟩;refine tq (y_sub rfl rfl) (tq (y_assign rfl) (tr_nil (tr_thenN (tr_ret ?_))));exact tr_ret1 rfl rfl ⟨_, rfl, H⟩
def F.xax.j2 (Q : Bool -> H -> Prop) (C1 : Sl -> Sl -> Bool -> Int -> H -> Prop) (x0 : Sl) (x1 : Sl) (x6 : Bool) (x7 : Int) (h : H) : Prop :=
  C1 x0 x1 x6 (IntKind.wrap .i64 (x7 + 1)) h
def F.xax.j3 (Q : Bool -> H -> Prop) (C1 : Sl -> Sl -> Bool -> Int -> H -> Prop) (x0 : Sl) (x1 : Sl) (x6 : Bool) (x7 : Int) (h : H) : Prop :=
  idxA x0 x7 1 fun a8 =>
  stH h a8 [(.int .i64 31)] fun h10 =>
  F.xax.j2 Q C1 x0 x1 x6 x7 h10
def F.xax.l1 (Q : Bool -> H -> Prop) : Nat -> Sl -> Sl -> Bool -> Int -> H -> Prop
  | 0, _, _, _, _, _ => False
  | q1 + 1, x0, x1, x6, x7, h =>
    ((decide (x7 < (x1.len : Int))) = true ->
    (x6 = true ->
    idxA x0 x7 1 fun a12 =>
    ldI .i64 h a12 fun y14 =>
    idxA x1 x7 1 fun a16 =>
    ldI .i64 h a16 fun y18 =>
    F.xax.j3 Q (F.xax.l1 Q q1) x0 x1 ((y14 == y18)) x7 h) ∧
    (x6 = false ->
    F.xax.j3 Q (F.xax.l1 Q q1) x0 x1 false x7 h)) ∧
    ((decide (x7 < (x1.len : Int))) = false ->
    Q x6 h)
def F.xax (p0 : Sl) (p1 : Sl) (h : H) (Q : Bool -> H -> Prop) : Prop :=
  cutL p0 0 (IntKind.wrap .i64 ((p1.len : Int) + 1)) 1 fun s2 =>
  idxA s2 (p1.len : Int) 1 fun a3 =>
  ldI .i64 h a3 fun y5 =>
  ∃ m, F.xax.l1 Q m p0 p1 ((y5 == (-77))) 0 h
theorem F.xax_ok {p0 : Sl} {p1 : Sl} {h : H} {Q : Bool -> H -> Prop} (H : F.xax p0 p1 h Q) : Fn PP 50 ([p0.enc, p1.enc] : List Value).toArray h fun r h' => ∃ r0, r = (.bool r0) ∧ Q r0 h' := by
 unfold F.xax at H;refine fn_of Tryz.func50 Tryz.ntmps50 rfl rfl fun w0 => (tr_sub [(0, p0.enc), (1, p1.enc)] ⟨rfl, rfl, trivial⟩ (tr_seq (tr_region (tq (y_assign rfl) (tr_nil (tr_thenN (tr_seq (tr_region (tq (y_move rfl) (tq (y_move rfl) (tq (y_len (ts := #[]) Tryz.runUnderlying35 (o := p1.ptr) (n := p1.len) (cap := p1.cap) rfl) (tq (y_add rfl rfl) ?_))))))))))));obtain ⟨s2, e1, H⟩ := H;refine tq (f_cutL (s := p0) none (some (.i64, (IntKind.wrap .i64 ((p1.len : Int) + 1)))) Tryz.runUnderlying35 Tryz.sizeOf3 rfl rfl rfl e1) (tq (y_assign rfl) (tr_nil (tr_thenN (tr_seq (tr_region (tq (y_move rfl) (tq (y_move rfl) (tq (y_len (ts := #[]) Tryz.runUnderlying35 (o := p1.ptr) (n := p1.len) (cap := p1.cap) rfl) ?_))))))));obtain ⟨a3, e4, H⟩ := H;refine tq (f_idx (s := s2) Tryz.runUnderlying35 Tryz.sizeOf3 rfl rfl e4) ?_;obtain ⟨y5, k6, H⟩ := H;refine tr_h (y_ld Tryz.isAgg3 rfl) k6 rfl rfl (tq (y_eql rfl rfl) (tq (y_assign rfl) (tr_nil (tr_thenN (tr_seq (tr_seq (tr_region (tq (y_assign rfl) (tr_nil (tr_thenN (tr_block ?_)))))))))));obtain ⟨m20, H⟩ := H;refine tr_sub [(0, p0.enc), (1, p1.enc), (6, (.bool ((y5 == (-77))))), (7, (.int .i64 0))] ⟨rfl, rfl, rfl, rfl, trivial⟩ ?_;refine tr_loop_j (fun m L' h => ∃ (x0 : Sl) (x1 : Sl) (x6 : Bool) (x7 : Int), L' = [(0, x0.enc), (1, x1.enc), (6, (.bool x6)), (7, (.int .i64 x7))] ∧ F.xax.l1 Q m x0 x1 x6 x7 h) ?_ ?_ m20 ⟨_, _, _, _, rfl, H⟩
 ·rintro L' h ⟨_, _, _, _, _, H⟩; exact H
 ·rintro q1 L' h ⟨x0, x1, x6, x7, rfl, H⟩;unfold F.xax.l1 at H;refine tr_seq (tr_seq (tr_region (tq (y_move rfl) (tq (y_move rfl) (tq (y_len (ts := #[]) Tryz.runUnderlying35 (o := x1.ptr) (n := x1.len) (cap := x1.cap) rfl) (tq (y_lss rfl rfl) (tr_nil (tr_thenN ?_))))))));refine tr_cond rfl (fun g7 => ?_) (fun g7 => ?_)
  ·replace H := H.1 g7;refine tr_skip (tr_thenN ?_);refine tr_seq_j (fun L' h => ∃ (x0 : Sl) (x1 : Sl) (x6 : Bool) (x7 : Int), L' = [(0, x0.enc), (1, x1.enc), (6, (.bool x6)), (7, (.int .i64 x7))] ∧ F.xax.j2 Q (F.xax.l1 Q q1) x0 x1 x6 x7 h) ?_ ?_
   ·rintro L' h ⟨x0, x1, x6, x7, rfl, H⟩;unfold F.xax.j2 at H;refine tr_region (tq (y_move rfl) (tq (y_add rfl rfl) (tq (y_assign rfl) (tr_nil (tr_thenN ?_)))));exact tr_join [(0, x0.enc), (1, x1.enc), (6, (.bool x6)), (7, (.int .i64 (IntKind.wrap .i64 (x7 + 1))))] ⟨rfl, rfl, rfl, rfl, trivial⟩ ⟨_, _, _, _, rfl, H⟩
   ·refine tr_block ?_;refine tr_seq_j (fun L' h => ∃ (x0 : Sl) (x1 : Sl) (x6 : Bool) (x7 : Int), L' = [(0, x0.enc), (1, x1.enc), (6, (.bool x6)), (7, (.int .i64 x7))] ∧ F.xax.j3 Q (F.xax.l1 Q q1) x0 x1 x6 x7 h) ?_ ?_
    ·rintro L' h ⟨x0, x1, x6, x7, rfl, H⟩;unfold F.xax.j3 at H;refine tr_region (tq (y_move rfl) (tq (y_move rfl) ?_));obtain ⟨a8, e9, H⟩ := H;refine tq (f_idx (s := x0) Tryz.runUnderlying35 Tryz.sizeOf3 rfl rfl e9) (tr_e (f_store (vs := [(.int .i64 31)]) Tryz.sizeOf3 rfl rfl rfl rfl (one1 rfl) H) rfl rfl ?_);rintro _ h10 ⟨rfl, H⟩;refine tr_nil (tr_blockN (tr_thenN ?_));exact tr_join [(0, x0.enc), (1, x1.enc), (6, (.bool x6)), (7, (.int .i64 x7))] ⟨rfl, rfl, rfl, rfl, trivial⟩ ⟨_, _, _, _, rfl, H⟩
    ·refine tr_draw mixed [0, 1, 3, 3, 15, 31, 3, 3, 195, 451, 1023, 2047, 4095] (by kernel_rfl) (g_p 0 1 rfl (by kernel_rfl) (y_move rfl) rfl rfl (g_p 1 3 rfl (by kernel_rfl) (y_move rfl) rfl rfl ?_));refine g_split (t := 26) rfl (fun g11 => ?_) (fun g11 => ?_)
     ·replace H := H.1 g11;refine g_p 2 7 rfl (by kernel_rfl) (y_move rfl) rfl rfl (g_p 3 15 rfl (by kernel_rfl) (y_move rfl) rfl rfl ?_);obtain ⟨a12, e13, H⟩ := H;refine g_p 4 31 rfl (by kernel_rfl) (f_idx (s := x0) Tryz.runUnderlying35 Tryz.sizeOf3 rfl rfl e13) rfl rfl ?_;obtain ⟨y14, k15, H⟩ := H;refine g_h 5 63 rfl (by kernel_rfl) (y_ld Tryz.isAgg3 rfl) k15 rfl rfl (g_p 6 127 rfl (by kernel_rfl) (y_move rfl) rfl rfl (g_p 7 255 rfl (by kernel_rfl) (y_move rfl) rfl rfl ?_));obtain ⟨a16, e17, H⟩ := H;refine g_p 8 511 rfl (by kernel_rfl) (f_idx (s := x1) Tryz.runUnderlying35 Tryz.sizeOf3 rfl rfl e17) rfl rfl ?_;obtain ⟨y18, k19, H⟩ := H;refine g_h 9 1023 rfl (by kernel_rfl) (y_ld Tryz.isAgg3 rfl) k19 rfl rfl (g_p 10 2047 rfl (by kernel_rfl) (y_eql rfl rfl) rfl rfl (g_p 11 4095 rfl (by kernel_rfl) (y_pick_t rfl rfl) rfl rfl (g_e 12 8191 [] (by kernel_rfl) rfl (by kernel_rfl) (yp_ev (y_assign rfl)) rfl rfl ?_)));rintro _ _ ⟨rfl, rfl⟩;refine ⟨trivial, ?_⟩;refine g_d (by kernel_rfl) (tr_thenN ?_);exact tr_join [(0, x0.enc), (1, x1.enc), (6, (.bool ((y14 == y18)))), (7, (.int .i64 x7))] ⟨rfl, rfl, rfl, rfl, trivial⟩ ⟨_, _, _, _, rfl, H⟩
     ·replace H := H.2 g11;refine g_s 2 7 rfl (by kernel_rfl) rfl rfl (g_s 3 15 rfl (by kernel_rfl) rfl rfl (g_s 4 31 rfl (by kernel_rfl) rfl rfl (g_s 5 63 rfl (by kernel_rfl) rfl rfl (g_s 6 127 rfl (by kernel_rfl) rfl rfl (g_s 7 255 rfl (by kernel_rfl) rfl rfl (g_s 8 511 rfl (by kernel_rfl) rfl rfl (g_s 9 1023 rfl (by kernel_rfl) rfl rfl (g_s 10 2047 rfl (by kernel_rfl) rfl rfl (g_p 11 4095 rfl (by kernel_rfl) (y_pick_f rfl rfl) rfl rfl (g_e 12 8191 [] (by kernel_rfl) rfl (by kernel_rfl) (yp_ev (y_assign rfl)) rfl rfl ?_))))))))));rintro _ _ ⟨rfl, rfl⟩;refine ⟨trivial, ?_⟩;refine g_d (by kernel_rfl) (tr_thenN ?_);exact tr_join [(0, x0.enc), (1, x1.enc), (6, (.bool false)), (7, (.int .i64 x7))] ⟨rfl, rfl, rfl, rfl, trivial⟩ ⟨_, _, _, _, rfl, H⟩
  ·replace H := H.2 g7;refine tr_exit (tr_thenE (tr_thenE (tr_hit (tr_thenN (tr_seq (tr_region (tq (y_move rfl) (tq (y_assign rfl) (tr_nil (tr_thenN (tr_ret ?_)))))))))));exact tr_ret1 rfl rfl ⟨_, rfl, H⟩
def F.xaq.j2 (Q : S_api_Agg -> Bool -> H -> Prop) (C1 : Sl -> Int -> Addr -> Int -> H -> Prop) (x0 : Sl) (x1 : Int) (x4 : Addr) (x6 : Int) (h : H) : Prop :=
  C1 x0 x1 x4 (IntKind.wrap .i64 (x6 - 1)) h
def F.xaq.j3 (Q : S_api_Agg -> Bool -> H -> Prop) (C1 : Sl -> Int -> Addr -> Int -> H -> Prop) (x0 : Sl) (x1 : Int) (x4 : Addr) (x6 : Int) (x24 : Bool) (h : H) : Prop :=
  (x24 = true ->
  idxA x0 x6 6 fun a5 =>
  ld_S_api_Agg h (a5.add 1) fun y7 =>
  idxA x0 x6 6 fun a9 =>
  ldB h (a9.add 5) fun y11 =>
  stH h x4 y7.cells fun h13 =>
  cellH h13 (a9.add 5) = some (.bool y11) ∧
  ld_S_api_Agg h13 x4 fun y15 =>
  Q y15 (!y11) h13) ∧
  (x24 = false ->
  F.xaq.j2 Q C1 x0 x1 x4 x6 h)
def F.xaq.l1 (Q : S_api_Agg -> Bool -> H -> Prop) : Nat -> Sl -> Int -> Addr -> Int -> H -> Prop
  | 0, _, _, _, _, _ => False
  | q1 + 1, x0, x1, x4, x6, h =>
    ((decide (x6 >= 0)) = true ->
    (((x1 == 0)) = true ->
    F.xaq.j3 Q (F.xaq.l1 Q q1) x0 x1 x4 x6 true h) ∧
    (((x1 == 0)) = false ->
    idxA x0 x6 6 fun a18 =>
    ldI .i64 h (a18.add 0) fun y20 =>
    F.xaq.j3 Q (F.xaq.l1 Q q1) x0 x1 x4 x6 (decide (y20 <= x1)) h)) ∧
    ((decide (x6 >= 0)) = false ->
    stH h x4 ((⟨0, 0, 0, 0⟩ : S_api_Agg).cells) fun h22 =>
    ld_S_api_Agg h22 x4 fun y23 =>
    Q y23 false h22)
def F.xaq (p0 : Sl) (p1 : Int) (h : H) (Q : S_api_Agg -> Bool -> H -> Prop) : Prop :=
  new h (((⟨0, 0, 0, 0⟩ : S_api_Agg) : S_api_Agg).cells.toArray) ty_34 fun a2 h1 =>
  ∃ m, F.xaq.l1 Q m p0 p1 a2 (IntKind.wrap .i64 ((p0.len : Int) - 1)) h1
theorem F.xaq_ok {p0 : Sl} {p1 : Int} {h : H} {Q : S_api_Agg -> Bool -> H -> Prop} (H : F.xaq p0 p1 h Q) : Fn PP 62 ([p0.enc, (.int .i64 p1)] : List Value).toArray h fun r h' => ∃ r0 r1, r = .tuple #[(.agg r0.cells.toArray), (.bool r1)] ∧ Q r0 r1 h' := by
 unfold F.xaq at H;refine fn_of Tryz.func62 Tryz.ntmps62 rfl rfl fun w0 => (tr_sub [(0, p0.enc), (1, (.int .i64 p1))] ⟨rfl, rfl, trivial⟩ (tr_seq (tr_region (tr_e (f_alloc (cs := ((⟨0, 0, 0, 0⟩ : S_api_Agg) : S_api_Agg).cells.toArray) Tryz.zeroValue34 rfl H) rfl rfl ?_))));rintro _ h1 ⟨a2, rfl, H⟩;refine tq (y_assign rfl) (tr_nil (tr_thenN (tr_seq (tr_seq (tr_region (tq (y_move rfl) (tq (y_len (ts := #[]) Tryz.runUnderlying104 (o := p0.ptr) (n := p0.len) (cap := p0.cap) rfl) (tq (y_sub rfl rfl) (tq (y_assign rfl) (tr_nil (tr_thenN (tr_block ?_))))))))))));obtain ⟨m25, H⟩ := H;refine tr_sub [(0, p0.enc), (1, (.int .i64 p1)), (4, (.pointer (some a2))), (6, (.int .i64 (IntKind.wrap .i64 ((p0.len : Int) - 1))))] ⟨rfl, rfl, rfl, rfl, trivial⟩ ?_;refine tr_loop_j (fun m L' h => ∃ (x0 : Sl) (x1 : Int) (x4 : Addr) (x6 : Int), L' = [(0, x0.enc), (1, (.int .i64 x1)), (4, (.pointer (some x4))), (6, (.int .i64 x6))] ∧ F.xaq.l1 Q m x0 x1 x4 x6 h) ?_ ?_ m25 ⟨_, _, _, _, rfl, H⟩
 ·rintro L' h ⟨_, _, _, _, _, H⟩; exact H
 ·rintro q1 L' h ⟨x0, x1, x4, x6, rfl, H⟩;unfold F.xaq.l1 at H;refine tr_seq (tr_seq (tr_region (tq (y_move rfl) (tq (y_geq rfl rfl) (tr_nil (tr_thenN ?_))))));refine tr_cond rfl (fun g3 => ?_) (fun g3 => ?_)
  ·replace H := H.1 g3;refine tr_skip (tr_thenN ?_);refine tr_seq_j (fun L' h => ∃ (x0 : Sl) (x1 : Int) (x4 : Addr) (x6 : Int), L' = [(0, x0.enc), (1, (.int .i64 x1)), (4, (.pointer (some x4))), (6, (.int .i64 x6))] ∧ F.xaq.j2 Q (F.xaq.l1 Q q1) x0 x1 x4 x6 h) ?_ ?_
   ·rintro L' h ⟨x0, x1, x4, x6, rfl, H⟩;unfold F.xaq.j2 at H;refine tr_region (tq (y_move rfl) (tq (y_sub rfl rfl) (tq (y_assign rfl) (tr_nil (tr_thenN ?_)))));exact tr_join [(0, x0.enc), (1, (.int .i64 x1)), (4, (.pointer (some x4))), (6, (.int .i64 (IntKind.wrap .i64 (x6 - 1))))] ⟨rfl, rfl, rfl, rfl, trivial⟩ ⟨_, _, _, _, rfl, H⟩
   ·refine tr_block ?_;refine tr_seq_j (fun L' h => ∃ (x0 : Sl) (x1 : Int) (x4 : Addr) (x6 : Int) (x24 : Bool), L' = [(0, x0.enc), (1, (.int .i64 x1)), (4, (.pointer (some x4))), (6, (.int .i64 x6)), (24, (.bool x24))] ∧ F.xaq.j3 Q (F.xaq.l1 Q q1) x0 x1 x4 x6 x24 h) ?_ ?_
    ·rintro L' h ⟨x0, x1, x4, x6, x24, rfl, H⟩;unfold F.xaq.j3 at H;refine tr_cond rfl (fun g4 => ?_) (fun g4 => ?_)
     ·replace H := H.1 g4;refine tr_seq (tr_draw mixed [0, 0, 3, 7, 15, 0, 0, 96, 224, 480, 992, 31, 4095] (by kernel_rfl) (g_p 0 1 rfl (by kernel_rfl) (y_move rfl) rfl rfl (g_p 1 3 rfl (by kernel_rfl) (y_move rfl) rfl rfl ?_)));obtain ⟨a5, e6, H⟩ := H;refine g_p 2 7 rfl (by kernel_rfl) (f_idx (s := x0) Tryz.runUnderlying104 Tryz.sizeOf146 rfl rfl e6) rfl rfl (g_p 3 15 rfl (by kernel_rfl) (y_fa (off := 1) Tryz.runUnderlying146 fo_146_1 rfl) rfl rfl ?_);obtain ⟨y7, k8, H⟩ := H;refine g_h 4 31 rfl (by kernel_rfl) (y_ldS Tryz.isAgg34 Tryz.sizeOf34 rfl rfl) k8 rfl rfl (g_p 5 63 rfl (by kernel_rfl) (y_move rfl) rfl rfl (g_p 6 127 rfl (by kernel_rfl) (y_move rfl) rfl rfl ?_));obtain ⟨a9, e10, H⟩ := H;refine g_p 7 255 rfl (by kernel_rfl) (f_idx (s := x0) Tryz.runUnderlying104 Tryz.sizeOf146 rfl rfl e10) rfl rfl (g_p 8 511 rfl (by kernel_rfl) (y_fa (off := 5) Tryz.runUnderlying146 fo_146_2 rfl) rfl rfl ?_);obtain ⟨y11, k12, H⟩ := H;refine g_h 9 1023 rfl (by kernel_rfl) (y_ld Tryz.isAgg4 rfl) k12 rfl rfl (g_p 10 2047 rfl (by kernel_rfl) (y_not rfl) rfl rfl (g_e 11 4095 [(9, fun h => cellH h (a9.add 5) = some (.bool y11))] (by kernel_rfl) rfl (by kernel_rfl) (f_store (vs := y7.cells) Tryz.sizeOf34 rfl rfl cellsOfStruct rfl (by intro v hv; exact ones_S_api_Agg _ v hv) H) rfl rfl ?_));rintro _ h13 ⟨rfl, H⟩;obtain ⟨k14, H⟩ := H;refine ⟨And.intro k14 trivial, ?_⟩;refine g_p 12 8191 rfl (by kernel_rfl) (y_assign rfl) rfl rfl (g_d (by kernel_rfl) (tr_thenN (tr_ret (tr_blockR (tr_thenR (tr_thenR (tr_blockR (tr_thenR ?_))))))));obtain ⟨y15, k16, H⟩ := H;exact tr_rv2 rfl (rv_cellS Tryz.isAgg34 Tryz.sizeOf34 rfl rfl k16) (rv_tmp rfl) ⟨_, _, rfl, H⟩
     ·replace H := H.2 g4;refine tr_skip (tr_blockN (tr_thenN ?_));exact tr_join [(0, x0.enc), (1, (.int .i64 x1)), (4, (.pointer (some x4))), (6, (.int .i64 x6))] ⟨rfl, rfl, rfl, rfl, trivial⟩ ⟨_, _, _, _, rfl, H⟩
    ·refine tr_region (tq (y_move rfl) (tq (y_eql rfl rfl) (tq (y_move rfl) ?_)));refine tr_split (t := 16) rfl (fun g17 => ?_) (fun g17 => ?_)
     ·replace H := H.1 g17;refine ts (ts (ts (ts (ts (ts (ts (tq (y_pick_t rfl rfl) (tr_nil (tr_thenN ?_)))))))));exact tr_join [(0, x0.enc), (1, (.int .i64 x1)), (4, (.pointer (some x4))), (6, (.int .i64 x6)), (24, (.bool true))] ⟨rfl, rfl, rfl, rfl, rfl, trivial⟩ ⟨_, _, _, _, _, rfl, H⟩
     ·replace H := H.2 g17;refine tq (y_move rfl) (tq (y_move rfl) ?_);obtain ⟨a18, e19, H⟩ := H;refine tq (f_idx (s := x0) Tryz.runUnderlying104 Tryz.sizeOf146 rfl rfl e19) (tq (y_fa (off := 0) Tryz.runUnderlying146 fo_146_0 rfl) ?_);obtain ⟨y20, k21, H⟩ := H;refine tr_h (y_ld Tryz.isAgg3 rfl) k21 rfl rfl (tq (y_move rfl) (tq (y_leq rfl rfl) (tq (y_pick_f rfl rfl) (tr_nil (tr_thenN ?_)))));exact tr_join [(0, x0.enc), (1, (.int .i64 x1)), (4, (.pointer (some x4))), (6, (.int .i64 x6)), (24, (.bool (decide (y20 <= x1))))] ⟨rfl, rfl, rfl, rfl, rfl, trivial⟩ ⟨_, _, _, _, _, rfl, H⟩
  ·replace H := H.2 g3;refine tr_exit (tr_thenE (tr_thenE (tr_hit (tr_thenN (tr_seq (tr_region (tq (f_build rfl (bd_34_ )) (tr_e (f_store (vs := (⟨0, 0, 0, 0⟩ : S_api_Agg).cells) Tryz.sizeOf34 rfl rfl cellsOfStruct rfl (by intro v hv; exact ones_S_api_Agg _ v hv) H) rfl rfl ?_))))))));rintro _ h22 ⟨rfl, H⟩;refine tq (y_assign rfl) (tr_nil (tr_thenN (tr_ret ?_)));obtain ⟨y23, k24, H⟩ := H;exact tr_rv2 rfl (rv_cellS Tryz.isAgg34 Tryz.sizeOf34 rfl rfl k24) (rv_tmp rfl) ⟨_, _, rfl, H⟩
def F.xcy (p0 : Option Addr) (p1 : S_api_Cell) (p2 : Int) (h : H) (Q : S_api_Agg -> H -> Prop) : Prop :=
  new h p1.cells.toArray ty_32 fun a2 h1 =>
  new h1 (((⟨0, 0, 0, 0⟩ : S_api_Agg) : S_api_Agg).cells.toArray) ty_34 fun a4 h3 =>
  ld_S_api_Cell h3 a2 fun y5 =>
  F.xbr p0 y5 h3 fun r8 r9 h7 =>
  ((!r9) = true ->
  stH h7 a4 ((⟨0, 0, 0, 0⟩ : S_api_Agg).cells) fun h11 =>
  ld_S_api_Agg h11 a4 fun y12 =>
  Q y12 h11) ∧
  ((!r9) = false ->
  nn p0 fun a14 =>
  ldL h7 (a14.add 1) fun y16 =>
  idxA y16 r8 4 fun a18 =>
  ldL h7 (a18.add 3) fun y20 =>
  F.xaq y20 p2 h7 fun r23 r24 h22 =>
  new h22 (((⟨0, 0, 0, 0⟩ : S_api_Agg) : S_api_Agg).cells.toArray) ty_34 fun a26 h25 =>
  stH h25 a26 r23.cells fun h27 =>
  ((!r24) = true ->
  stH h27 a4 ((⟨0, 0, 0, 0⟩ : S_api_Agg).cells) fun h29 =>
  ld_S_api_Agg h29 a4 fun y30 =>
  Q y30 h29) ∧
  ((!r24) = false ->
  ld_S_api_Agg h27 a26 fun y32 =>
  stH h27 a4 y32.cells fun h34 =>
  ld_S_api_Agg h34 a4 fun y35 =>
  Q y35 h34))
theorem F.xcy_ok {p0 : Option Addr} {p1 : S_api_Cell} {p2 : Int} {h : H} {Q : S_api_Agg -> H -> Prop} (H : F.xcy p0 p1 p2 h Q) : Fn PP 51 ([(.pointer p0), (.agg p1.cells.toArray), (.int .i64 p2)] : List Value).toArray h fun r h' => ∃ r0, r = (.agg r0.cells.toArray) ∧ Q r0 h' := by
 unfold F.xcy at H;refine fn_of Tryz.func51 Tryz.ntmps51 rfl rfl fun w0 => (tr_sub [(0, (.pointer p0)), (1, (.agg p1.cells.toArray)), (2, (.int .i64 p2))] ⟨rfl, rfl, rfl, trivial⟩ (tr_seq (tr_region (tr_e (f_box (cs := p1.cells.toArray) rfl rfl H) rfl rfl ?_))));rintro _ h1 ⟨a2, rfl, H⟩;refine tr_e (f_alloc (cs := ((⟨0, 0, 0, 0⟩ : S_api_Agg) : S_api_Agg).cells.toArray) Tryz.zeroValue34 rfl H) rfl rfl ?_;rintro _ h3 ⟨a4, rfl, H⟩;refine tr_nil (tr_thenN (tr_seq (tr_region (tq (y_move rfl) ?_))));obtain ⟨y5, k6, H⟩ := H;refine tr_h (y_ldS Tryz.isAgg32 Tryz.sizeOf32 rfl rfl) k6 rfl rfl (tr_e (e_call Tryz.call93 rfl (F.xbr_ok H)) rfl rfl ?_);rintro _ h7 ⟨r8, r9, rfl, H⟩;refine tq (y_move rfl) (tq (y_ext rfl rfl) (tq (y_ext rfl rfl) (tq (y_assign rfl) (tq (y_assign rfl) (tr_nil (tr_thenN (tr_seq (tr_seq (tr_region (tq (y_move rfl) (tq (y_not rfl) (tr_nil (tr_thenN ?_)))))))))))));refine tr_cond rfl (fun g10 => ?_) (fun g10 => ?_)
 ·replace H := H.1 g10;refine tr_seq (tr_region (tq (f_build rfl (bd_34_ )) (tr_e (f_store (vs := (⟨0, 0, 0, 0⟩ : S_api_Agg).cells) Tryz.sizeOf34 rfl rfl cellsOfStruct rfl (by intro v hv; exact ones_S_api_Agg _ v hv) H) rfl rfl ?_)));rintro _ h11 ⟨rfl, H⟩;refine tr_nil (tr_thenN (tr_ret (tr_thenR ?_)));obtain ⟨y12, k13, H⟩ := H;exact tr_rv1 rfl (rv_cellS Tryz.isAgg34 Tryz.sizeOf34 rfl rfl k13) ⟨_, rfl, H⟩
 ·replace H := H.2 g10;refine tr_skip (tr_thenN (tr_seq (tr_region (tq (y_move rfl) ?_))));obtain ⟨a14, e15, H⟩ := H;refine tq (f_nn rfl e15) (tq (y_fa (off := 1) Tryz.runUnderlying91 fo_91_1 rfl) ?_);obtain ⟨y16, k17, H⟩ := H;refine tr_h (y_ld Tryz.isAgg89 rfl) k17 rfl rfl (tq (y_move rfl) ?_);obtain ⟨a18, e19, H⟩ := H;refine tq (f_idx (s := y16) Tryz.runUnderlying89 Tryz.sizeOf106 rfl rfl e19) (tq (y_fa (off := 3) Tryz.runUnderlying106 fo_106_1 rfl) ?_);obtain ⟨y20, k21, H⟩ := H;refine tr_h (y_ld Tryz.isAgg104 rfl) k21 rfl rfl (tq (y_move rfl) (tr_e (e_call Tryz.call62 rfl (F.xaq_ok H)) rfl rfl ?_));rintro _ h22 ⟨r23, r24, rfl, H⟩;refine tq (y_move rfl) (tq (y_ext rfl rfl) (tq (y_ext rfl rfl) (tr_e (f_alloc (cs := ((⟨0, 0, 0, 0⟩ : S_api_Agg) : S_api_Agg).cells.toArray) Tryz.zeroValue34 rfl H) rfl rfl ?_)));rintro _ h25 ⟨a26, rfl, H⟩;refine tr_e (f_store (vs := r23.cells) Tryz.sizeOf34 rfl rfl cellsOfStruct rfl (by intro v hv; exact ones_S_api_Agg _ v hv) H) rfl rfl ?_;rintro _ h27 ⟨rfl, H⟩;refine tq (y_assign rfl) (tr_nil (tr_thenN (tr_seq (tr_seq (tr_region (tq (y_move rfl) (tq (y_not rfl) (tr_nil (tr_thenN ?_)))))))));refine tr_cond rfl (fun g28 => ?_) (fun g28 => ?_)
  ·replace H := H.1 g28;refine tr_seq (tr_region (tq (f_build rfl (bd_34_ )) (tr_e (f_store (vs := (⟨0, 0, 0, 0⟩ : S_api_Agg).cells) Tryz.sizeOf34 rfl rfl cellsOfStruct rfl (by intro v hv; exact ones_S_api_Agg _ v hv) H) rfl rfl ?_)));rintro _ h29 ⟨rfl, H⟩;refine tr_nil (tr_thenN (tr_ret (tr_thenR ?_)));obtain ⟨y30, k31, H⟩ := H;exact tr_rv1 rfl (rv_cellS Tryz.isAgg34 Tryz.sizeOf34 rfl rfl k31) ⟨_, rfl, H⟩
  ·replace H := H.2 g28;refine tr_skip (tr_thenN (tr_seq (tr_region ?_)));obtain ⟨y32, k33, H⟩ := H;refine tr_h (y_ldS Tryz.isAgg34 Tryz.sizeOf34 rfl rfl) k33 rfl rfl (tr_e (f_store (vs := y32.cells) Tryz.sizeOf34 rfl rfl cellsOfStruct rfl (by intro v hv; exact ones_S_api_Agg _ v hv) H) rfl rfl ?_);rintro _ h34 ⟨rfl, H⟩;refine tr_nil (tr_thenN (tr_ret ?_));obtain ⟨y35, k36, H⟩ := H;exact tr_rv1 rfl (rv_cellS Tryz.isAgg34 Tryz.sizeOf34 rfl rfl k36) ⟨_, rfl, H⟩
def F.xac.j2 (Q : Int -> H -> Prop) (C1 : (Option Addr) -> Int -> Sl -> Int -> Int -> H -> Prop) (x0 : Option Addr) (x1 : Int) (x2 : Sl) (x7 : Int) (x8 : Int) (h : H) : Prop :=
  C1 x0 x1 x2 x7 (IntKind.wrap .i64 (x8 + 1)) h
def F.xac.j4 (Q : Int -> H -> Prop) (C1 : (Option Addr) -> Int -> Sl -> Int -> Int -> H -> Prop) (C2 : (Option Addr) -> Int -> Sl -> Int -> Int -> Addr -> Bool -> Int -> H -> Prop) (x0 : Option Addr) (x1 : Int) (x2 : Sl) (x7 : Int) (x8 : Int) (x9 : Addr) (x10 : Bool) (x11 : Int) (h : H) : Prop :=
  C2 x0 x1 x2 x7 x8 x9 x10 (IntKind.wrap .i64 (x11 + 1)) h
def F.xac.j5 (Q : Int -> H -> Prop) (C1 : (Option Addr) -> Int -> Sl -> Int -> Int -> H -> Prop) (x0 : Option Addr) (x1 : Int) (x2 : Sl) (x7 : Int) (x8 : Int) (x12 : Sl) (h : H) : Prop :=
  F.xay x12 (⟨x1, (⟨0, 0, 0, 0⟩ : S_api_Agg), false⟩ : S_spateref7_Version) h fun r26 h25 =>
  F.xav r26 h25 fun r28 h27 =>
  F.xav x12 h27 fun r30 h29 =>
  F.xac.j2 Q C1 x0 x1 x2 (IntKind.wrap .i64 ((IntKind.wrap .i64 (x7 + r28)) - r30)) x8 h29
def F.xac.j6 (Q : Int -> H -> Prop) (C1 : (Option Addr) -> Int -> Sl -> Int -> Int -> H -> Prop) (x0 : Option Addr) (x1 : Int) (x2 : Sl) (x7 : Int) (x8 : Int) (x12 : Sl) (x49 : Bool) (h : H) : Prop :=
  (x49 = true ->
  F.xac.j2 Q C1 x0 x1 x2 x7 x8 h) ∧
  (x49 = false ->
  F.xac.j5 Q C1 x0 x1 x2 x7 x8 x12 h)
def F.xac.l3 (Q : Int -> H -> Prop) (C1 : (Option Addr) -> Int -> Sl -> Int -> Int -> H -> Prop) : Nat -> (Option Addr) -> Int -> Sl -> Int -> Int -> Addr -> Bool -> Int -> H -> Prop
  | 0, _, _, _, _, _, _, _, _, _ => False
  | q3 + 1, x0, x1, x2, x7, x8, x9, x10, x11, h =>
    ((decide (x11 < x8)) = true ->
    (x10 = true ->
    F.xac.j4 Q C1 (F.xac.l3 Q C1 q3) x0 x1 x2 x7 x8 x9 true x11 h) ∧
    (x10 = false ->
    idxA x2 x11 3 fun a15 =>
    ld_S_api_Cell h a15 fun y17 =>
    ld_S_api_Cell h x9 fun y19 =>
    F.xac.j4 Q C1 (F.xac.l3 Q C1 q3) x0 x1 x2 x7 x8 x9 ((y17.View == y19.View) && ((y17.Key.toList == y19.Key.toList) && ((y17.Start == y19.Start) && true))) x11 h)) ∧
    ((decide (x11 < x8)) = false ->
    ld_S_api_Cell h x9 fun y21 =>
    F.xcl x0 y21 h fun r24 h23 =>
    (x10 = true ->
    F.xac.j6 Q C1 x0 x1 x2 x7 x8 r24 true h23) ∧
    (x10 = false ->
    F.xcp r24 h23 fun r34 h33 =>
    F.xac.j6 Q C1 x0 x1 x2 x7 x8 r24 (decide (r34 > x1)) h33))
def F.xac.l1 (Q : Int -> H -> Prop) : Nat -> (Option Addr) -> Int -> Sl -> Int -> Int -> H -> Prop
  | 0, _, _, _, _, _, _ => False
  | q1 + 1, x0, x1, x2, x7, x8, h =>
    ((decide (x8 < (x2.len : Int))) = true ->
    idxA x2 x8 3 fun a2 =>
    ld_S_api_Cell h a2 fun y4 =>
    new h (((⟨0, (⟨#[]⟩ : ByteArray), 0⟩ : S_api_Cell) : S_api_Cell).cells.toArray) ty_32 fun a7 h6 =>
    stH h6 a7 y4.cells fun h8 =>
    ld_S_api_Cell h8 a7 fun y9 =>
    F.xal y9 h8 fun r12 h11 =>
    ∃ m, F.xac.l3 Q (F.xac.l1 Q q1) m x0 x1 x2 x7 x8 a7 ((r12 != 0)) 0 h11) ∧
    ((decide (x8 < (x2.len : Int))) = false ->
    Q x7 h)
def F.xac (p0 : Option Addr) (p1 : Int) (p2 : Sl) (h : H) (Q : Int -> H -> Prop) : Prop :=
  ∃ m, F.xac.l1 Q m p0 p1 p2 0 0 h
theorem F.xac_ok {p0 : Option Addr} {p1 : Int} {p2 : Sl} {h : H} {Q : Int -> H -> Prop} (H : F.xac p0 p1 p2 h Q) : Fn PP 53 ([(.pointer p0), (.int .i64 p1), p2.enc] : List Value).toArray h fun r h' => ∃ r0, r = (.int .i64 r0) ∧ Q r0 h' := by
 unfold F.xac at H;refine fn_of Tryz.func53 Tryz.ntmps53 rfl rfl fun w0 => (tr_sub [(0, (.pointer p0)), (1, (.int .i64 p1)), (2, p2.enc)] ⟨rfl, rfl, rfl, trivial⟩ (tr_seq (tr_region (tq (y_assign rfl) (tr_nil (tr_thenN (tr_seq (tr_region (tq (y_assign rfl) (tr_nil (tr_thenN (tr_seq (tr_seq ?_)))))))))))));refine tr_region (tq (y_assign rfl) (tr_nil (tr_thenN (tr_block ?_))));obtain ⟨m36, H⟩ := H;refine tr_sub [(0, (.pointer p0)), (1, (.int .i64 p1)), (2, p2.enc), (7, (.int .i64 0)), (8, (.int .i64 0))] ⟨rfl, rfl, rfl, rfl, rfl, trivial⟩ ?_;refine tr_loop_j (fun m L' h => ∃ (x0 : Option Addr) (x1 : Int) (x2 : Sl) (x7 : Int) (x8 : Int), L' = [(0, (.pointer x0)), (1, (.int .i64 x1)), (2, x2.enc), (7, (.int .i64 x7)), (8, (.int .i64 x8))] ∧ F.xac.l1 Q m x0 x1 x2 x7 x8 h) ?_ ?_ m36 ⟨_, _, _, _, _, rfl, H⟩
 ·rintro L' h ⟨_, _, _, _, _, _, H⟩; exact H
 ·rintro q1 L' h ⟨x0, x1, x2, x7, x8, rfl, H⟩;unfold F.xac.l1 at H;refine tr_seq (tr_seq (tr_region (tq (y_move rfl) (tq (y_move rfl) (tq (y_len (ts := #[]) Tryz.runUnderlying23 (o := x2.ptr) (n := x2.len) (cap := x2.cap) rfl) (tq (y_lss rfl rfl) (tr_nil (tr_thenN ?_))))))));refine tr_cond rfl (fun g1 => ?_) (fun g1 => ?_)
  ·replace H := H.1 g1;refine tr_skip (tr_thenN ?_);refine tr_seq_j (fun L' h => ∃ (x0 : Option Addr) (x1 : Int) (x2 : Sl) (x7 : Int) (x8 : Int), L' = [(0, (.pointer x0)), (1, (.int .i64 x1)), (2, x2.enc), (7, (.int .i64 x7)), (8, (.int .i64 x8))] ∧ F.xac.j2 Q (F.xac.l1 Q q1) x0 x1 x2 x7 x8 h) ?_ ?_
   ·rintro L' h ⟨x0, x1, x2, x7, x8, rfl, H⟩;unfold F.xac.j2 at H;refine tr_region (tq (y_move rfl) (tq (y_add rfl rfl) (tq (y_assign rfl) (tr_nil (tr_thenN ?_)))));exact tr_join [(0, (.pointer x0)), (1, (.int .i64 x1)), (2, x2.enc), (7, (.int .i64 x7)), (8, (.int .i64 (IntKind.wrap .i64 (x8 + 1))))] ⟨rfl, rfl, rfl, rfl, rfl, trivial⟩ ⟨_, _, _, _, _, rfl, H⟩
   ·refine tr_block (tr_seq (tr_region (tq (y_move rfl) (tq (y_move rfl) ?_))));obtain ⟨a2, e3, H⟩ := H;refine tq (f_idx (s := x2) Tryz.runUnderlying23 Tryz.sizeOf32 rfl rfl e3) ?_;obtain ⟨y4, k5, H⟩ := H;refine tr_h (y_ldS Tryz.isAgg32 Tryz.sizeOf32 rfl rfl) k5 rfl rfl (tr_e (f_alloc (cs := ((⟨0, (⟨#[]⟩ : ByteArray), 0⟩ : S_api_Cell) : S_api_Cell).cells.toArray) Tryz.zeroValue32 rfl H) rfl rfl ?_);rintro _ h6 ⟨a7, rfl, H⟩;refine tr_e (f_store (vs := y4.cells) Tryz.sizeOf32 rfl rfl cellsOfStruct rfl (by intro v hv; exact ones_S_api_Cell _ v hv) H) rfl rfl ?_;rintro _ h8 ⟨rfl, H⟩;refine tr_nil (tr_thenN (tr_seq (tr_region ?_)));obtain ⟨y9, k10, H⟩ := H;refine tr_h (y_ldS Tryz.isAgg32 Tryz.sizeOf32 rfl rfl) k10 rfl rfl (tr_e (e_call Tryz.call85 rfl (F.xal_ok H)) rfl rfl ?_);rintro _ h11 ⟨r12, rfl, H⟩;refine tq (y_neq rfl rfl) (tq (y_assign rfl) (tr_nil (tr_thenN (tr_seq (tr_seq (tr_region (tq (y_assign rfl) (tr_nil (tr_thenN (tr_block ?_))))))))));obtain ⟨m35, H⟩ := H;refine tr_sub [(0, (.pointer x0)), (1, (.int .i64 x1)), (2, x2.enc), (7, (.int .i64 x7)), (8, (.int .i64 x8)), (9, (.pointer (some a7))), (10, (.bool ((r12 != 0)))), (11, (.int .i64 0))] ⟨rfl, rfl, rfl, rfl, rfl, rfl, rfl, rfl, trivial⟩ ?_;refine tr_loop_j (fun m L' h => ∃ (x0 : Option Addr) (x1 : Int) (x2 : Sl) (x7 : Int) (x8 : Int) (x9 : Addr) (x10 : Bool) (x11 : Int), L' = [(0, (.pointer x0)), (1, (.int .i64 x1)), (2, x2.enc), (7, (.int .i64 x7)), (8, (.int .i64 x8)), (9, (.pointer (some x9))), (10, (.bool x10)), (11, (.int .i64 x11))] ∧ F.xac.l3 Q (F.xac.l1 Q q1) m x0 x1 x2 x7 x8 x9 x10 x11 h) ?_ ?_ m35 ⟨_, _, _, _, _, _, _, _, rfl, H⟩
    ·rintro L' h ⟨_, _, _, _, _, _, _, _, _, H⟩; exact H
    ·rintro q3 L' h ⟨x0, x1, x2, x7, x8, x9, x10, x11, rfl, H⟩;unfold F.xac.l3 at H;refine tr_seq (tr_seq (tr_region (tq (y_move rfl) (tq (y_move rfl) (tq (y_lss rfl rfl) (tr_nil (tr_thenN ?_)))))));refine tr_cond rfl (fun g13 => ?_) (fun g13 => ?_)
     ·replace H := H.1 g13;refine tr_skip (tr_thenN ?_);refine tr_seq_j (fun L' h => ∃ (x0 : Option Addr) (x1 : Int) (x2 : Sl) (x7 : Int) (x8 : Int) (x9 : Addr) (x10 : Bool) (x11 : Int), L' = [(0, (.pointer x0)), (1, (.int .i64 x1)), (2, x2.enc), (7, (.int .i64 x7)), (8, (.int .i64 x8)), (9, (.pointer (some x9))), (10, (.bool x10)), (11, (.int .i64 x11))] ∧ F.xac.j4 Q (F.xac.l1 Q q1) (F.xac.l3 Q (F.xac.l1 Q q1) q3) x0 x1 x2 x7 x8 x9 x10 x11 h) ?_ ?_
      ·rintro L' h ⟨x0, x1, x2, x7, x8, x9, x10, x11, rfl, H⟩;unfold F.xac.j4 at H;refine tr_region (tq (y_move rfl) (tq (y_add rfl rfl) (tq (y_assign rfl) (tr_nil (tr_thenN ?_)))));exact tr_join [(0, (.pointer x0)), (1, (.int .i64 x1)), (2, x2.enc), (7, (.int .i64 x7)), (8, (.int .i64 x8)), (9, (.pointer (some x9))), (10, (.bool x10)), (11, (.int .i64 (IntKind.wrap .i64 (x11 + 1))))] ⟨rfl, rfl, rfl, rfl, rfl, rfl, rfl, rfl, trivial⟩ ⟨_, _, _, _, _, _, _, _, rfl, H⟩
      ·refine tr_block (tr_draw mixed [0, 1, 3, 3, 15, 31, 3, 127, 255, 511] (by kernel_rfl) (g_p 0 1 rfl (by kernel_rfl) (y_move rfl) rfl rfl (g_p 1 3 rfl (by kernel_rfl) (y_move rfl) rfl rfl ?_)));refine g_split (t := 32) rfl (fun g14 => ?_) (fun g14 => ?_)
       ·replace H := H.1 g14;refine g_s 2 7 rfl (by kernel_rfl) rfl rfl (g_s 3 15 rfl (by kernel_rfl) rfl rfl (g_s 4 31 rfl (by kernel_rfl) rfl rfl (g_s 5 63 rfl (by kernel_rfl) rfl rfl (g_s 6 127 rfl (by kernel_rfl) rfl rfl (g_s 7 255 rfl (by kernel_rfl) rfl rfl (g_p 8 511 rfl (by kernel_rfl) (y_pick_t rfl rfl) rfl rfl (g_e 9 1023 [] (by kernel_rfl) rfl (by kernel_rfl) (yp_ev (y_assign rfl)) rfl rfl ?_)))))));rintro _ _ ⟨rfl, rfl⟩;refine ⟨trivial, ?_⟩;refine g_d (by kernel_rfl) (tr_blockN (tr_thenN ?_));exact tr_join [(0, (.pointer x0)), (1, (.int .i64 x1)), (2, x2.enc), (7, (.int .i64 x7)), (8, (.int .i64 x8)), (9, (.pointer (some x9))), (10, (.bool true)), (11, (.int .i64 x11))] ⟨rfl, rfl, rfl, rfl, rfl, rfl, rfl, rfl, trivial⟩ ⟨_, _, _, _, _, _, _, _, rfl, H⟩
       ·replace H := H.2 g14;refine g_p 2 7 rfl (by kernel_rfl) (y_move rfl) rfl rfl (g_p 3 15 rfl (by kernel_rfl) (y_move rfl) rfl rfl ?_);obtain ⟨a15, e16, H⟩ := H;refine g_p 4 31 rfl (by kernel_rfl) (f_idx (s := x2) Tryz.runUnderlying23 Tryz.sizeOf32 rfl rfl e16) rfl rfl ?_;obtain ⟨y17, k18, H⟩ := H;refine g_h 5 63 rfl (by kernel_rfl) (y_ldS Tryz.isAgg32 Tryz.sizeOf32 rfl rfl) k18 rfl rfl ?_;obtain ⟨y19, k20, H⟩ := H;refine g_h 6 127 rfl (by kernel_rfl) (y_ldS Tryz.isAgg32 Tryz.sizeOf32 rfl rfl) k20 rfl rfl (g_p 7 255 rfl (by kernel_rfl) (st_eql (b := ((y17.View == y19.View) && ((y17.Key.toList == y19.Key.toList) && ((y17.Start == y19.Start) && true)))) eqg_32 (fun w => eqst_32 y17 y19 9998 w) rfl rfl) rfl rfl (g_p 8 511 rfl (by kernel_rfl) (y_pick_f rfl rfl) rfl rfl (g_e 9 1023 [] (by kernel_rfl) rfl (by kernel_rfl) (yp_ev (y_assign rfl)) rfl rfl ?_)));rintro _ _ ⟨rfl, rfl⟩;refine ⟨trivial, ?_⟩;refine g_d (by kernel_rfl) (tr_blockN (tr_thenN ?_));exact tr_join [(0, (.pointer x0)), (1, (.int .i64 x1)), (2, x2.enc), (7, (.int .i64 x7)), (8, (.int .i64 x8)), (9, (.pointer (some x9))), (10, (.bool ((y17.View == y19.View) && ((y17.Key.toList == y19.Key.toList) && ((y17.Start == y19.Start) && true))))), (11, (.int .i64 x11))] ⟨rfl, rfl, rfl, rfl, rfl, rfl, rfl, rfl, trivial⟩ ⟨_, _, _, _, _, _, _, _, rfl, H⟩
     ·replace H := H.2 g13;refine tr_exit (tr_thenE (tr_thenE (tr_hit (tr_thenN (tr_seq (tr_region (tq (y_move rfl) ?_)))))));obtain ⟨y21, k22, H⟩ := H;refine tr_h (y_ldS Tryz.isAgg32 Tryz.sizeOf32 rfl rfl) k22 rfl rfl (tr_e (e_call Tryz.call87 rfl (F.xcl_ok H)) rfl rfl ?_);rintro _ h23 ⟨r24, rfl, H⟩;refine tq (y_assign rfl) (tr_nil (tr_thenN ?_));refine tr_seq_j (fun L' h => ∃ (x0 : Option Addr) (x1 : Int) (x2 : Sl) (x7 : Int) (x8 : Int) (x12 : Sl), L' = [(0, (.pointer x0)), (1, (.int .i64 x1)), (2, x2.enc), (7, (.int .i64 x7)), (8, (.int .i64 x8)), (12, x12.enc)] ∧ F.xac.j5 Q (F.xac.l1 Q q1) x0 x1 x2 x7 x8 x12 h) ?_ ?_
      ·rintro L' h ⟨x0, x1, x2, x7, x8, x12, rfl, H⟩;unfold F.xac.j5 at H;refine tr_region (tq (y_move rfl) (tq (y_move rfl) (tq (y_move rfl) (tq (f_build rfl (bd_146_0 x1)) (tr_e (e_call Tryz.call89 rfl (F.xay_ok H)) rfl rfl ?_)))));rintro _ h25 ⟨r26, rfl, H⟩;refine tr_e (e_call Tryz.call90 rfl (F.xav_ok H)) rfl rfl ?_;rintro _ h27 ⟨r28, rfl, H⟩;refine tq (y_add rfl rfl) (tq (y_move rfl) (tr_e (e_call Tryz.call90 rfl (F.xav_ok H)) rfl rfl ?_));rintro _ h29 ⟨r30, rfl, H⟩;refine tq (y_sub rfl rfl) (tq (y_assign rfl) (tr_nil (tr_blockN (tr_thenN ?_))));exact tr_join [(0, (.pointer x0)), (1, (.int .i64 x1)), (2, x2.enc), (7, (.int .i64 (IntKind.wrap .i64 ((IntKind.wrap .i64 (x7 + r28)) - r30)))), (8, (.int .i64 x8))] ⟨rfl, rfl, rfl, rfl, rfl, trivial⟩ ⟨_, _, _, _, _, rfl, H⟩
      ·refine tr_seq_j (fun L' h => ∃ (x0 : Option Addr) (x1 : Int) (x2 : Sl) (x7 : Int) (x8 : Int) (x12 : Sl) (x49 : Bool), L' = [(0, (.pointer x0)), (1, (.int .i64 x1)), (2, x2.enc), (7, (.int .i64 x7)), (8, (.int .i64 x8)), (12, x12.enc), (49, (.bool x49))] ∧ F.xac.j6 Q (F.xac.l1 Q q1) x0 x1 x2 x7 x8 x12 x49 h) ?_ ?_
       ·rintro L' h ⟨x0, x1, x2, x7, x8, x12, x49, rfl, H⟩;unfold F.xac.j6 at H;refine tr_cond rfl (fun g31 => ?_) (fun g31 => ?_)
        ·replace H := H.1 g31;refine tr_exit (tr_thenE (tr_hit (tr_thenN ?_)));exact tr_join [(0, (.pointer x0)), (1, (.int .i64 x1)), (2, x2.enc), (7, (.int .i64 x7)), (8, (.int .i64 x8))] ⟨rfl, rfl, rfl, rfl, rfl, trivial⟩ ⟨_, _, _, _, _, rfl, H⟩
        ·replace H := H.2 g31;refine tr_skip (tr_thenN ?_);exact tr_join [(0, (.pointer x0)), (1, (.int .i64 x1)), (2, x2.enc), (7, (.int .i64 x7)), (8, (.int .i64 x8)), (12, x12.enc)] ⟨rfl, rfl, rfl, rfl, rfl, rfl, trivial⟩ ⟨_, _, _, _, _, _, rfl, H⟩
       ·refine tr_region (tq (y_move rfl) (tq (y_move rfl) ?_));refine tr_split (t := 44) rfl (fun g32 => ?_) (fun g32 => ?_)
        ·replace H := H.1 g32;refine ts (ts (ts (ts (tq (y_pick_t rfl rfl) (tr_nil (tr_thenN ?_))))));exact tr_join [(0, (.pointer x0)), (1, (.int .i64 x1)), (2, x2.enc), (7, (.int .i64 x7)), (8, (.int .i64 x8)), (12, r24.enc), (49, (.bool true))] ⟨rfl, rfl, rfl, rfl, rfl, rfl, rfl, trivial⟩ ⟨_, _, _, _, _, _, _, rfl, H⟩
        ·replace H := H.2 g32;refine tq (y_move rfl) (tr_e (e_call Tryz.call88 rfl (F.xcp_ok H)) rfl rfl ?_);rintro _ h33 ⟨r34, rfl, H⟩;refine tq (y_move rfl) (tq (y_gtr rfl rfl) (tq (y_pick_f rfl rfl) (tr_nil (tr_thenN ?_))));exact tr_join [(0, (.pointer x0)), (1, (.int .i64 x1)), (2, x2.enc), (7, (.int .i64 x7)), (8, (.int .i64 x8)), (12, r24.enc), (49, (.bool (decide (r34 > x1))))] ⟨rfl, rfl, rfl, rfl, rfl, rfl, rfl, trivial⟩ ⟨_, _, _, _, _, _, _, rfl, H⟩
  ·replace H := H.2 g1;refine tr_exit (tr_thenE (tr_thenE (tr_hit (tr_thenN (tr_seq (tr_region (tq (y_move rfl) (tq (y_assign rfl) (tr_nil (tr_thenN (tr_ret ?_)))))))))));exact tr_ret1 rfl rfl ⟨_, rfl, H⟩
def F.xdr (p0 : Option Addr) (p1 : Int) (p2 : Sl) (h : H) (Q : Bool -> H -> Prop) : Prop :=
  nn p0 fun a1 =>
  ldI .i64 h (a1.add 0) fun y3 =>
  F.xbm p0 h fun r6 h5 =>
  cellH h5 (a1.add 0) = some (.int .i64 y3) ∧
  F.xac p0 p1 p2 h5 fun r9 h8 =>
  cellH h8 (a1.add 0) = some (.int .i64 y3) ∧
  Q (decide ((IntKind.wrap .i64 (r6 + r9)) <= y3)) h8
theorem F.xdr_ok {p0 : Option Addr} {p1 : Int} {p2 : Sl} {h : H} {Q : Bool -> H -> Prop} (H : F.xdr p0 p1 p2 h Q) : Fn PP 54 ([(.pointer p0), (.int .i64 p1), p2.enc] : List Value).toArray h fun r h' => ∃ r0, r = (.bool r0) ∧ Q r0 h' := by
 unfold F.xdr at H;refine fn_of Tryz.func54 Tryz.ntmps54 rfl rfl fun w0 => (tr_sub [(0, (.pointer p0)), (1, (.int .i64 p1)), (2, p2.enc)] ⟨rfl, rfl, rfl, trivial⟩ (tr_seq (tr_region (tq (y_assign rfl) (tr_nil (tr_thenN (tr_seq (tr_draw mixed [0, 1, 0, 0, 0, 31, 63, 0, 128, 384, 896, 2047, 4095] (by kernel_rfl) (g_p 0 1 rfl (by kernel_rfl) (y_move rfl) rfl rfl (g_p 2 5 rfl (by kernel_rfl) (y_move rfl) rfl rfl (g_p 3 13 rfl (by kernel_rfl) (y_move rfl) rfl rfl (g_p 4 29 rfl (by kernel_rfl) (y_move rfl) rfl rfl (g_p 7 157 rfl (by kernel_rfl) (y_move rfl) rfl rfl ?_)))))))))))));obtain ⟨a1, e2, H⟩ := H;refine g_p 8 413 rfl (by kernel_rfl) (f_nn rfl e2) rfl rfl (g_p 9 925 rfl (by kernel_rfl) (y_fa (off := 0) Tryz.runUnderlying91 fo_91_0 rfl) rfl rfl ?_);obtain ⟨y3, k4, H⟩ := H;refine g_h 10 1949 rfl (by kernel_rfl) (y_ld Tryz.isAgg3 rfl) k4 rfl rfl (g_e 1 1951 [(10, fun h => cellH h (a1.add 0) = some (.int .i64 y3))] (by kernel_rfl) rfl (by kernel_rfl) (e_call Tryz.call55 rfl (F.xbm_ok H)) rfl rfl ?_);rintro _ h5 ⟨r6, rfl, H⟩;obtain ⟨k7, H⟩ := H;refine ⟨And.intro k7 trivial, ?_⟩;refine g_e 5 1983 [(10, fun h => cellH h (a1.add 0) = some (.int .i64 y3))] (by kernel_rfl) rfl (by kernel_rfl) (e_call Tryz.call53 rfl (F.xac_ok H)) rfl rfl ?_;rintro _ h8 ⟨r9, rfl, H⟩;obtain ⟨k10, H⟩ := H;refine ⟨And.intro k10 trivial, ?_⟩;refine g_p 6 2047 rfl (by kernel_rfl) (y_add rfl rfl) rfl rfl (g_p 11 4095 rfl (by kernel_rfl) (y_leq rfl rfl) rfl rfl (g_p 12 8191 rfl (by kernel_rfl) (y_assign rfl) rfl rfl (g_d (by kernel_rfl) (tr_thenN (tr_ret ?_)))));exact tr_ret1 rfl rfl ⟨_, rfl, H⟩
end Go.Proofs.YtoccbnhahaoeiaaGreat.V
