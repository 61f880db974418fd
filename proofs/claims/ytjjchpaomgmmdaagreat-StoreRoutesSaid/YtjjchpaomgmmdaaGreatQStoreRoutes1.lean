/- Parts of the proof of StoreRoutes; no condition. -/
import Derived.Test.YtjjchpaomgmmdaaGreatQStoreRoutes0
namespace Go.Proofs.YtjjchpaomgmmdaaGreat.V
open Go
set_option linter.unusedVariables false
set_option maxRecDepth 100000
def F.xcj  (h : H) (Q : (Option Addr) -> H -> Prop) : Prop :=
  runL PP (Instr.makeSlice 146 (.int .i64 8) (.int .i64 8)) h fun s2 h1 =>
  new h1 ((⟨s2, (⟨none, 0, 0⟩ : Sl), 0, 0⟩ : S_table_Table_chain_Chain_api_Agg).cells.toArray) ty_148 fun a4 h3 =>
  Q (some a4) h3
theorem F.xcj_ok  {h : H} {Q : (Option Addr) -> H -> Prop} (H : F.xcj  h Q) : Fn PP 55 ([] : List Value).toArray h fun r h' => ∃ r0, r = (.pointer r0) ∧ Q r0 h' := by
 unfold F.xcj at H;refine fn_of Tryz.func55 Tryz.ntmps55 rfl rfl fun w0 => (tr_sub [] trivial (tr_seq (tr_region (tq (y_assign rfl) (tr_nil (tr_thenN (tr_seq (tr_region (tr_e (f_make rfl rfl H) rfl rfl ?_)))))))));rintro _ h1 ⟨s2, rfl, H⟩;refine tq (f_build rfl (bd_148_0 s2)) (tr_e (f_box (cs := (⟨s2, (⟨none, 0, 0⟩ : Sl), 0, 0⟩ : S_table_Table_chain_Chain_api_Agg).cells.toArray) rfl rfl H) rfl rfl ?_);rintro _ h3 ⟨a4, rfl, H⟩;refine tq (y_assign rfl) (tr_nil (tr_thenN (tr_ret ?_)));exact tr_ret1 rfl rfl ⟨_, rfl, H⟩
def F.xat.j1 (Q : (Option Addr) -> Int -> H -> Prop) (x0 : Int) (h : H) : Prop :=
  F.xcj  h fun r2 h1 =>
  new h1 ((⟨(⟨0, 0, x0⟩ : S_shard_counts), r2⟩ : S_shard_Shard).cells.toArray) ty_74 fun a4 h3 =>
  Q (some a4) 0 h3
def F.xat.j2 (Q : (Option Addr) -> Int -> H -> Prop) (x0 : Int) (x9 : Bool) (h : H) : Prop :=
  (x9 = true ->
  Q none 1 h) ∧
  (x9 = false ->
  F.xat.j1 Q x0 h)
def F.xat (p0 : Int) (h : H) (Q : (Option Addr) -> Int -> H -> Prop) : Prop :=
  ((decide (p0 < 2)) = true ->
  F.xat.j2 Q p0 true h) ∧
  ((decide (p0 < 2)) = false ->
  F.xat.j2 Q p0 (decide (p0 > 1048576)) h)
theorem F.xat_ok {p0 : Int} {h : H} {Q : (Option Addr) -> Int -> H -> Prop} (H : F.xat p0 h Q) : Fn PP 26 ([(.int .i64 p0)] : List Value).toArray h fun r h' => ∃ r0 r1, r = .tuple #[(.pointer r0), (.int .i64 r1)] ∧ Q r0 r1 h' := by
 unfold F.xat at H;refine fn_of Tryz.func26 Tryz.ntmps26 rfl rfl fun w0 => (tr_sub [(0, (.int .i64 p0))] ⟨rfl, trivial⟩ (tr_seq (tr_region (tq (y_assign rfl) (tq (y_assign rfl) (tr_nil (tr_thenN ?_)))))));refine tr_seq_j (fun L' h => ∃ (x0 : Int), L' = [(0, (.int .i64 x0))] ∧ F.xat.j1 Q x0 h) ?_ ?_
 ·rintro L' h ⟨x0, rfl, H⟩;unfold F.xat.j1 at H;refine tr_seq (tr_region (tq (y_move rfl) (tq (f_build rfl (bd_71_2 x0)) (tr_e (e_call Tryz.call55 rfl (F.xcj_ok H)) rfl rfl ?_))));rintro _ h1 ⟨r2, rfl, H⟩;refine tq (f_build rfl (bd_74_0_1 (⟨0, 0, x0⟩ : S_shard_counts) r2)) (tr_e (f_box (cs := (⟨(⟨0, 0, x0⟩ : S_shard_counts), r2⟩ : S_shard_Shard).cells.toArray) rfl rfl H) rfl rfl ?_);rintro _ h3 ⟨a4, rfl, H⟩;refine tq (y_assign rfl) (tq (y_assign rfl) (tr_nil (tr_thenN (tr_ret ?_))));exact tr_ret2 rfl rfl rfl ⟨_, _, rfl, H⟩
 ·refine tr_seq_j (fun L' h => ∃ (x0 : Int) (x9 : Bool), L' = [(0, (.int .i64 x0)), (9, (.bool x9))] ∧ F.xat.j2 Q x0 x9 h) ?_ ?_
  ·rintro L' h ⟨x0, x9, rfl, H⟩;unfold F.xat.j2 at H;refine tr_cond rfl (fun g5 => ?_) (fun g5 => ?_)
   ·replace H := H.1 g5;refine tr_seq (tr_region (tq (y_assign rfl) (tq (y_assign rfl) (tr_nil (tr_thenN (tr_ret (tr_thenR ?_)))))));exact tr_ret2 rfl rfl rfl ⟨_, _, rfl, H⟩
   ·replace H := H.2 g5;refine tr_skip (tr_thenN ?_);exact tr_join [(0, (.int .i64 x0))] ⟨rfl, trivial⟩ ⟨_, rfl, H⟩
  ·refine tr_region (tq (y_move rfl) (tq (y_lss rfl rfl) (tq (y_move rfl) ?_)));refine tr_split (t := 6) rfl (fun g6 => ?_) (fun g6 => ?_)
   ·replace H := H.1 g6;refine ts (ts (tq (y_pick_t rfl rfl) (tr_nil (tr_thenN ?_))));exact tr_join [(0, (.int .i64 p0)), (9, (.bool true))] ⟨rfl, rfl, trivial⟩ ⟨_, _, rfl, H⟩
   ·replace H := H.2 g6;refine tq (y_move rfl) (tq (y_gtr rfl rfl) (tq (y_pick_f rfl rfl) (tr_nil (tr_thenN ?_))));exact tr_join [(0, (.int .i64 p0)), (9, (.bool (decide (p0 > 1048576))))] ⟨rfl, rfl, trivial⟩ ⟨_, _, rfl, H⟩
def F.xai.l2 (Q : (Option Addr) -> Int -> H -> Prop) : Nat -> Int -> Addr -> Int -> Int -> H -> Prop
  | 0, _, _, _, _, _ => False
  | q2 + 1, x1, x6, x25, x26, h =>
    ((decide (x26 < x25)) = true ->
    F.xat x1 h fun r5 r6 h4 =>
    (((r6 != 0)) = true ->
    Q none r6 h4) ∧
    (((r6 != 0)) = false ->
    ldL h4 (x6.add 0) fun y8 =>
    newL h4 #[(.pointer r5)] ty_64 1 fun s11 h10 =>
    runL PP (Builtin.append_ #[81, 81] 81 #[y8.enc, s11.enc]) h10 fun s13 h12 =>
    stH h12 (x6.add 0) [s13.enc] fun h14 =>
    (F.xai.l2 Q q2) x1 x6 x25 (IntKind.wrap .i64 (x26 + 1)) h14)) ∧
    ((decide (x26 < x25)) = false ->
    Q (some x6) 0 h)
def F.xai.j1 (Q : (Option Addr) -> Int -> H -> Prop) (x0 : Int) (x1 : Int) (h : H) : Prop :=
  new h ((⟨(⟨none, 0, 0⟩ : Sl)⟩ : S_store_Store).cells.toArray) ty_83 fun a2 h1 =>
  ∃ m, F.xai.l2 Q m x1 a2 x0 0 h1
def F.xai.j3 (Q : (Option Addr) -> Int -> H -> Prop) (x0 : Int) (x1 : Int) (x22 : Bool) (h : H) : Prop :=
  (x22 = true ->
  Q none 1 h) ∧
  (x22 = false ->
  F.xai.j1 Q x0 x1 h)
def F.xai (p0 : Int) (p1 : Int) (h : H) (Q : (Option Addr) -> Int -> H -> Prop) : Prop :=
  ((decide (p0 < 1)) = true ->
  F.xai.j3 Q p0 p1 true h) ∧
  ((decide (p0 < 1)) = false ->
  ((decide (p0 > 16)) = true ->
  F.xai.j3 Q p0 p1 true h) ∧
  ((decide (p0 > 16)) = false ->
  ((decide (p1 < 2)) = true ->
  F.xai.j3 Q p0 p1 true h) ∧
  ((decide (p1 < 2)) = false ->
  F.xai.j3 Q p0 p1 (decide (p1 > 1048576)) h)))
theorem F.xai_ok {p0 : Int} {p1 : Int} {h : H} {Q : (Option Addr) -> Int -> H -> Prop} (H : F.xai p0 p1 h Q) : Fn PP 8 ([(.int .i64 p0), (.int .i64 p1)] : List Value).toArray h fun r h' => ∃ r0 r1, r = .tuple #[(.pointer r0), (.int .i64 r1)] ∧ Q r0 r1 h' := by
 unfold F.xai at H;refine fn_of Tryz.func8 Tryz.ntmps8 rfl rfl fun w0 => (tr_sub [(0, (.int .i64 p0)), (1, (.int .i64 p1))] ⟨rfl, rfl, trivial⟩ (tr_seq (tr_region (tq (y_assign rfl) (tq (y_assign rfl) (tr_nil (tr_thenN ?_)))))));refine tr_seq_j (fun L' h => ∃ (x0 : Int) (x1 : Int), L' = [(0, (.int .i64 x0)), (1, (.int .i64 x1))] ∧ F.xai.j1 Q x0 x1 h) ?_ ?_
 ·rintro L' h ⟨x0, x1, rfl, H⟩;unfold F.xai.j1 at H;refine tr_seq (tr_region (tq (f_build rfl (bd_83_ )) (tr_e (f_box (cs := (⟨(⟨none, 0, 0⟩ : Sl)⟩ : S_store_Store).cells.toArray) rfl rfl H) rfl rfl ?_)));rintro _ h1 ⟨a2, rfl, H⟩;refine tq (y_assign rfl) (tr_nil (tr_thenN (tr_seq (tr_seq (tr_region (tq (y_move rfl) (tq (y_move rfl) (tr_nil (tr_thenN (tr_block ?_))))))))));obtain ⟨m15, H⟩ := H;refine tr_sub [(1, (.int .i64 x1)), (6, (.pointer (some a2))), (25, (.int .i64 x0)), (26, (.int .i64 0))] ⟨rfl, rfl, rfl, rfl, trivial⟩ ?_;refine tr_loop_j (fun m L' h => ∃ (x1 : Int) (x6 : Addr) (x25 : Int) (x26 : Int), L' = [(1, (.int .i64 x1)), (6, (.pointer (some x6))), (25, (.int .i64 x25)), (26, (.int .i64 x26))] ∧ F.xai.l2 Q m x1 x6 x25 x26 h) ?_ ?_ m15 ⟨_, _, _, _, rfl, H⟩
  ·rintro L' h ⟨_, _, _, _, _, H⟩; exact H
  ·rintro q2 L' h ⟨x1, x6, x25, x26, rfl, H⟩;unfold F.xai.l2 at H;refine tr_seq (tr_region (tq (y_lss rfl rfl) (tr_nil (tr_thenN (tr_seq ?_)))));refine tr_cond rfl (fun g3 => ?_) (fun g3 => ?_)
   ·replace H := H.1 g3;refine tr_skip (tr_thenN (tr_seq (tr_block (tr_seq (tr_region (tq (y_move rfl) (tr_e (e_call Tryz.call26 rfl (F.xat_ok H)) rfl rfl ?_)))))));rintro _ h4 ⟨r5, r6, rfl, H⟩;refine tq (y_move rfl) (tq (y_ext rfl rfl) (tq (y_ext rfl rfl) (tq (y_assign rfl) (tq (y_assign rfl) (tr_nil (tr_thenN (tr_seq (tr_seq (tr_region (tq (y_move rfl) (tq (y_neq rfl rfl) (tr_nil (tr_thenN ?_)))))))))))));refine tr_cond rfl (fun g7 => ?_) (fun g7 => ?_)
    ·replace H := H.1 g7;refine tr_seq (tr_region (tq (y_move rfl) (tq (y_assign rfl) (tq (y_assign rfl) (tr_nil (tr_thenN (tr_ret (tr_thenR (tr_blockR (tr_thenR (tr_thenR (tr_blockR (tr_thenR ?_)))))))))))));exact tr_ret2 rfl rfl rfl ⟨_, _, rfl, H⟩
    ·replace H := H.2 g7;refine tr_skip (tr_thenN (tr_region (tq (y_move rfl) (tq (y_move rfl) (tq (y_nil rfl) (tq (y_fa (off := 0) Tryz.runUnderlying83 fo_83_0 rfl) ?_))))));obtain ⟨y8, k9, H⟩ := H;refine tr_h (y_ld Tryz.isAgg81 rfl) k9 rfl rfl (tq (y_move rfl) (tr_e (f_buildL (cs := #[(.pointer r5)]) rfl rfl (bl_81_1_0 r5) H) rfl rfl ?_));rintro _ h10 ⟨s11, rfl, H⟩;refine tr_e (f_app rfl H) rfl rfl ?_;rintro _ h12 ⟨s13, rfl, H⟩;refine tq (y_nil rfl) (tq (y_fa (off := 0) Tryz.runUnderlying83 fo_83_0 rfl) (tr_e (f_store (vs := [s13.enc]) Tryz.sizeOf81 rfl rfl rfl rfl (one1 rfl) H) rfl rfl ?_));rintro _ h14 ⟨rfl, H⟩;refine tr_nil (tr_blockN (tr_thenN (tr_region (tq (y_add rfl rfl) (tq (y_move rfl) (tr_nil (tr_thenN ?_)))))));exact tr_join [(1, (.int .i64 x1)), (6, (.pointer (some x6))), (25, (.int .i64 x25)), (26, (.int .i64 (IntKind.wrap .i64 (x26 + 1))))] ⟨rfl, rfl, rfl, rfl, trivial⟩ ⟨_, _, _, _, rfl, H⟩
   ·replace H := H.2 g3;refine tr_exit (tr_thenE (tr_thenE (tr_hit (tr_thenN (tr_seq (tr_region (tq (y_move rfl) (tq (y_assign rfl) (tq (y_assign rfl) (tr_nil (tr_thenN (tr_ret ?_))))))))))));exact tr_ret2 rfl rfl rfl ⟨_, _, rfl, H⟩
 ·refine tr_seq_j (fun L' h => ∃ (x0 : Int) (x1 : Int) (x22 : Bool), L' = [(0, (.int .i64 x0)), (1, (.int .i64 x1)), (22, (.bool x22))] ∧ F.xai.j3 Q x0 x1 x22 h) ?_ ?_
  ·rintro L' h ⟨x0, x1, x22, rfl, H⟩;unfold F.xai.j3 at H;refine tr_cond rfl (fun g16 => ?_) (fun g16 => ?_)
   ·replace H := H.1 g16;refine tr_seq (tr_region (tq (y_assign rfl) (tq (y_assign rfl) (tr_nil (tr_thenN (tr_ret (tr_thenR ?_)))))));exact tr_ret2 rfl rfl rfl ⟨_, _, rfl, H⟩
   ·replace H := H.2 g16;refine tr_skip (tr_thenN ?_);exact tr_join [(0, (.int .i64 x0)), (1, (.int .i64 x1))] ⟨rfl, rfl, trivial⟩ ⟨_, _, rfl, H⟩
  ·refine tr_region (tq (y_move rfl) (tq (y_lss rfl rfl) (tq (y_move rfl) ?_)));refine tr_split (t := 11) rfl (fun g17 => ?_) (fun g17 => ?_)
   ·replace H := H.1 g17;refine ts (ts (tq (y_pick_t rfl rfl) (tq (y_move rfl) (ts (ts (tq (y_pick_t rfl rfl) (tq (y_move rfl) (ts (ts (tq (y_pick_t rfl rfl) (tr_nil (tr_thenN ?_))))))))))));exact tr_join [(0, (.int .i64 p0)), (1, (.int .i64 p1)), (22, (.bool true))] ⟨rfl, rfl, rfl, trivial⟩ ⟨_, _, _, rfl, H⟩
   ·replace H := H.2 g17;refine tq (y_move rfl) (tq (y_gtr rfl rfl) (tq (y_pick_f rfl rfl) (tq (y_move rfl) ?_)));refine tr_split (t := 15) rfl (fun g18 => ?_) (fun g18 => ?_)
    ·replace H := H.1 g18;refine ts (ts (tq (y_pick_t rfl rfl) (tq (y_move rfl) (ts (ts (tq (y_pick_t rfl rfl) (tr_nil (tr_thenN ?_))))))));exact tr_join [(0, (.int .i64 p0)), (1, (.int .i64 p1)), (22, (.bool true))] ⟨rfl, rfl, rfl, trivial⟩ ⟨_, _, _, rfl, H⟩
    ·replace H := H.2 g18;refine tq (y_move rfl) (tq (y_lss rfl rfl) (tq (y_pick_f rfl rfl) (tq (y_move rfl) ?_)));refine tr_split (t := 19) rfl (fun g19 => ?_) (fun g19 => ?_)
     ·replace H := H.1 g19;refine ts (ts (tq (y_pick_t rfl rfl) (tr_nil (tr_thenN ?_))));exact tr_join [(0, (.int .i64 p0)), (1, (.int .i64 p1)), (22, (.bool true))] ⟨rfl, rfl, rfl, trivial⟩ ⟨_, _, _, rfl, H⟩
     ·replace H := H.2 g19;refine tq (y_move rfl) (tq (y_gtr rfl rfl) (tq (y_pick_f rfl rfl) (tr_nil (tr_thenN ?_))));exact tr_join [(0, (.int .i64 p0)), (1, (.int .i64 p1)), (22, (.bool (decide (p1 > 1048576))))] ⟨rfl, rfl, rfl, trivial⟩ ⟨_, _, _, rfl, H⟩
def F.xay.j1 (Q : (Option Addr) -> Int -> H -> Prop) (x0 : Int) (h : H) : Prop :=
  new h ((⟨x0, (⟨none, 0, 0⟩ : Sl)⟩ : S_spateref7_Shard).cells.toArray) ty_139 fun a2 h1 =>
  Q (some a2) 0 h1
def F.xay.j2 (Q : (Option Addr) -> Int -> H -> Prop) (x0 : Int) (x9 : Bool) (h : H) : Prop :=
  (x9 = true ->
  Q none 1 h) ∧
  (x9 = false ->
  F.xay.j1 Q x0 h)
def F.xay (p0 : Int) (h : H) (Q : (Option Addr) -> Int -> H -> Prop) : Prop :=
  ((decide (p0 < 2)) = true ->
  F.xay.j2 Q p0 true h) ∧
  ((decide (p0 < 2)) = false ->
  F.xay.j2 Q p0 (decide (p0 > 1048576)) h)
theorem F.xay_ok {p0 : Int} {h : H} {Q : (Option Addr) -> Int -> H -> Prop} (H : F.xay p0 h Q) : Fn PP 43 ([(.int .i64 p0)] : List Value).toArray h fun r h' => ∃ r0 r1, r = .tuple #[(.pointer r0), (.int .i64 r1)] ∧ Q r0 r1 h' := by
 unfold F.xay at H;refine fn_of Tryz.func43 Tryz.ntmps43 rfl rfl fun w0 => (tr_sub [(0, (.int .i64 p0))] ⟨rfl, trivial⟩ (tr_seq (tr_region (tq (y_assign rfl) (tq (y_assign rfl) (tr_nil (tr_thenN ?_)))))));refine tr_seq_j (fun L' h => ∃ (x0 : Int), L' = [(0, (.int .i64 x0))] ∧ F.xay.j1 Q x0 h) ?_ ?_
 ·rintro L' h ⟨x0, rfl, H⟩;unfold F.xay.j1 at H;refine tr_seq (tr_region (tq (y_move rfl) (tq (f_build rfl (bd_139_0 x0)) (tr_e (f_box (cs := (⟨x0, (⟨none, 0, 0⟩ : Sl)⟩ : S_spateref7_Shard).cells.toArray) rfl rfl H) rfl rfl ?_))));rintro _ h1 ⟨a2, rfl, H⟩;refine tq (y_assign rfl) (tq (y_assign rfl) (tr_nil (tr_thenN (tr_ret ?_))));exact tr_ret2 rfl rfl rfl ⟨_, _, rfl, H⟩
 ·refine tr_seq_j (fun L' h => ∃ (x0 : Int) (x9 : Bool), L' = [(0, (.int .i64 x0)), (9, (.bool x9))] ∧ F.xay.j2 Q x0 x9 h) ?_ ?_
  ·rintro L' h ⟨x0, x9, rfl, H⟩;unfold F.xay.j2 at H;refine tr_cond rfl (fun g3 => ?_) (fun g3 => ?_)
   ·replace H := H.1 g3;refine tr_seq (tr_region (tq (y_assign rfl) (tq (y_assign rfl) (tr_nil (tr_thenN (tr_ret (tr_thenR ?_)))))));exact tr_ret2 rfl rfl rfl ⟨_, _, rfl, H⟩
   ·replace H := H.2 g3;refine tr_skip (tr_thenN ?_);exact tr_join [(0, (.int .i64 x0))] ⟨rfl, trivial⟩ ⟨_, rfl, H⟩
  ·refine tr_region (tq (y_move rfl) (tq (y_lss rfl rfl) (tq (y_move rfl) ?_)));refine tr_split (t := 6) rfl (fun g4 => ?_) (fun g4 => ?_)
   ·replace H := H.1 g4;refine ts (ts (tq (y_pick_t rfl rfl) (tr_nil (tr_thenN ?_))));exact tr_join [(0, (.int .i64 p0)), (9, (.bool true))] ⟨rfl, rfl, trivial⟩ ⟨_, _, rfl, H⟩
   ·replace H := H.2 g4;refine tq (y_move rfl) (tq (y_gtr rfl rfl) (tq (y_pick_f rfl rfl) (tr_nil (tr_thenN ?_))));exact tr_join [(0, (.int .i64 p0)), (9, (.bool (decide (p0 > 1048576))))] ⟨rfl, rfl, trivial⟩ ⟨_, _, rfl, H⟩
def F.xak.l2 (Q : (Option Addr) -> Int -> H -> Prop) : Nat -> Int -> Int -> Addr -> Int -> H -> Prop
  | 0, _, _, _, _, _ => False
  | q2 + 1, x0, x1, x6, x7, h =>
    ((decide (x7 < x0)) = true ->
    F.xay x1 h fun r5 r6 h4 =>
    (((r6 != 0)) = true ->
    Q none r6 h4) ∧
    (((r6 != 0)) = false ->
    ldL h4 (x6.add 0) fun y8 =>
    newL h4 #[(.pointer r5)] ty_87 1 fun s11 h10 =>
    runL PP (Builtin.append_ #[84, 84] 84 #[y8.enc, s11.enc]) h10 fun s13 h12 =>
    stH h12 (x6.add 0) [s13.enc] fun h14 =>
    (F.xak.l2 Q q2) x0 x1 x6 (IntKind.wrap .i64 (x7 + 1)) h14)) ∧
    ((decide (x7 < x0)) = false ->
    Q (some x6) 0 h)
def F.xak.j1 (Q : (Option Addr) -> Int -> H -> Prop) (x0 : Int) (x1 : Int) (h : H) : Prop :=
  new h ((⟨(⟨none, 0, 0⟩ : Sl)⟩ : S_spateref10_Store).cells.toArray) ty_86 fun a2 h1 =>
  ∃ m, F.xak.l2 Q m x0 x1 a2 0 h1
def F.xak.j3 (Q : (Option Addr) -> Int -> H -> Prop) (x0 : Int) (x1 : Int) (x15 : Bool) (h : H) : Prop :=
  (x15 = true ->
  Q none 1 h) ∧
  (x15 = false ->
  F.xak.j1 Q x0 x1 h)
def F.xak (p0 : Int) (p1 : Int) (h : H) (Q : (Option Addr) -> Int -> H -> Prop) : Prop :=
  ((decide (p0 < 1)) = true ->
  F.xak.j3 Q p0 p1 true h) ∧
  ((decide (p0 < 1)) = false ->
  F.xak.j3 Q p0 p1 (decide (p0 > 16)) h)
theorem F.xak_ok {p0 : Int} {p1 : Int} {h : H} {Q : (Option Addr) -> Int -> H -> Prop} (H : F.xak p0 p1 h Q) : Fn PP 9 ([(.int .i64 p0), (.int .i64 p1)] : List Value).toArray h fun r h' => ∃ r0 r1, r = .tuple #[(.pointer r0), (.int .i64 r1)] ∧ Q r0 r1 h' := by
 unfold F.xak at H;refine fn_of Tryz.func9 Tryz.ntmps9 rfl rfl fun w0 => (tr_sub [(0, (.int .i64 p0)), (1, (.int .i64 p1))] ⟨rfl, rfl, trivial⟩ (tr_seq (tr_region (tq (y_assign rfl) (tq (y_assign rfl) (tr_nil (tr_thenN ?_)))))));refine tr_seq_j (fun L' h => ∃ (x0 : Int) (x1 : Int), L' = [(0, (.int .i64 x0)), (1, (.int .i64 x1))] ∧ F.xak.j1 Q x0 x1 h) ?_ ?_
 ·rintro L' h ⟨x0, x1, rfl, H⟩;unfold F.xak.j1 at H;refine tr_seq (tr_region (tq (f_build rfl (bd_86_ )) (tr_e (f_box (cs := (⟨(⟨none, 0, 0⟩ : Sl)⟩ : S_spateref10_Store).cells.toArray) rfl rfl H) rfl rfl ?_)));rintro _ h1 ⟨a2, rfl, H⟩;refine tq (y_assign rfl) (tr_nil (tr_thenN (tr_seq (tr_seq (tr_region (tq (y_assign rfl) (tr_nil (tr_thenN (tr_block ?_)))))))));obtain ⟨m15, H⟩ := H;refine tr_sub [(0, (.int .i64 x0)), (1, (.int .i64 x1)), (6, (.pointer (some a2))), (7, (.int .i64 0))] ⟨rfl, rfl, rfl, rfl, trivial⟩ ?_;refine tr_loop_j (fun m L' h => ∃ (x0 : Int) (x1 : Int) (x6 : Addr) (x7 : Int), L' = [(0, (.int .i64 x0)), (1, (.int .i64 x1)), (6, (.pointer (some x6))), (7, (.int .i64 x7))] ∧ F.xak.l2 Q m x0 x1 x6 x7 h) ?_ ?_ m15 ⟨_, _, _, _, rfl, H⟩
  ·rintro L' h ⟨_, _, _, _, _, H⟩; exact H
  ·rintro q2 L' h ⟨x0, x1, x6, x7, rfl, H⟩;unfold F.xak.l2 at H;refine tr_seq (tr_seq (tr_region (tq (y_move rfl) (tq (y_move rfl) (tq (y_lss rfl rfl) (tr_nil (tr_thenN ?_)))))));refine tr_cond rfl (fun g3 => ?_) (fun g3 => ?_)
   ·replace H := H.1 g3;refine tr_skip (tr_thenN (tr_seq (tr_block (tr_seq (tr_region (tq (y_move rfl) (tr_e (e_call Tryz.call43 rfl (F.xay_ok H)) rfl rfl ?_)))))));rintro _ h4 ⟨r5, r6, rfl, H⟩;refine tq (y_move rfl) (tq (y_ext rfl rfl) (tq (y_ext rfl rfl) (tq (y_assign rfl) (tq (y_assign rfl) (tr_nil (tr_thenN (tr_seq (tr_seq (tr_region (tq (y_move rfl) (tq (y_neq rfl rfl) (tr_nil (tr_thenN ?_)))))))))))));refine tr_cond rfl (fun g7 => ?_) (fun g7 => ?_)
    ·replace H := H.1 g7;refine tr_seq (tr_region (tq (y_move rfl) (tq (y_assign rfl) (tq (y_assign rfl) (tr_nil (tr_thenN (tr_ret (tr_thenR (tr_blockR (tr_thenR (tr_thenR (tr_blockR (tr_thenR ?_)))))))))))));exact tr_ret2 rfl rfl rfl ⟨_, _, rfl, H⟩
    ·replace H := H.2 g7;refine tr_skip (tr_thenN (tr_region (tq (y_move rfl) (tq (y_move rfl) (tq (y_nil rfl) (tq (y_fa (off := 0) Tryz.runUnderlying86 fo_86_0 rfl) ?_))))));obtain ⟨y8, k9, H⟩ := H;refine tr_h (y_ld Tryz.isAgg84 rfl) k9 rfl rfl (tq (y_move rfl) (tr_e (f_buildL (cs := #[(.pointer r5)]) rfl rfl (bl_84_1_0 r5) H) rfl rfl ?_));rintro _ h10 ⟨s11, rfl, H⟩;refine tr_e (f_app rfl H) rfl rfl ?_;rintro _ h12 ⟨s13, rfl, H⟩;refine tq (y_nil rfl) (tq (y_fa (off := 0) Tryz.runUnderlying86 fo_86_0 rfl) (tr_e (f_store (vs := [s13.enc]) Tryz.sizeOf84 rfl rfl rfl rfl (one1 rfl) H) rfl rfl ?_));rintro _ h14 ⟨rfl, H⟩;refine tr_nil (tr_blockN (tr_thenN (tr_region (tq (y_move rfl) (tq (y_add rfl rfl) (tq (y_assign rfl) (tr_nil (tr_thenN ?_))))))));exact tr_join [(0, (.int .i64 x0)), (1, (.int .i64 x1)), (6, (.pointer (some x6))), (7, (.int .i64 (IntKind.wrap .i64 (x7 + 1))))] ⟨rfl, rfl, rfl, rfl, trivial⟩ ⟨_, _, _, _, rfl, H⟩
   ·replace H := H.2 g3;refine tr_exit (tr_thenE (tr_thenE (tr_hit (tr_thenN (tr_seq (tr_region (tq (y_move rfl) (tq (y_assign rfl) (tq (y_assign rfl) (tr_nil (tr_thenN (tr_ret ?_))))))))))));exact tr_ret2 rfl rfl rfl ⟨_, _, rfl, H⟩
 ·refine tr_seq_j (fun L' h => ∃ (x0 : Int) (x1 : Int) (x15 : Bool), L' = [(0, (.int .i64 x0)), (1, (.int .i64 x1)), (15, (.bool x15))] ∧ F.xak.j3 Q x0 x1 x15 h) ?_ ?_
  ·rintro L' h ⟨x0, x1, x15, rfl, H⟩;unfold F.xak.j3 at H;refine tr_cond rfl (fun g16 => ?_) (fun g16 => ?_)
   ·replace H := H.1 g16;refine tr_seq (tr_region (tq (y_assign rfl) (tq (y_assign rfl) (tr_nil (tr_thenN (tr_ret (tr_thenR ?_)))))));exact tr_ret2 rfl rfl rfl ⟨_, _, rfl, H⟩
   ·replace H := H.2 g16;refine tr_skip (tr_thenN ?_);exact tr_join [(0, (.int .i64 x0)), (1, (.int .i64 x1))] ⟨rfl, rfl, trivial⟩ ⟨_, _, rfl, H⟩
  ·refine tr_region (tq (y_move rfl) (tq (y_lss rfl rfl) (tq (y_move rfl) ?_)));refine tr_split (t := 12) rfl (fun g17 => ?_) (fun g17 => ?_)
   ·replace H := H.1 g17;refine ts (ts (tq (y_pick_t rfl rfl) (tr_nil (tr_thenN ?_))));exact tr_join [(0, (.int .i64 p0)), (1, (.int .i64 p1)), (15, (.bool true))] ⟨rfl, rfl, rfl, trivial⟩ ⟨_, _, _, rfl, H⟩
   ·replace H := H.2 g17;refine tq (y_move rfl) (tq (y_gtr rfl rfl) (tq (y_pick_f rfl rfl) (tr_nil (tr_thenN ?_))));exact tr_join [(0, (.int .i64 p0)), (1, (.int .i64 p1)), (15, (.bool (decide (p0 > 16))))] ⟨rfl, rfl, rfl, trivial⟩ ⟨_, _, _, rfl, H⟩
def F.xbb.l1 (Q : Int -> H -> Prop) : Nat -> Int -> Sl -> Int -> Int -> H -> Prop
  | 0, _, _, _, _, _ => False
  | q1 + 1, x3, x7, x8, x9, h =>
    ((decide (x9 < x8)) = true ->
    idxA x7 x9 1 fun a4 =>
    ldI .u8 h a4 fun y6 =>
    (F.xbb.l1 Q q1) (IntKind.wrap .u64 ((bitsOf .xor .u64 x3 (IntKind.wrap .u64 y6)) * 1099511628211)) x7 x8 (IntKind.wrap .i64 (x9 + 1)) h) ∧
    ((decide (x9 < x8)) = false ->
    Q x3 h)
def F.xbb (p0 : ByteArray) (h : H) (Q : Int -> H -> Prop) : Prop :=
  runL PP (convert 9 93 (.string p0)) h fun s2 h1 =>
  ∃ m, F.xbb.l1 Q m 14695981039346656037 s2 (s2.len : Int) 0 h1
theorem F.xbb_ok {p0 : ByteArray} {h : H} {Q : Int -> H -> Prop} (H : F.xbb p0 h Q) : Fn PP 44 ([(.string p0)] : List Value).toArray h fun r h' => ∃ r0, r = (.int .u64 r0) ∧ Q r0 h' := by
 unfold F.xbb at H;refine fn_of Tryz.func44 Tryz.ntmps44 rfl rfl fun w0 => (tr_sub [(0, (.string p0))] ⟨rfl, trivial⟩ (tr_seq (tr_region (tq (y_assign rfl) (tr_nil (tr_thenN (tr_seq (tr_region (tq (y_assign rfl) (tr_nil (tr_thenN (tr_seq (tr_seq ?_)))))))))))));refine tr_region (tq (y_move rfl) (tr_e (f_cvtL rfl H) rfl rfl ?_));rintro _ h1 ⟨s2, rfl, H⟩;refine tq (y_len (ts := #[]) Tryz.runUnderlying93 (o := s2.ptr) (n := s2.len) (cap := s2.cap) rfl) (tq (y_move rfl) (tr_nil (tr_thenN (tr_block ?_))));obtain ⟨m8, H⟩ := H;refine tr_sub [(3, (.int .u64 14695981039346656037)), (7, s2.enc), (8, (.int .i64 (s2.len : Int))), (9, (.int .i64 0))] ⟨rfl, rfl, rfl, rfl, trivial⟩ ?_;refine tr_loop_j (fun m L' h => ∃ (x3 : Int) (x7 : Sl) (x8 : Int) (x9 : Int), L' = [(3, (.int .u64 x3)), (7, x7.enc), (8, (.int .i64 x8)), (9, (.int .i64 x9))] ∧ F.xbb.l1 Q m x3 x7 x8 x9 h) ?_ ?_ m8 ⟨_, _, _, _, rfl, H⟩
 ·rintro L' h ⟨_, _, _, _, _, H⟩; exact H
 ·rintro q1 L' h ⟨x3, x7, x8, x9, rfl, H⟩;unfold F.xbb.l1 at H;refine tr_seq (tr_region (tq (y_lss rfl rfl) (tr_nil (tr_thenN (tr_seq ?_)))));refine tr_cond rfl (fun g3 => ?_) (fun g3 => ?_)
  ·replace H := H.1 g3;refine tr_skip (tr_thenN (tr_seq (tr_block (tr_seq (tr_region ?_)))));obtain ⟨a4, e5, H⟩ := H;refine tq (f_idx (s := x7) Tryz.runUnderlying93 Tryz.sizeOf5 rfl rfl e5) ?_;obtain ⟨y6, k7, H⟩ := H;refine tr_h (y_ld Tryz.isAgg5 rfl) k7 rfl rfl (tq (y_assign rfl) (tr_nil (tr_thenN (tr_region (tq (y_move rfl) (tq (y_move rfl) (tq (y_cvt Tryz.runUnderlying5 Tryz.runUnderlying90 rfl) (tq (y_xor rfl rfl) (tq (y_mul rfl rfl) (tq (y_assign rfl) (tr_nil (tr_blockN (tr_thenN ?_)))))))))))));refine tr_region (tq (y_add rfl rfl) (tq (y_move rfl) (tr_nil (tr_thenN ?_))));exact tr_join [(3, (.int .u64 (IntKind.wrap .u64 ((bitsOf .xor .u64 x3 (IntKind.wrap .u64 y6)) * 1099511628211)))), (7, x7.enc), (8, (.int .i64 x8)), (9, (.int .i64 (IntKind.wrap .i64 (x9 + 1))))] ⟨rfl, rfl, rfl, rfl, trivial⟩ ⟨_, _, _, _, rfl, H⟩
  ·replace H := H.2 g3;refine tr_exit (tr_thenE (tr_thenE (tr_hit (tr_thenN (tr_seq (tr_region (tq (y_move rfl) (tq (y_assign rfl) (tr_nil (tr_thenN (tr_ret ?_)))))))))));exact tr_ret1 rfl rfl ⟨_, rfl, H⟩
def F.xbm (p0 : Option Addr) (p1 : ByteArray) (h : H) (Q : Int -> H -> Prop) : Prop :=
  nn p0 fun a1 =>
  ldL h (a1.add 0) fun y3 =>
  F.xbb p1 h fun r6 h5 =>
  cellH h5 (a1.add 0) = some y3.enc ∧
  ((IntKind.wrap .u64 (y3.len : Int)) : Int) ≠ 0 ∧
  Q (IntKind.wrap .i64 (Int.tmod r6 (IntKind.wrap .u64 (y3.len : Int)))) h5
theorem F.xbm_ok {p0 : Option Addr} {p1 : ByteArray} {h : H} {Q : Int -> H -> Prop} (H : F.xbm p0 p1 h Q) : Fn PP 10 ([(.pointer p0), (.string p1)] : List Value).toArray h fun r h' => ∃ r0, r = (.int .i64 r0) ∧ Q r0 h' := by
 unfold F.xbm at H;refine fn_of Tryz.func10 Tryz.ntmps10 rfl rfl fun w0 => (tr_sub [(0, (.pointer p0)), (1, (.string p1))] ⟨rfl, rfl, trivial⟩ (tr_seq (tr_region (tq (y_assign rfl) (tr_nil (tr_thenN (tr_seq (tr_draw mixed [0, 1, 0, 4, 12, 28, 60, 124, 255, 511, 1023] (by kernel_rfl) (g_p 0 1 rfl (by kernel_rfl) (y_move rfl) rfl rfl (g_p 2 5 rfl (by kernel_rfl) (y_move rfl) rfl rfl ?_))))))))));obtain ⟨a1, e2, H⟩ := H;refine g_p 3 13 rfl (by kernel_rfl) (f_nn rfl e2) rfl rfl (g_p 4 29 rfl (by kernel_rfl) (y_fa (off := 0) Tryz.runUnderlying83 fo_83_0 rfl) rfl rfl ?_);obtain ⟨y3, k4, H⟩ := H;refine g_h 5 61 rfl (by kernel_rfl) (y_ld Tryz.isAgg81 rfl) k4 rfl rfl (g_p 6 125 rfl (by kernel_rfl) (y_len (ts := #[]) Tryz.runUnderlying81 (o := y3.ptr) (n := y3.len) (cap := y3.cap) rfl) rfl rfl (g_p 7 253 rfl (by kernel_rfl) (y_cvt Tryz.runUnderlying3 Tryz.runUnderlying90 rfl) rfl rfl (g_e 1 255 [(5, fun h => cellH h (a1.add 0) = some y3.enc)] (by kernel_rfl) rfl (by kernel_rfl) (e_call Tryz.call44 rfl (F.xbb_ok H)) rfl rfl ?_)));rintro _ h5 ⟨r6, rfl, H⟩;obtain ⟨k7, H⟩ := H;refine ⟨And.intro k7 trivial, ?_⟩;obtain ⟨e8, H⟩ := H;refine g_p 8 511 rfl (by kernel_rfl) (y_rem rfl rfl e8) rfl rfl (g_p 9 1023 rfl (by kernel_rfl) (y_cvt Tryz.runUnderlying90 Tryz.runUnderlying3 rfl) rfl rfl (g_p 10 2047 rfl (by kernel_rfl) (y_assign rfl) rfl rfl (g_d (by kernel_rfl) (tr_thenN (tr_ret ?_)))));exact tr_ret1 rfl rfl ⟨_, rfl, H⟩
def F.xbe.l1 (Q : Int -> H -> Prop) : Nat -> ByteArray -> Int -> Int -> H -> Prop
  | 0, _, _, _, _ => False
  | q1 + 1, x0, x3, x4, h =>
    ((decide (x4 < (x0.size : Int))) = true ->
    idxS x0 x4 fun b2 =>
    (F.xbe.l1 Q q1) x0 (IntKind.wrap .u64 ((bitsOf .xor .u64 x3 (IntKind.wrap .u64 b2)) * 1099511628211)) (IntKind.wrap .i64 (x4 + 1)) h) ∧
    ((decide (x4 < (x0.size : Int))) = false ->
    Q x3 h)
def F.xbe (p0 : ByteArray) (h : H) (Q : Int -> H -> Prop) : Prop :=
  ∃ m, F.xbe.l1 Q m p0 14695981039346656037 0 h
theorem F.xbe_ok {p0 : ByteArray} {h : H} {Q : Int -> H -> Prop} (H : F.xbe p0 h Q) : Fn PP 45 ([(.string p0)] : List Value).toArray h fun r h' => ∃ r0, r = (.int .u64 r0) ∧ Q r0 h' := by
 unfold F.xbe at H;refine fn_of Tryz.func45 Tryz.ntmps45 rfl rfl fun w0 => (tr_sub [(0, (.string p0))] ⟨rfl, trivial⟩ (tr_seq (tr_region (tq (y_assign rfl) (tr_nil (tr_thenN (tr_seq (tr_region (tq (y_assign rfl) (tr_nil (tr_thenN (tr_seq (tr_seq ?_)))))))))))));refine tr_region (tq (y_assign rfl) (tr_nil (tr_thenN (tr_block ?_))));obtain ⟨m4, H⟩ := H;refine tr_sub [(0, (.string p0)), (3, (.int .u64 14695981039346656037)), (4, (.int .i64 0))] ⟨rfl, rfl, rfl, trivial⟩ ?_;refine tr_loop_j (fun m L' h => ∃ (x0 : ByteArray) (x3 : Int) (x4 : Int), L' = [(0, (.string x0)), (3, (.int .u64 x3)), (4, (.int .i64 x4))] ∧ F.xbe.l1 Q m x0 x3 x4 h) ?_ ?_ m4 ⟨_, _, _, rfl, H⟩
 ·rintro L' h ⟨_, _, _, _, H⟩; exact H
 ·rintro q1 L' h ⟨x0, x3, x4, rfl, H⟩;unfold F.xbe.l1 at H;refine tr_seq (tr_seq (tr_region (tq (y_move rfl) (tq (y_move rfl) (tq (y_lenS Tryz.runUnderlying9 rfl) (tq (y_lss rfl rfl) (tr_nil (tr_thenN ?_))))))));refine tr_cond rfl (fun g1 => ?_) (fun g1 => ?_)
  ·replace H := H.1 g1;refine tr_skip (tr_thenN (tr_seq (tr_block (tr_region (tq (y_move rfl) (tq (y_move rfl) (tq (y_move rfl) ?_)))))));obtain ⟨b2, e3, H⟩ := H;refine tq (f_idxS Tryz.runUnderlying9 rfl rfl e3) (tq (y_cvt Tryz.runUnderlying5 Tryz.runUnderlying90 rfl) (tq (y_xor rfl rfl) (tq (y_mul rfl rfl) (tq (y_assign rfl) (tr_nil (tr_blockN (tr_thenN (tr_region (tq (y_move rfl) (tq (y_add rfl rfl) (tq (y_assign rfl) (tr_nil (tr_thenN ?_)))))))))))));exact tr_join [(0, (.string x0)), (3, (.int .u64 (IntKind.wrap .u64 ((bitsOf .xor .u64 x3 (IntKind.wrap .u64 b2)) * 1099511628211)))), (4, (.int .i64 (IntKind.wrap .i64 (x4 + 1))))] ⟨rfl, rfl, rfl, trivial⟩ ⟨_, _, _, rfl, H⟩
  ·replace H := H.2 g1;refine tr_exit (tr_thenE (tr_thenE (tr_hit (tr_thenN (tr_seq (tr_region (tq (y_move rfl) (tq (y_assign rfl) (tr_nil (tr_thenN (tr_ret ?_)))))))))));exact tr_ret1 rfl rfl ⟨_, rfl, H⟩
def F.xcb (p0 : Option Addr) (p1 : ByteArray) (h : H) (Q : Int -> H -> Prop) : Prop :=
  nn p0 fun a1 =>
  ldL h (a1.add 0) fun y3 =>
  F.xbe p1 h fun r6 h5 =>
  cellH h5 (a1.add 0) = some y3.enc ∧
  ((IntKind.wrap .u64 (y3.len : Int)) : Int) ≠ 0 ∧
  Q (IntKind.wrap .i64 (Int.tmod r6 (IntKind.wrap .u64 (y3.len : Int)))) h5
theorem F.xcb_ok {p0 : Option Addr} {p1 : ByteArray} {h : H} {Q : Int -> H -> Prop} (H : F.xcb p0 p1 h Q) : Fn PP 11 ([(.pointer p0), (.string p1)] : List Value).toArray h fun r h' => ∃ r0, r = (.int .i64 r0) ∧ Q r0 h' := by
 unfold F.xcb at H;refine fn_of Tryz.func11 Tryz.ntmps11 rfl rfl fun w0 => (tr_sub [(0, (.pointer p0)), (1, (.string p1))] ⟨rfl, rfl, trivial⟩ (tr_seq (tr_region (tq (y_assign rfl) (tr_nil (tr_thenN (tr_seq (tr_draw mixed [0, 1, 0, 4, 12, 28, 60, 124, 255, 511, 1023] (by kernel_rfl) (g_p 0 1 rfl (by kernel_rfl) (y_move rfl) rfl rfl (g_p 2 5 rfl (by kernel_rfl) (y_move rfl) rfl rfl ?_))))))))));obtain ⟨a1, e2, H⟩ := H;refine g_p 3 13 rfl (by kernel_rfl) (f_nn rfl e2) rfl rfl (g_p 4 29 rfl (by kernel_rfl) (y_fa (off := 0) Tryz.runUnderlying86 fo_86_0 rfl) rfl rfl ?_);obtain ⟨y3, k4, H⟩ := H;refine g_h 5 61 rfl (by kernel_rfl) (y_ld Tryz.isAgg84 rfl) k4 rfl rfl (g_p 6 125 rfl (by kernel_rfl) (y_len (ts := #[]) Tryz.runUnderlying84 (o := y3.ptr) (n := y3.len) (cap := y3.cap) rfl) rfl rfl (g_p 7 253 rfl (by kernel_rfl) (y_cvt Tryz.runUnderlying3 Tryz.runUnderlying90 rfl) rfl rfl (g_e 1 255 [(5, fun h => cellH h (a1.add 0) = some y3.enc)] (by kernel_rfl) rfl (by kernel_rfl) (e_call Tryz.call45 rfl (F.xbe_ok H)) rfl rfl ?_)));rintro _ h5 ⟨r6, rfl, H⟩;obtain ⟨k7, H⟩ := H;refine ⟨And.intro k7 trivial, ?_⟩;obtain ⟨e8, H⟩ := H;refine g_p 8 511 rfl (by kernel_rfl) (y_rem rfl rfl e8) rfl rfl (g_p 9 1023 rfl (by kernel_rfl) (y_cvt Tryz.runUnderlying90 Tryz.runUnderlying3 rfl) rfl rfl (g_p 10 2047 rfl (by kernel_rfl) (y_assign rfl) rfl rfl (g_d (by kernel_rfl) (tr_thenN (tr_ret ?_)))));exact tr_ret1 rfl rfl ⟨_, rfl, H⟩
def F.xbw (p0 : Int) (h : H) (Q : S_api_Agg -> H -> Prop) : Prop :=
  new h (((⟨0, 0, 0, 0⟩ : S_api_Agg) : S_api_Agg).cells.toArray) ty_40 fun a2 h1 =>
  stH h1 a2 ((⟨1, p0, p0, p0⟩ : S_api_Agg).cells) fun h3 =>
  ld_S_api_Agg h3 a2 fun y4 =>
  Q y4 h3
theorem F.xbw_ok {p0 : Int} {h : H} {Q : S_api_Agg -> H -> Prop} (H : F.xbw p0 h Q) : Fn PP 16 ([(.int .i64 p0)] : List Value).toArray h fun r h' => ∃ r0, r = (.agg r0.cells.toArray) ∧ Q r0 h' := by
 unfold F.xbw at H;refine fn_of Tryz.func16 Tryz.ntmps16 rfl rfl fun w0 => (tr_sub [(0, (.int .i64 p0))] ⟨rfl, trivial⟩ (tr_seq (tr_region (tr_e (f_alloc (cs := ((⟨0, 0, 0, 0⟩ : S_api_Agg) : S_api_Agg).cells.toArray) Tryz.zeroValue40 rfl H) rfl rfl ?_))));rintro _ h1 ⟨a2, rfl, H⟩;refine tr_nil (tr_thenN (tr_seq (tr_region (tq (y_move rfl) (tq (y_move rfl) (tq (y_move rfl) (tq (f_build rfl (bd_40_0_1_2_3 1 p0 p0 p0)) (tr_e (f_store (vs := (⟨1, p0, p0, p0⟩ : S_api_Agg).cells) Tryz.sizeOf40 rfl rfl cellsOfStruct rfl (by intro v hv; exact ones_S_api_Agg _ v hv) H) rfl rfl ?_))))))));rintro _ h3 ⟨rfl, H⟩;refine tr_nil (tr_thenN (tr_ret ?_));obtain ⟨y4, k5, H⟩ := H;exact tr_rv1 rfl (rv_cellS Tryz.isAgg40 Tryz.sizeOf40 rfl rfl k5) ⟨_, rfl, H⟩
def F.xbz (p0 : Option Addr) (p1 : S_api_Cell) (h : H) (Q : (Option Addr) -> H -> Prop) : Prop :=
  new h p1.cells.toArray ty_35 fun a2 h1 =>
  nn p0 fun a3 =>
  ldL h1 (a3.add 0) fun y5 =>
  ldS h1 (a2.add 1) fun y7 =>
  F.xbm p0 y7 h1 fun r10 h9 =>
  cellH h9 (a3.add 0) = some y5.enc ∧
  idxA y5 r10 1 fun a12 =>
  ldP h9 a12 fun y14 =>
  Q y14 h9
theorem F.xbz_ok {p0 : Option Addr} {p1 : S_api_Cell} {h : H} {Q : (Option Addr) -> H -> Prop} (H : F.xbz p0 p1 h Q) : Fn PP 46 ([(.pointer p0), (.agg p1.cells.toArray)] : List Value).toArray h fun r h' => ∃ r0, r = (.pointer r0) ∧ Q r0 h' := by
 unfold F.xbz at H;refine fn_of Tryz.func46 Tryz.ntmps46 rfl rfl fun w0 => (tr_sub [(0, (.pointer p0)), (1, (.agg p1.cells.toArray))] ⟨rfl, rfl, trivial⟩ (tr_seq (tr_region (tr_e (f_box (cs := p1.cells.toArray) rfl rfl H) rfl rfl ?_))));rintro _ h1 ⟨a2, rfl, H⟩;refine tq (y_assign rfl) (tr_nil (tr_thenN (tr_seq (tr_draw mixed [0, 1, 3, 7, 0, 0, 32, 112, 255, 511, 1023] (by kernel_rfl) (g_p 0 1 rfl (by kernel_rfl) (y_move rfl) rfl rfl ?_)))));obtain ⟨a3, e4, H⟩ := H;refine g_p 1 3 rfl (by kernel_rfl) (f_nn rfl e4) rfl rfl (g_p 2 7 rfl (by kernel_rfl) (y_fa (off := 0) Tryz.runUnderlying83 fo_83_0 rfl) rfl rfl ?_);obtain ⟨y5, k6, H⟩ := H;refine g_h 3 15 rfl (by kernel_rfl) (y_ld Tryz.isAgg81 rfl) k6 rfl rfl (g_p 4 31 rfl (by kernel_rfl) (y_move rfl) rfl rfl (g_p 5 63 rfl (by kernel_rfl) (y_fa (off := 1) Tryz.runUnderlying35 fo_35_1 rfl) rfl rfl ?_));obtain ⟨y7, k8, H⟩ := H;refine g_h 6 127 rfl (by kernel_rfl) (y_ld Tryz.isAgg9 rfl) k8 rfl rfl (g_e 7 255 [(3, fun h => cellH h (a3.add 0) = some y5.enc)] (by kernel_rfl) rfl (by kernel_rfl) (e_call Tryz.call10 rfl (F.xbm_ok H)) rfl rfl ?_);rintro _ h9 ⟨r10, rfl, H⟩;obtain ⟨k11, H⟩ := H;refine ⟨And.intro k11 trivial, ?_⟩;obtain ⟨a12, e13, H⟩ := H;refine g_p 8 511 rfl (by kernel_rfl) (f_idx (s := y5) Tryz.runUnderlying81 Tryz.sizeOf64 rfl rfl e13) rfl rfl ?_;obtain ⟨y14, k15, H⟩ := H;refine g_h 9 1023 rfl (by kernel_rfl) (y_ld Tryz.isAgg64 rfl) k15 rfl rfl (g_p 10 2047 rfl (by kernel_rfl) (y_assign rfl) rfl rfl (g_d (by kernel_rfl) (tr_thenN (tr_ret ?_))));exact tr_ret1 rfl rfl ⟨_, rfl, H⟩
def F.xaq.j2 (Q : Int -> H -> Prop) (x17 : Bool) (h : H) : Prop :=
  (x17 = true ->
  Q 22 h) ∧
  (x17 = false ->
  Q 0 h)
def F.xaq.j1 (Q : Int -> H -> Prop) (x1 : Addr) (x3 : Bool) (h : H) : Prop :=
  (x3 = true ->
  Q 23 h) ∧
  (x3 = false ->
  ldS h (x1.add 1) fun y4 =>
  ((decide ((y4.size : Int) > 32)) = true ->
  Q 21 h) ∧
  ((decide ((y4.size : Int) > 32)) = false ->
  ldI .i64 h (x1.add 2) fun y8 =>
  ((decide (y8 < (-2305843009213693952))) = true ->
  F.xaq.j2 Q true h) ∧
  ((decide (y8 < (-2305843009213693952))) = false ->
  ldI .i64 h (x1.add 2) fun y11 =>
  F.xaq.j2 Q (decide (y11 > 2305843009213693952)) h)))
def F.xaq (p0 : S_api_Cell) (h : H) (Q : Int -> H -> Prop) : Prop :=
  new h p0.cells.toArray ty_35 fun a2 h1 =>
  ldI .i64 h1 (a2.add 0) fun y13 =>
  ((decide (y13 < 0)) = true ->
  F.xaq.j1 Q a2 true h1) ∧
  ((decide (y13 < 0)) = false ->
  ldI .i64 h1 (a2.add 0) fun y16 =>
  F.xaq.j1 Q a2 (decide (y16 > 4)) h1)
theorem F.xaq_ok {p0 : S_api_Cell} {h : H} {Q : Int -> H -> Prop} (H : F.xaq p0 h Q) : Fn PP 109 ([(.agg p0.cells.toArray)] : List Value).toArray h fun r h' => ∃ r0, r = (.int .i64 r0) ∧ Q r0 h' := by
 unfold F.xaq at H;refine fn_of Tryz.func109 Tryz.ntmps109 rfl rfl fun w0 => (tr_sub [(0, (.agg p0.cells.toArray))] ⟨rfl, trivial⟩ (tr_seq (tr_region (tr_e (f_box (cs := p0.cells.toArray) rfl rfl H) rfl rfl ?_))));rintro _ h1 ⟨a2, rfl, H⟩;refine tq (y_assign rfl) (tr_nil (tr_thenN (tr_seq (tr_block ?_))));refine tr_seq_j (fun L' h => ∃ (x1 : Addr) (x3 : Bool), L' = [(1, (.pointer (some x1))), (3, (.bool x3))] ∧ F.xaq.j1 Q x1 x3 h) ?_ ?_
 ·rintro L' h ⟨x1, x3, rfl, H⟩;unfold F.xaq.j1 at H;refine tr_cond rfl (fun g3 => ?_) (fun g3 => ?_)
  ·replace H := H.1 g3;refine tr_seq (tr_region (tq (y_assign rfl) (tr_nil (tr_thenN (tr_ret (tr_blockR (tr_thenR ?_)))))));exact tr_ret1 rfl rfl ⟨_, rfl, H⟩
  ·replace H := H.2 g3;refine tr_seq (tr_region (tq (y_fa (off := 1) Tryz.runUnderlying35 fo_35_1 rfl) ?_));obtain ⟨y4, k5, H⟩ := H;refine tr_h (y_ld Tryz.isAgg9 rfl) k5 rfl rfl (tq (y_lenS Tryz.runUnderlying9 rfl) (tq (y_gtr rfl rfl) (tq (y_assign rfl) (tr_nil (tr_thenN ?_)))));refine tr_cond rfl (fun g6 => ?_) (fun g6 => ?_)
   ·replace H := H.1 g6;refine tr_seq (tr_region (tq (y_assign rfl) (tr_nil (tr_thenN (tr_ret (tr_blockR (tr_thenR ?_)))))));exact tr_ret1 rfl rfl ⟨_, rfl, H⟩
   ·replace H := H.2 g6;refine tr_seq_j (fun L' h => ∃ (x17 : Bool), L' = [(17, (.bool x17))] ∧ F.xaq.j2 Q x17 h) ?_ ?_
    ·rintro L' h ⟨x17, rfl, H⟩;unfold F.xaq.j2 at H;refine tr_cond rfl (fun g7 => ?_) (fun g7 => ?_)
     ·replace H := H.1 g7;refine tr_seq (tr_region (tq (y_assign rfl) (tr_nil (tr_thenN (tr_ret (tr_blockR (tr_thenR ?_)))))));exact tr_ret1 rfl rfl ⟨_, rfl, H⟩
     ·replace H := H.2 g7;refine tr_skip (tr_blockN (tr_thenN (tr_seq (tr_region (tq (y_assign rfl) (tr_nil (tr_thenN (tr_ret ?_))))))));exact tr_ret1 rfl rfl ⟨_, rfl, H⟩
    ·refine tr_region (tq (y_fa (off := 2) Tryz.runUnderlying35 fo_35_2 rfl) ?_);obtain ⟨y8, k9, H⟩ := H;refine tr_h (y_ld Tryz.isAgg2 rfl) k9 rfl rfl (tq (y_lss rfl rfl) (tq (y_move rfl) ?_));refine tr_split (t := 21) rfl (fun g10 => ?_) (fun g10 => ?_)
     ·replace H := H.1 g10;refine ts (ts (ts (tq (y_pick_t rfl rfl) (tq (y_assign rfl) (tr_nil (tr_thenN ?_))))));exact tr_join [(17, (.bool true))] ⟨rfl, trivial⟩ ⟨_, rfl, H⟩
     ·replace H := H.2 g10;refine tq (y_fa (off := 2) Tryz.runUnderlying35 fo_35_2 rfl) ?_;obtain ⟨y11, k12, H⟩ := H;refine tr_h (y_ld Tryz.isAgg2 rfl) k12 rfl rfl (tq (y_gtr rfl rfl) (tq (y_pick_f rfl rfl) (tq (y_assign rfl) (tr_nil (tr_thenN ?_)))));exact tr_join [(17, (.bool (decide (y11 > 2305843009213693952))))] ⟨rfl, trivial⟩ ⟨_, rfl, H⟩
 ·refine tr_region (tq (y_fa (off := 0) Tryz.runUnderlying35 fo_35_0 rfl) ?_);obtain ⟨y13, k14, H⟩ := H;refine tr_h (y_ld Tryz.isAgg3 rfl) k14 rfl rfl (tq (y_lss rfl rfl) (tq (y_move rfl) ?_));refine tr_split (t := 7) rfl (fun g15 => ?_) (fun g15 => ?_)
  ·replace H := H.1 g15;refine ts (ts (ts (tq (y_pick_t rfl rfl) (tq (y_assign rfl) (tr_nil (tr_thenN ?_))))));exact tr_join [(1, (.pointer (some a2))), (3, (.bool true))] ⟨rfl, rfl, trivial⟩ ⟨_, _, rfl, H⟩
  ·replace H := H.2 g15;refine tq (y_fa (off := 0) Tryz.runUnderlying35 fo_35_0 rfl) ?_;obtain ⟨y16, k17, H⟩ := H;refine tr_h (y_ld Tryz.isAgg3 rfl) k17 rfl rfl (tq (y_gtr rfl rfl) (tq (y_pick_f rfl rfl) (tq (y_assign rfl) (tr_nil (tr_thenN ?_)))));exact tr_join [(1, (.pointer (some a2))), (3, (.bool (decide (y16 > 4))))] ⟨rfl, rfl, trivial⟩ ⟨_, _, rfl, H⟩
def F.xap.l2 (Q : ByteArray -> Int -> H -> Prop) : Nat -> Sl -> Int -> Int -> H -> Prop
  | 0, _, _, _, _ => False
  | q2 + 1, x5, x7, x8, h =>
    ((decide (x8 >= 0)) = true ->
    0 <= (x8 : Int) ∧
    newL h #[(.int .u8 (IntKind.wrap .u8 (Int.fdiv x7 (2 ^ (min (x8 : Int).toNat (IntKind.bits .u64)) : Int))))] ty_5 1 fun s41 h40 =>
    runL PP (Builtin.append_ #[93, 93] 93 #[x5.enc, s41.enc]) h40 fun s43 h42 =>
    (F.xap.l2 Q q2) s43 x7 (IntKind.wrap .i64 (x8 - 8)) h42) ∧
    ((decide (x8 >= 0)) = false ->
    runT PP (convert 93 9 x5.enc) h fun s45 h44 =>
    Q s45 0 h44)
def F.xap.l1 (Q : ByteArray -> Int -> H -> Prop) : Nat -> Addr -> Sl -> Int -> Int -> H -> Prop
  | 0, _, _, _, _, _ => False
  | q1 + 1, x1, x5, x20, x21, h =>
    ((decide (x21 < x20)) = true ->
    ldS h (x1.add 1) fun y15 =>
    idxS y15 x21 fun b17 =>
    newL h #[(.int .u8 b17)] ty_5 1 fun s20 h19 =>
    runL PP (Builtin.append_ #[93, 93] 93 #[x5.enc, s20.enc]) h19 fun s22 h21 =>
    ldS h21 (x1.add 1) fun y23 =>
    idxS y23 x21 fun b25 =>
    (((b25 == 0)) = true ->
    newL h21 #[(.int .u8 255)] ty_5 1 fun s29 h28 =>
    runL PP (Builtin.append_ #[93, 93] 93 #[s22.enc, s29.enc]) h28 fun s31 h30 =>
    (F.xap.l1 Q q1) x1 s31 x20 (IntKind.wrap .i64 (x21 + 1)) h30) ∧
    (((b25 == 0)) = false ->
    (F.xap.l1 Q q1) x1 s22 x20 (IntKind.wrap .i64 (x21 + 1)) h21)) ∧
    ((decide (x21 < x20)) = false ->
    newL h #[(.int .u8 0), (.int .u8 1)] ty_5 2 fun s33 h32 =>
    runL PP (Builtin.append_ #[93, 93] 93 #[x5.enc, s33.enc]) h32 fun s35 h34 =>
    ldI .i64 h34 (x1.add 2) fun y36 =>
    ∃ m, F.xap.l2 Q m s35 (IntKind.wrap .u64 ((IntKind.wrap .u64 y36) + 9223372036854775808)) 56 h34)
def F.xap (p0 : S_api_Cell) (h : H) (Q : ByteArray -> Int -> H -> Prop) : Prop :=
  new h p0.cells.toArray ty_35 fun a2 h1 =>
  ld_S_api_Cell h1 a2 fun y3 =>
  F.xaq y3 h1 fun r6 h5 =>
  (((r6 != 0)) = true ->
  Q (⟨#[]⟩ : ByteArray) r6 h5) ∧
  (((r6 != 0)) = false ->
  ldI .i64 h5 (a2.add 0) fun y8 =>
  newL h5 #[(.int .u8 (IntKind.wrap .u8 y8))] ty_5 1 fun s11 h10 =>
  ldS h10 (a2.add 1) fun y12 =>
  ∃ m, F.xap.l1 Q m a2 s11 (y12.size : Int) 0 h10)
theorem F.xap_ok {p0 : S_api_Cell} {h : H} {Q : ByteArray -> Int -> H -> Prop} (H : F.xap p0 h Q) : Fn PP 94 ([(.agg p0.cells.toArray)] : List Value).toArray h fun r h' => ∃ r0 r1, r = .tuple #[(.string r0), (.int .i64 r1)] ∧ Q r0 r1 h' := by
 unfold F.xap at H;refine fn_of Tryz.func94 Tryz.ntmps94 rfl rfl fun w0 => (tr_sub [(0, (.agg p0.cells.toArray))] ⟨rfl, trivial⟩ (tr_seq (tr_region (tr_e (f_box (cs := p0.cells.toArray) rfl rfl H) rfl rfl ?_))));rintro _ h1 ⟨a2, rfl, H⟩;refine tq (y_assign rfl) (tq (y_assign rfl) (tr_nil (tr_thenN (tr_seq (tr_seq (tr_region ?_))))));obtain ⟨y3, k4, H⟩ := H;refine tr_h (y_ldS Tryz.isAgg35 Tryz.sizeOf35 rfl rfl) k4 rfl rfl (tr_e (e_call Tryz.call109 rfl (F.xaq_ok H)) rfl rfl ?_);rintro _ h5 ⟨r6, rfl, H⟩;refine tq (y_assign rfl) (tr_nil (tr_thenN (tr_seq (tr_region (tq (y_move rfl) (tq (y_neq rfl rfl) (tr_nil (tr_thenN ?_))))))));refine tr_cond rfl (fun g7 => ?_) (fun g7 => ?_)
 ·replace H := H.1 g7;refine tr_seq (tr_region (tq (y_move rfl) (tq (y_assign rfl) (tq (y_assign rfl) (tr_nil (tr_thenN (tr_ret (tr_thenR ?_))))))));exact tr_ret2 rfl rfl rfl ⟨_, _, rfl, H⟩
 ·replace H := H.2 g7;refine tr_skip (tr_thenN (tr_seq (tr_region (tq (y_fa (off := 0) Tryz.runUnderlying35 fo_35_0 rfl) ?_))));obtain ⟨y8, k9, H⟩ := H;refine tr_h (y_ld Tryz.isAgg3 rfl) k9 rfl rfl (tq (y_cvt Tryz.runUnderlying3 Tryz.runUnderlying5 rfl) (tr_e (f_buildL (cs := #[(.int .u8 (IntKind.wrap .u8 y8))]) rfl rfl (bl_93_1_0 (IntKind.wrap .u8 y8)) H) rfl rfl ?_));rintro _ h10 ⟨s11, rfl, H⟩;refine tq (y_assign rfl) (tr_nil (tr_thenN (tr_seq (tr_seq (tr_region (tq (y_fa (off := 1) Tryz.runUnderlying35 fo_35_1 rfl) ?_))))));obtain ⟨y12, k13, H⟩ := H;refine tr_h (y_ld Tryz.isAgg9 rfl) k13 rfl rfl (tq (y_lenS Tryz.runUnderlying9 rfl) (tq (y_move rfl) (tr_nil (tr_thenN (tr_block ?_)))));obtain ⟨m47, H⟩ := H;refine tr_sub [(1, (.pointer (some a2))), (5, s11.enc), (20, (.int .i64 (y12.size : Int))), (21, (.int .i64 0))] ⟨rfl, rfl, rfl, rfl, trivial⟩ ?_;refine tr_loop_j (fun m L' h => ∃ (x1 : Addr) (x5 : Sl) (x20 : Int) (x21 : Int), L' = [(1, (.pointer (some x1))), (5, x5.enc), (20, (.int .i64 x20)), (21, (.int .i64 x21))] ∧ F.xap.l1 Q m x1 x5 x20 x21 h) ?_ ?_ m47 ⟨_, _, _, _, rfl, H⟩
  ·rintro L' h ⟨_, _, _, _, _, H⟩; exact H
  ·rintro q1 L' h ⟨x1, x5, x20, x21, rfl, H⟩;unfold F.xap.l1 at H;refine tr_seq (tr_region (tq (y_lss rfl rfl) (tr_nil (tr_thenN (tr_seq ?_)))));refine tr_cond rfl (fun g14 => ?_) (fun g14 => ?_)
   ·replace H := H.1 g14;refine tr_skip (tr_thenN (tr_seq (tr_block (tr_seq (tr_region (tq (y_move rfl) (tq (y_assign rfl) (tr_nil (tr_thenN (tr_seq (tr_region (tq (y_move rfl) (tq (y_fa (off := 1) Tryz.runUnderlying35 fo_35_1 rfl) ?_)))))))))))));obtain ⟨y15, k16, H⟩ := H;refine tr_h (y_ld Tryz.isAgg9 rfl) k16 rfl rfl (tq (y_move rfl) ?_);obtain ⟨b17, e18, H⟩ := H;refine tq (f_idxS Tryz.runUnderlying9 rfl rfl e18) (tr_e (f_buildL (cs := #[(.int .u8 b17)]) rfl rfl (bl_93_1_0 b17) H) rfl rfl ?_);rintro _ h19 ⟨s20, rfl, H⟩;refine tr_e (f_app rfl H) rfl rfl ?_;rintro _ h21 ⟨s22, rfl, H⟩;refine tq (y_assign rfl) (tr_nil (tr_thenN (tr_seq (tr_region (tq (y_fa (off := 1) Tryz.runUnderlying35 fo_35_1 rfl) ?_)))));obtain ⟨y23, k24, H⟩ := H;refine tr_h (y_ld Tryz.isAgg9 rfl) k24 rfl rfl (tq (y_move rfl) ?_);obtain ⟨b25, e26, H⟩ := H;refine tq (f_idxS Tryz.runUnderlying9 rfl rfl e26) (tq (y_eql rfl rfl) (tr_nil (tr_thenN ?_)));refine tr_cond rfl (fun g27 => ?_) (fun g27 => ?_)
    ·replace H := H.1 g27;refine tr_region (tq (y_move rfl) (tr_e (f_buildL (cs := #[(.int .u8 255)]) rfl rfl (bl_93_1_0 255) H) rfl rfl ?_));rintro _ h28 ⟨s29, rfl, H⟩;refine tr_e (f_app rfl H) rfl rfl ?_;rintro _ h30 ⟨s31, rfl, H⟩;refine tq (y_assign rfl) (tr_nil (tr_blockN (tr_thenN (tr_region (tq (y_add rfl rfl) (tq (y_move rfl) (tr_nil (tr_thenN ?_))))))));exact tr_join [(1, (.pointer (some x1))), (5, s31.enc), (20, (.int .i64 x20)), (21, (.int .i64 (IntKind.wrap .i64 (x21 + 1))))] ⟨rfl, rfl, rfl, rfl, trivial⟩ ⟨_, _, _, _, rfl, H⟩
    ·replace H := H.2 g27;refine tr_skip (tr_blockN (tr_thenN (tr_region (tq (y_add rfl rfl) (tq (y_move rfl) (tr_nil (tr_thenN ?_)))))));exact tr_join [(1, (.pointer (some x1))), (5, s22.enc), (20, (.int .i64 x20)), (21, (.int .i64 (IntKind.wrap .i64 (x21 + 1))))] ⟨rfl, rfl, rfl, rfl, trivial⟩ ⟨_, _, _, _, rfl, H⟩
   ·replace H := H.2 g14;refine tr_exit (tr_thenE (tr_thenE (tr_hit (tr_thenN (tr_seq (tr_region (tq (y_move rfl) (tr_e (f_buildL (cs := #[(.int .u8 0), (.int .u8 1)]) rfl rfl (bl_93_2_0_1 0 1) H) rfl rfl ?_))))))));rintro _ h32 ⟨s33, rfl, H⟩;refine tr_e (f_app rfl H) rfl rfl ?_;rintro _ h34 ⟨s35, rfl, H⟩;refine tq (y_assign rfl) (tr_nil (tr_thenN (tr_seq (tr_region (tq (y_fa (off := 2) Tryz.runUnderlying35 fo_35_2 rfl) ?_)))));obtain ⟨y36, k37, H⟩ := H;refine tr_h (y_ld Tryz.isAgg2 rfl) k37 rfl rfl (tq (y_cvt Tryz.runUnderlying2 Tryz.runUnderlying90 rfl) (tq (y_add rfl rfl) (tq (y_assign rfl) (tr_nil (tr_thenN (tr_seq (tr_seq (tr_region (tq (y_assign rfl) (tr_nil (tr_thenN (tr_block ?_))))))))))));obtain ⟨m46, H⟩ := H;refine tr_sub [(5, s35.enc), (7, (.int .u64 (IntKind.wrap .u64 ((IntKind.wrap .u64 y36) + 9223372036854775808)))), (8, (.int .i64 56))] ⟨rfl, rfl, rfl, trivial⟩ ?_;refine tr_loop_j (fun m L' h => ∃ (x5 : Sl) (x7 : Int) (x8 : Int), L' = [(5, x5.enc), (7, (.int .u64 x7)), (8, (.int .i64 x8))] ∧ F.xap.l2 Q m x5 x7 x8 h) ?_ ?_ m46 ⟨_, _, _, rfl, H⟩
    ·rintro L' h ⟨_, _, _, _, H⟩; exact H
    ·rintro q2 L' h ⟨x5, x7, x8, rfl, H⟩;unfold F.xap.l2 at H;refine tr_seq (tr_seq (tr_region (tq (y_move rfl) (tq (y_geq rfl rfl) (tr_nil (tr_thenN ?_))))));refine tr_cond rfl (fun g38 => ?_) (fun g38 => ?_)
     ·replace H := H.1 g38;refine tr_skip (tr_thenN (tr_seq (tr_block (tr_region (tq (y_move rfl) (tq (y_move rfl) (tq (y_move rfl) ?_)))))));obtain ⟨e39, H⟩ := H;refine tq (y_shr rfl rfl e39) (tq (y_cvt Tryz.runUnderlying90 Tryz.runUnderlying5 rfl) (tr_e (f_buildL (cs := #[(.int .u8 (IntKind.wrap .u8 (Int.fdiv x7 (2 ^ (min (x8 : Int).toNat (IntKind.bits .u64)) : Int))))]) rfl rfl (bl_93_1_0 (IntKind.wrap .u8 (Int.fdiv x7 (2 ^ (min (x8 : Int).toNat (IntKind.bits .u64)) : Int)))) H) rfl rfl ?_));rintro _ h40 ⟨s41, rfl, H⟩;refine tr_e (f_app rfl H) rfl rfl ?_;rintro _ h42 ⟨s43, rfl, H⟩;refine tq (y_assign rfl) (tr_nil (tr_blockN (tr_thenN (tr_region (tq (y_move rfl) (tq (y_sub rfl rfl) (tq (y_assign rfl) (tr_nil (tr_thenN ?_)))))))));exact tr_join [(5, s43.enc), (7, (.int .u64 x7)), (8, (.int .i64 (IntKind.wrap .i64 (x8 - 8))))] ⟨rfl, rfl, rfl, trivial⟩ ⟨_, _, _, rfl, H⟩
     ·replace H := H.2 g38;refine tr_exit (tr_thenE (tr_thenE (tr_hit (tr_thenN (tr_seq (tr_region (tq (y_move rfl) (tr_e (f_cvtT rfl H) rfl rfl ?_))))))));rintro _ h44 ⟨s45, rfl, H⟩;refine tq (y_assign rfl) (tq (y_assign rfl) (tr_nil (tr_thenN (tr_ret ?_))));exact tr_ret2 rfl rfl rfl ⟨_, _, rfl, H⟩
def F.xaf.j1 (Q : ByteArray -> Int -> H -> Prop) (x1 : Addr) (h : H) : Prop :=
  ld_S_api_Cell h x1 fun y3 =>
  F.xap y3 h fun r6 r7 h5 =>
  Q r6 r7 h5
def F.xaf.j4 (Q : ByteArray -> Int -> H -> Prop) (x1 : Addr) (x24 : Bool) (h : H) : Prop :=
  (x24 = true ->
  Q (⟨#[]⟩ : ByteArray) 22 h) ∧
  (x24 = false ->
  F.xaf.j1 Q x1 h)
def F.xaf.j3 (Q : ByteArray -> Int -> H -> Prop) (x1 : Addr) (x13 : Bool) (h : H) : Prop :=
  (x13 = true ->
  Q (⟨#[]⟩ : ByteArray) 21 h) ∧
  (x13 = false ->
  ldI .i64 h (x1.add 2) fun y11 =>
  ((decide (y11 < (-2305843009213693952))) = true ->
  F.xaf.j4 Q x1 true h) ∧
  ((decide (y11 < (-2305843009213693952))) = false ->
  ldI .i64 h (x1.add 2) fun y14 =>
  F.xaf.j4 Q x1 (decide (y14 > 2305843009213693952)) h))
def F.xaf.j2 (Q : ByteArray -> Int -> H -> Prop) (x1 : Addr) (x4 : Bool) (h : H) : Prop :=
  (x4 = true ->
  Q (⟨#[]⟩ : ByteArray) 23 h) ∧
  (x4 = false ->
  ldS h (x1.add 1) fun y16 =>
  ((decide ((y16.size : Int) < 1)) = true ->
  F.xaf.j3 Q x1 true h) ∧
  ((decide ((y16.size : Int) < 1)) = false ->
  ldS h (x1.add 1) fun y19 =>
  F.xaf.j3 Q x1 (decide ((y19.size : Int) > 32)) h))
def F.xaf (p0 : S_api_Cell) (h : H) (Q : ByteArray -> Int -> H -> Prop) : Prop :=
  new h p0.cells.toArray ty_35 fun a2 h1 =>
  ldI .i64 h1 (a2.add 0) fun y21 =>
  ((decide (y21 < 0)) = true ->
  F.xaf.j2 Q a2 true h1) ∧
  ((decide (y21 < 0)) = false ->
  ldI .i64 h1 (a2.add 0) fun y24 =>
  F.xaf.j2 Q a2 (decide (y24 >= 4)) h1)
theorem F.xaf_ok {p0 : S_api_Cell} {h : H} {Q : ByteArray -> Int -> H -> Prop} (H : F.xaf p0 h Q) : Fn PP 56 ([(.agg p0.cells.toArray)] : List Value).toArray h fun r h' => ∃ r0 r1, r = .tuple #[(.string r0), (.int .i64 r1)] ∧ Q r0 r1 h' := by
 unfold F.xaf at H;refine fn_of Tryz.func56 Tryz.ntmps56 rfl rfl fun w0 => (tr_sub [(0, (.agg p0.cells.toArray))] ⟨rfl, trivial⟩ (tr_seq (tr_region (tr_e (f_box (cs := p0.cells.toArray) rfl rfl H) rfl rfl ?_))));rintro _ h1 ⟨a2, rfl, H⟩;refine tq (y_assign rfl) (tq (y_assign rfl) (tr_nil (tr_thenN ?_)));refine tr_seq_j (fun L' h => ∃ (x1 : Addr), L' = [(1, (.pointer (some x1)))] ∧ F.xaf.j1 Q x1 h) ?_ ?_
 ·rintro L' h ⟨x1, rfl, H⟩;unfold F.xaf.j1 at H;refine tr_seq (tr_region ?_);obtain ⟨y3, k4, H⟩ := H;refine tr_h (y_ldS Tryz.isAgg35 Tryz.sizeOf35 rfl rfl) k4 rfl rfl (tr_e (e_call Tryz.call94 rfl (F.xap_ok H)) rfl rfl ?_);rintro _ h5 ⟨r6, r7, rfl, H⟩;refine tq (y_ext rfl rfl) (tq (y_ext rfl rfl) (tq (y_assign rfl) (tq (y_assign rfl) (tr_nil (tr_thenN (tr_ret ?_))))));exact tr_ret2 rfl rfl rfl ⟨_, _, rfl, H⟩
 ·refine tr_block ?_;refine tr_seq_j (fun L' h => ∃ (x1 : Addr) (x4 : Bool), L' = [(1, (.pointer (some x1))), (4, (.bool x4))] ∧ F.xaf.j2 Q x1 x4 h) ?_ ?_
  ·rintro L' h ⟨x1, x4, rfl, H⟩;unfold F.xaf.j2 at H;refine tr_cond rfl (fun g8 => ?_) (fun g8 => ?_)
   ·replace H := H.1 g8;refine tr_seq (tr_region (tq (y_assign rfl) (tq (y_assign rfl) (tr_nil (tr_thenN (tr_ret (tr_blockR (tr_thenR ?_))))))));exact tr_ret2 rfl rfl rfl ⟨_, _, rfl, H⟩
   ·replace H := H.2 g8;refine tr_seq_j (fun L' h => ∃ (x1 : Addr) (x13 : Bool), L' = [(1, (.pointer (some x1))), (13, (.bool x13))] ∧ F.xaf.j3 Q x1 x13 h) ?_ ?_
    ·rintro L' h ⟨x1, x13, rfl, H⟩;unfold F.xaf.j3 at H;refine tr_cond rfl (fun g9 => ?_) (fun g9 => ?_)
     ·replace H := H.1 g9;refine tr_seq (tr_region (tq (y_assign rfl) (tq (y_assign rfl) (tr_nil (tr_thenN (tr_ret (tr_blockR (tr_thenR ?_))))))));exact tr_ret2 rfl rfl rfl ⟨_, _, rfl, H⟩
     ·replace H := H.2 g9;refine tr_seq_j (fun L' h => ∃ (x1 : Addr) (x24 : Bool), L' = [(1, (.pointer (some x1))), (24, (.bool x24))] ∧ F.xaf.j4 Q x1 x24 h) ?_ ?_
      ·rintro L' h ⟨x1, x24, rfl, H⟩;unfold F.xaf.j4 at H;refine tr_cond rfl (fun g10 => ?_) (fun g10 => ?_)
       ·replace H := H.1 g10;refine tr_seq (tr_region (tq (y_assign rfl) (tq (y_assign rfl) (tr_nil (tr_thenN (tr_ret (tr_blockR (tr_thenR ?_))))))));exact tr_ret2 rfl rfl rfl ⟨_, _, rfl, H⟩
       ·replace H := H.2 g10;refine tr_skip (tr_blockN (tr_thenN ?_));exact tr_join [(1, (.pointer (some x1)))] ⟨rfl, trivial⟩ ⟨_, rfl, H⟩
      ·refine tr_region (tq (y_fa (off := 2) Tryz.runUnderlying35 fo_35_2 rfl) ?_);obtain ⟨y11, k12, H⟩ := H;refine tr_h (y_ld Tryz.isAgg2 rfl) k12 rfl rfl (tq (y_lss rfl rfl) (tq (y_move rfl) ?_));refine tr_split (t := 28) rfl (fun g13 => ?_) (fun g13 => ?_)
       ·replace H := H.1 g13;refine ts (ts (ts (tq (y_pick_t rfl rfl) (tq (y_assign rfl) (tr_nil (tr_thenN ?_))))));exact tr_join [(1, (.pointer (some x1))), (24, (.bool true))] ⟨rfl, rfl, trivial⟩ ⟨_, _, rfl, H⟩
       ·replace H := H.2 g13;refine tq (y_fa (off := 2) Tryz.runUnderlying35 fo_35_2 rfl) ?_;obtain ⟨y14, k15, H⟩ := H;refine tr_h (y_ld Tryz.isAgg2 rfl) k15 rfl rfl (tq (y_gtr rfl rfl) (tq (y_pick_f rfl rfl) (tq (y_assign rfl) (tr_nil (tr_thenN ?_)))));exact tr_join [(1, (.pointer (some x1))), (24, (.bool (decide (y14 > 2305843009213693952))))] ⟨rfl, rfl, trivial⟩ ⟨_, _, rfl, H⟩
    ·refine tr_region (tq (y_fa (off := 1) Tryz.runUnderlying35 fo_35_1 rfl) ?_);obtain ⟨y16, k17, H⟩ := H;refine tr_h (y_ld Tryz.isAgg9 rfl) k17 rfl rfl (tq (y_lenS Tryz.runUnderlying9 rfl) (tq (y_lss rfl rfl) (tq (y_move rfl) ?_)));refine tr_split (t := 18) rfl (fun g18 => ?_) (fun g18 => ?_)
     ·replace H := H.1 g18;refine ts (ts (ts (ts (tq (y_pick_t rfl rfl) (tq (y_assign rfl) (tr_nil (tr_thenN ?_)))))));exact tr_join [(1, (.pointer (some x1))), (13, (.bool true))] ⟨rfl, rfl, trivial⟩ ⟨_, _, rfl, H⟩
     ·replace H := H.2 g18;refine tq (y_fa (off := 1) Tryz.runUnderlying35 fo_35_1 rfl) ?_;obtain ⟨y19, k20, H⟩ := H;refine tr_h (y_ld Tryz.isAgg9 rfl) k20 rfl rfl (tq (y_lenS Tryz.runUnderlying9 rfl) (tq (y_gtr rfl rfl) (tq (y_pick_f rfl rfl) (tq (y_assign rfl) (tr_nil (tr_thenN ?_))))));exact tr_join [(1, (.pointer (some x1))), (13, (.bool (decide ((y19.size : Int) > 32))))] ⟨rfl, rfl, trivial⟩ ⟨_, _, rfl, H⟩
  ·refine tr_region (tq (y_fa (off := 0) Tryz.runUnderlying35 fo_35_0 rfl) ?_);obtain ⟨y21, k22, H⟩ := H;refine tr_h (y_ld Tryz.isAgg3 rfl) k22 rfl rfl (tq (y_lss rfl rfl) (tq (y_move rfl) ?_));refine tr_split (t := 8) rfl (fun g23 => ?_) (fun g23 => ?_)
   ·replace H := H.1 g23;refine ts (ts (ts (tq (y_pick_t rfl rfl) (tq (y_assign rfl) (tr_nil (tr_thenN ?_))))));exact tr_join [(1, (.pointer (some a2))), (4, (.bool true))] ⟨rfl, rfl, trivial⟩ ⟨_, _, rfl, H⟩
   ·replace H := H.2 g23;refine tq (y_fa (off := 0) Tryz.runUnderlying35 fo_35_0 rfl) ?_;obtain ⟨y24, k25, H⟩ := H;refine tr_h (y_ld Tryz.isAgg3 rfl) k25 rfl rfl (tq (y_geq rfl rfl) (tq (y_pick_f rfl rfl) (tq (y_assign rfl) (tr_nil (tr_thenN ?_)))));exact tr_join [(1, (.pointer (some a2))), (4, (.bool (decide (y24 >= 4))))] ⟨rfl, rfl, trivial⟩ ⟨_, _, rfl, H⟩
def F.xcd (p0 : Sl) (p1 : ByteArray) (h : H) (Q : Int -> H -> Prop) : Prop :=
  F.xbb p1 h fun r2 h1 =>
  ((IntKind.wrap .u64 (p0.len : Int)) : Int) ≠ 0 ∧
  Q (IntKind.wrap .i64 (Int.tmod r2 (IntKind.wrap .u64 (p0.len : Int)))) h1
theorem F.xcd_ok {p0 : Sl} {p1 : ByteArray} {h : H} {Q : Int -> H -> Prop} (H : F.xcd p0 p1 h Q) : Fn PP 103 ([p0.enc, (.string p1)] : List Value).toArray h fun r h' => ∃ r0, r = (.int .i64 r0) ∧ Q r0 h' := by
 unfold F.xcd at H;refine fn_of Tryz.func103 Tryz.ntmps103 rfl rfl fun w0 => (tr_sub [(0, p0.enc), (1, (.string p1))] ⟨rfl, rfl, trivial⟩ (tr_seq (tr_region (tq (y_assign rfl) (tr_nil (tr_thenN (tr_seq (tr_region (tq (y_move rfl) (tr_e (e_call Tryz.call44 rfl (F.xbb_ok H)) rfl rfl ?_))))))))));rintro _ h1 ⟨r2, rfl, H⟩;refine tq (y_move rfl) (tq (y_len (ts := #[]) Tryz.runUnderlying146 (o := p0.ptr) (n := p0.len) (cap := p0.cap) rfl) (tq (y_cvt Tryz.runUnderlying3 Tryz.runUnderlying90 rfl) ?_));obtain ⟨e3, H⟩ := H;refine tq (y_rem rfl rfl e3) (tq (y_cvt Tryz.runUnderlying90 Tryz.runUnderlying3 rfl) (tq (y_assign rfl) (tr_nil (tr_thenN (tr_ret ?_)))));exact tr_ret1 rfl rfl ⟨_, rfl, H⟩
def F.xah.j2 (Q : Int -> Bool -> H -> Prop) (C1 : Sl -> ByteArray -> Int -> H -> Prop) (x0 : Sl) (x1 : ByteArray) (x6 : Int) (h : H) : Prop :=
  ((x0.len : Int) : Int) ≠ 0 ∧
  C1 x0 x1 (Int.tmod (IntKind.wrap .i64 (x6 + 1)) (x0.len : Int)) h
def F.xah.j3 (Q : Int -> Bool -> H -> Prop) (C1 : Sl -> ByteArray -> Int -> H -> Prop) (x0 : Sl) (x1 : ByteArray) (x6 : Int) (x38 : Bool) (h : H) : Prop :=
  (x38 = true ->
  Q x6 true h) ∧
  (x38 = false ->
  F.xah.j2 Q C1 x0 x1 x6 h)
def F.xah.l1 (Q : Int -> Bool -> H -> Prop) : Nat -> Sl -> ByteArray -> Int -> H -> Prop
  | 0, _, _, _, _ => False
  | q1 + 1, x0, x1, x6, h =>
    idxA x0 x6 3 fun a4 =>
    ldI .u8 h (a4.add 0) fun y6 =>
    (((y6 != 0)) = true ->
    idxA x0 x6 3 fun a11 =>
    ldI .u8 h (a11.add 0) fun y13 =>
    (((y13 == 1)) = true ->
    idxA x0 x6 3 fun a16 =>
    ldS h (a16.add 1) fun y18 =>
    F.xah.j3 Q (F.xah.l1 Q q1) x0 x1 x6 (y18.toList == x1.toList) h) ∧
    (((y13 == 1)) = false ->
    F.xah.j3 Q (F.xah.l1 Q q1) x0 x1 x6 false h)) ∧
    (((y6 != 0)) = false ->
    Q x6 false h)
def F.xah (p0 : Sl) (p1 : ByteArray) (h : H) (Q : Int -> Bool -> H -> Prop) : Prop :=
  ((((p0.len : Int) == 0)) = true ->
  Q 0 false h) ∧
  ((((p0.len : Int) == 0)) = false ->
  F.xcd p0 p1 h fun r3 h2 =>
  ∃ m, F.xah.l1 Q m p0 p1 r3 h2)
theorem F.xah_ok {p0 : Sl} {p1 : ByteArray} {h : H} {Q : Int -> Bool -> H -> Prop} (H : F.xah p0 p1 h Q) : Fn PP 102 ([p0.enc, (.string p1)] : List Value).toArray h fun r h' => ∃ r0 r1, r = .tuple #[(.int .i64 r0), (.bool r1)] ∧ Q r0 r1 h' := by
 unfold F.xah at H;refine fn_of Tryz.func102 Tryz.ntmps102 rfl rfl fun w0 => (tr_sub [(0, p0.enc), (1, (.string p1))] ⟨rfl, rfl, trivial⟩ (tr_seq (tr_region (tq (y_assign rfl) (tq (y_assign rfl) (tr_nil (tr_thenN (tr_seq (tr_seq (tr_region (tq (y_move rfl) (tq (y_len (ts := #[]) Tryz.runUnderlying146 (o := p0.ptr) (n := p0.len) (cap := p0.cap) rfl) (tq (y_eql rfl rfl) ?_)))))))))))));refine tr_nil (tr_thenN ?_);refine tr_cond rfl (fun g1 => ?_) (fun g1 => ?_)
 ·replace H := H.1 g1;refine tr_seq (tr_region (tq (y_assign rfl) (tq (y_assign rfl) (tr_nil (tr_thenN (tr_ret (tr_thenR ?_)))))));exact tr_ret2 rfl rfl rfl ⟨_, _, rfl, H⟩
 ·replace H := H.2 g1;refine tr_skip (tr_thenN (tr_seq (tr_region (tq (y_move rfl) (tq (y_move rfl) (tr_e (e_call Tryz.call103 rfl (F.xcd_ok H)) rfl rfl ?_))))));rintro _ h2 ⟨r3, rfl, H⟩;refine tq (y_assign rfl) (tr_nil (tr_thenN (tr_seq (tr_block ?_))));obtain ⟨m20, H⟩ := H;refine tr_sub [(0, p0.enc), (1, (.string p1)), (6, (.int .i64 r3))] ⟨rfl, rfl, rfl, trivial⟩ ?_;refine tr_loop_j (fun m L' h => ∃ (x0 : Sl) (x1 : ByteArray) (x6 : Int), L' = [(0, x0.enc), (1, (.string x1)), (6, (.int .i64 x6))] ∧ F.xah.l1 Q m x0 x1 x6 h) ?_ ?_ m20 ⟨_, _, _, rfl, H⟩
  ·rintro L' h ⟨_, _, _, _, H⟩; exact H
  ·rintro q1 L' h ⟨x0, x1, x6, rfl, H⟩;unfold F.xah.l1 at H;refine tr_seq (tr_seq (tr_region (tq (y_move rfl) (tq (y_move rfl) ?_))));obtain ⟨a4, e5, H⟩ := H;refine tq (f_idx (s := x0) Tryz.runUnderlying146 Tryz.sizeOf156 rfl rfl e5) (tq (y_fa (off := 0) Tryz.runUnderlying156 fo_156_0 rfl) ?_);obtain ⟨y6, k7, H⟩ := H;refine tr_h (y_ld Tryz.isAgg5 rfl) k7 rfl rfl (tq (y_neq rfl rfl) (tr_nil (tr_thenN ?_)));refine tr_cond rfl (fun g8 => ?_) (fun g8 => ?_)
   ·replace H := H.1 g8;refine tr_skip (tr_thenN ?_);refine tr_seq_j (fun L' h => ∃ (x0 : Sl) (x1 : ByteArray) (x6 : Int), L' = [(0, x0.enc), (1, (.string x1)), (6, (.int .i64 x6))] ∧ F.xah.j2 Q (F.xah.l1 Q q1) x0 x1 x6 h) ?_ ?_
    ·rintro L' h ⟨x0, x1, x6, rfl, H⟩;unfold F.xah.j2 at H;refine tr_region (tq (y_move rfl) (tq (y_add rfl rfl) (tq (y_move rfl) (tq (y_len (ts := #[]) Tryz.runUnderlying146 (o := x0.ptr) (n := x0.len) (cap := x0.cap) rfl) ?_))));obtain ⟨e9, H⟩ := H;refine tq (y_rem rfl rfl e9) (tq (y_assign rfl) (tr_nil (tr_thenN ?_)));exact tr_join [(0, x0.enc), (1, (.string x1)), (6, (.int .i64 (Int.tmod (IntKind.wrap .i64 (x6 + 1)) (x0.len : Int))))] ⟨rfl, rfl, rfl, trivial⟩ ⟨_, _, _, rfl, H⟩
    ·refine tr_block ?_;refine tr_seq_j (fun L' h => ∃ (x0 : Sl) (x1 : ByteArray) (x6 : Int) (x38 : Bool), L' = [(0, x0.enc), (1, (.string x1)), (6, (.int .i64 x6)), (38, (.bool x38))] ∧ F.xah.j3 Q (F.xah.l1 Q q1) x0 x1 x6 x38 h) ?_ ?_
     ·rintro L' h ⟨x0, x1, x6, x38, rfl, H⟩;unfold F.xah.j3 at H;refine tr_cond rfl (fun g10 => ?_) (fun g10 => ?_)
      ·replace H := H.1 g10;refine tr_seq (tr_region (tq (y_move rfl) (tq (y_assign rfl) (tq (y_assign rfl) (tr_nil (tr_thenN (tr_ret (tr_blockR (tr_thenR (tr_thenR (tr_blockR (tr_thenR ?_))))))))))));exact tr_ret2 rfl rfl rfl ⟨_, _, rfl, H⟩
      ·replace H := H.2 g10;refine tr_skip (tr_blockN (tr_thenN ?_));exact tr_join [(0, x0.enc), (1, (.string x1)), (6, (.int .i64 x6))] ⟨rfl, rfl, rfl, trivial⟩ ⟨_, _, _, rfl, H⟩
     ·refine tr_region (tq (y_move rfl) (tq (y_move rfl) ?_));obtain ⟨a11, e12, H⟩ := H;refine tq (f_idx (s := x0) Tryz.runUnderlying146 Tryz.sizeOf156 rfl rfl e12) (tq (y_fa (off := 0) Tryz.runUnderlying156 fo_156_0 rfl) ?_);obtain ⟨y13, k14, H⟩ := H;refine tr_h (y_ld Tryz.isAgg5 rfl) k14 rfl rfl (tq (y_eql rfl rfl) (tq (y_move rfl) ?_));refine tr_split (t := 30) rfl (fun g15 => ?_) (fun g15 => ?_)
      ·replace H := H.1 g15;refine tq (y_move rfl) (tq (y_move rfl) ?_);obtain ⟨a16, e17, H⟩ := H;refine tq (f_idx (s := x0) Tryz.runUnderlying146 Tryz.sizeOf156 rfl rfl e17) (tq (y_fa (off := 1) Tryz.runUnderlying156 fo_156_1 rfl) ?_);obtain ⟨y18, k19, H⟩ := H;refine tr_h (y_ld Tryz.isAgg9 rfl) k19 rfl rfl (tq (y_move rfl) (tq (y_seql rfl rfl) (tq (y_pick_t rfl rfl) (tr_nil (tr_thenN ?_)))));exact tr_join [(0, x0.enc), (1, (.string x1)), (6, (.int .i64 x6)), (38, (.bool (y18.toList == x1.toList)))] ⟨rfl, rfl, rfl, rfl, trivial⟩ ⟨_, _, _, _, rfl, H⟩
      ·replace H := H.2 g15;refine ts (ts (ts (ts (ts (ts (ts (tq (y_pick_f rfl rfl) (tr_nil (tr_thenN ?_)))))))));exact tr_join [(0, x0.enc), (1, (.string x1)), (6, (.int .i64 x6)), (38, (.bool false))] ⟨rfl, rfl, rfl, rfl, trivial⟩ ⟨_, _, _, _, rfl, H⟩
   ·replace H := H.2 g8;refine tr_exit (tr_thenE (tr_thenE (tr_hit (tr_thenN (tr_seq (tr_region (tq (y_move rfl) (tq (y_assign rfl) (tq (y_assign rfl) (tr_nil (tr_thenN (tr_ret ?_))))))))))));exact tr_ret2 rfl rfl rfl ⟨_, _, rfl, H⟩
def F.xbu (p0 : Option Addr) (p1 : ByteArray) (h : H) (Q : (Option Addr) -> H -> Prop) : Prop :=
  nn p0 fun a1 =>
  ldL h (a1.add 0) fun y3 =>
  F.xah y3 p1 h fun r6 r7 h5 =>
  (r7 = true ->
  nn p0 fun a9 =>
  ldL h5 (a9.add 0) fun y11 =>
  idxA y11 r6 3 fun a13 =>
  Q (some a13) h5) ∧
  (r7 = false ->
  nn p0 fun a15 =>
  ldL h5 (a15.add 1) fun y17 =>
  F.xah y17 p1 h5 fun r20 r21 h19 =>
  (r21 = true ->
  nn p0 fun a23 =>
  ldL h19 (a23.add 1) fun y25 =>
  idxA y25 r20 3 fun a27 =>
  Q (some a27) h19) ∧
  (r21 = false ->
  Q none h19))
theorem F.xbu_ok {p0 : Option Addr} {p1 : ByteArray} {h : H} {Q : (Option Addr) -> H -> Prop} (H : F.xbu p0 p1 h Q) : Fn PP 107 ([(.pointer p0), (.string p1)] : List Value).toArray h fun r h' => ∃ r0, r = (.pointer r0) ∧ Q r0 h' := by
 unfold F.xbu at H;refine fn_of Tryz.func107 Tryz.ntmps107 rfl rfl fun w0 => (tr_sub [(0, (.pointer p0)), (1, (.string p1))] ⟨rfl, rfl, trivial⟩ (tr_seq (tr_region (tq (y_assign rfl) (tr_nil (tr_thenN (tr_seq (tr_seq (tr_region (tq (y_move rfl) ?_))))))))));obtain ⟨a1, e2, H⟩ := H;refine tq (f_nn rfl e2) (tq (y_fa (off := 0) Tryz.runUnderlying148 fo_148_0 rfl) ?_);obtain ⟨y3, k4, H⟩ := H;refine tr_h (y_ld Tryz.isAgg146 rfl) k4 rfl rfl (tq (y_move rfl) (tr_e (e_call Tryz.call102 rfl (F.xah_ok H)) rfl rfl ?_));rintro _ h5 ⟨r6, r7, rfl, H⟩;refine tq (y_move rfl) (tq (y_ext rfl rfl) (tq (y_ext rfl rfl) (tq (y_assign rfl) (tq (y_assign rfl) (tr_nil (tr_thenN (tr_seq (tr_region (tq (y_move rfl) (tr_nil (tr_thenN ?_)))))))))));refine tr_cond rfl (fun g8 => ?_) (fun g8 => ?_)
 ·replace H := H.1 g8;refine tr_seq (tr_region (tq (y_move rfl) ?_));obtain ⟨a9, e10, H⟩ := H;refine tq (f_nn rfl e10) (tq (y_fa (off := 0) Tryz.runUnderlying148 fo_148_0 rfl) ?_);obtain ⟨y11, k12, H⟩ := H;refine tr_h (y_ld Tryz.isAgg146 rfl) k12 rfl rfl (tq (y_move rfl) ?_);obtain ⟨a13, e14, H⟩ := H;refine tq (f_idx (s := y11) Tryz.runUnderlying146 Tryz.sizeOf156 rfl rfl e14) (tq (y_assign rfl) (tr_nil (tr_thenN (tr_ret (tr_thenR ?_)))));exact tr_ret1 rfl rfl ⟨_, rfl, H⟩
 ·replace H := H.2 g8;refine tr_skip (tr_thenN (tr_seq (tr_seq (tr_region (tq (y_move rfl) ?_)))));obtain ⟨a15, e16, H⟩ := H;refine tq (f_nn rfl e16) (tq (y_fa (off := 1) Tryz.runUnderlying148 fo_148_1 rfl) ?_);obtain ⟨y17, k18, H⟩ := H;refine tr_h (y_ld Tryz.isAgg146 rfl) k18 rfl rfl (tq (y_move rfl) (tr_e (e_call Tryz.call102 rfl (F.xah_ok H)) rfl rfl ?_));rintro _ h19 ⟨r20, r21, rfl, H⟩;refine tq (y_move rfl) (tq (y_ext rfl rfl) (tq (y_ext rfl rfl) (tq (y_assign rfl) (tq (y_assign rfl) (tr_nil (tr_thenN (tr_seq (tr_region (tq (y_move rfl) (tr_nil (tr_thenN ?_)))))))))));refine tr_cond rfl (fun g22 => ?_) (fun g22 => ?_)
  ·replace H := H.1 g22;refine tr_seq (tr_region (tq (y_move rfl) ?_));obtain ⟨a23, e24, H⟩ := H;refine tq (f_nn rfl e24) (tq (y_fa (off := 1) Tryz.runUnderlying148 fo_148_1 rfl) ?_);obtain ⟨y25, k26, H⟩ := H;refine tr_h (y_ld Tryz.isAgg146 rfl) k26 rfl rfl (tq (y_move rfl) ?_);obtain ⟨a27, e28, H⟩ := H;refine tq (f_idx (s := y25) Tryz.runUnderlying146 Tryz.sizeOf156 rfl rfl e28) (tq (y_assign rfl) (tr_nil (tr_thenN (tr_ret (tr_thenR ?_)))));exact tr_ret1 rfl rfl ⟨_, rfl, H⟩
  ·replace H := H.2 g22;refine tr_skip (tr_thenN (tr_seq (tr_region (tq (y_assign rfl) (tr_nil (tr_thenN (tr_ret ?_)))))));exact tr_ret1 rfl rfl ⟨_, rfl, H⟩
def F.xbs (p0 : Option Addr) (p1 : ByteArray) (h : H) (Q : (Option Addr) -> Bool -> H -> Prop) : Prop :=
  F.xbu p0 p1 h fun r2 h1 =>
  ((!r2.isNone) = true ->
  nn r2 fun a4 =>
  ldP h1 (a4.add 2) fun y6 =>
  Q y6 true h1) ∧
  ((!r2.isNone) = false ->
  Q none false h1)
theorem F.xbs_ok {p0 : Option Addr} {p1 : ByteArray} {h : H} {Q : (Option Addr) -> Bool -> H -> Prop} (H : F.xbs p0 p1 h Q) : Fn PP 64 ([(.pointer p0), (.string p1)] : List Value).toArray h fun r h' => ∃ r0 r1, r = .tuple #[(.pointer r0), (.bool r1)] ∧ Q r0 r1 h' := by
 unfold F.xbs at H;refine fn_of Tryz.func64 Tryz.ntmps64 rfl rfl fun w0 => (tr_sub [(0, (.pointer p0)), (1, (.string p1))] ⟨rfl, rfl, trivial⟩ (tr_seq (tr_region (tq (y_assign rfl) (tq (y_assign rfl) (tr_nil (tr_thenN (tr_seq (tr_seq (tr_region (tq (y_move rfl) (tq (y_move rfl) (tr_e (e_call Tryz.call107 rfl (F.xbu_ok H)) rfl rfl ?_)))))))))))));rintro _ h1 ⟨r2, rfl, H⟩;refine tq (y_assign rfl) (tr_nil (tr_thenN (tr_seq (tr_region (tq (y_move rfl) (tq (y_pnil_neq Tryz.runUnderlying174 rfl rfl) (tr_nil (tr_thenN ?_))))))));refine tr_cond rfl (fun g3 => ?_) (fun g3 => ?_)
 ·replace H := H.1 g3;refine tr_seq (tr_region (tq (y_move rfl) ?_));obtain ⟨a4, e5, H⟩ := H;refine tq (f_nn rfl e5) (tq (y_fa (off := 2) Tryz.runUnderlying156 fo_156_2 rfl) ?_);obtain ⟨y6, k7, H⟩ := H;refine tr_h (y_ld Tryz.isAgg107 rfl) k7 rfl rfl (tq (y_assign rfl) (tq (y_assign rfl) (tr_nil (tr_thenN (tr_ret (tr_thenR ?_))))));exact tr_ret2 rfl rfl rfl ⟨_, _, rfl, H⟩
 ·replace H := H.2 g3;refine tr_skip (tr_thenN (tr_seq (tr_region (tq (y_move rfl) (tq (y_assign rfl) (tq (y_assign rfl) (tr_nil (tr_thenN (tr_ret ?_)))))))));exact tr_ret2 rfl rfl rfl ⟨_, _, rfl, H⟩
def F.xce (p0 : Option Addr) (p1 : S_api_Cell) (h : H) (Q : (Option Addr) -> H -> Prop) : Prop :=
  new h p1.cells.toArray ty_35 fun a2 h1 =>
  ld_S_api_Cell h1 a2 fun y3 =>
  F.xaf y3 h1 fun r6 r7 h5 =>
  (((r7 != 0)) = true ->
  Q none h5) ∧
  (((r7 != 0)) = false ->
  nn p0 fun a9 =>
  ldP h5 (a9.add 3) fun y11 =>
  F.xbs y11 r6 h5 fun r14 r15 h13 =>
  Q r14 h13)
theorem F.xce_ok {p0 : Option Addr} {p1 : S_api_Cell} {h : H} {Q : (Option Addr) -> H -> Prop} (H : F.xce p0 p1 h Q) : Fn PP 57 ([(.pointer p0), (.agg p1.cells.toArray)] : List Value).toArray h fun r h' => ∃ r0, r = (.pointer r0) ∧ Q r0 h' := by
 unfold F.xce at H;refine fn_of Tryz.func57 Tryz.ntmps57 rfl rfl fun w0 => (tr_sub [(0, (.pointer p0)), (1, (.agg p1.cells.toArray))] ⟨rfl, rfl, trivial⟩ (tr_seq (tr_region (tr_e (f_box (cs := p1.cells.toArray) rfl rfl H) rfl rfl ?_))));rintro _ h1 ⟨a2, rfl, H⟩;refine tq (y_assign rfl) (tr_nil (tr_thenN (tr_seq (tr_region ?_))));obtain ⟨y3, k4, H⟩ := H;refine tr_h (y_ldS Tryz.isAgg35 Tryz.sizeOf35 rfl rfl) k4 rfl rfl (tr_e (e_call Tryz.call56 rfl (F.xaf_ok H)) rfl rfl ?_);rintro _ h5 ⟨r6, r7, rfl, H⟩;refine tq (y_move rfl) (tq (y_ext rfl rfl) (tq (y_ext rfl rfl) (tq (y_assign rfl) (tq (y_assign rfl) (tr_nil (tr_thenN (tr_seq (tr_seq (tr_region (tq (y_move rfl) (tq (y_neq rfl rfl) (tr_nil (tr_thenN ?_)))))))))))));refine tr_cond rfl (fun g8 => ?_) (fun g8 => ?_)
 ·replace H := H.1 g8;refine tr_seq (tr_region (tq (y_assign rfl) (tr_nil (tr_thenN (tr_ret (tr_thenR ?_))))));exact tr_ret1 rfl rfl ⟨_, rfl, H⟩
 ·replace H := H.2 g8;refine tr_skip (tr_thenN (tr_seq (tr_region (tq (y_move rfl) ?_))));obtain ⟨a9, e10, H⟩ := H;refine tq (f_nn rfl e10) (tq (y_fa (off := 3) Tryz.runUnderlying74 fo_74_1 rfl) ?_);obtain ⟨y11, k12, H⟩ := H;refine tr_h (y_ld Tryz.isAgg72 rfl) k12 rfl rfl (tq (y_move rfl) (tr_e (e_call Tryz.call64 rfl (F.xbs_ok H)) rfl rfl ?_));rintro _ h13 ⟨r14, r15, rfl, H⟩;refine tq (y_move rfl) (tq (y_ext rfl rfl) (tq (y_ext rfl rfl) (tq (y_assign rfl) (tq (y_assign rfl) (tr_nil (tr_thenN (tr_seq (tr_region (tq (y_move rfl) (tq (y_assign rfl) (tr_nil (tr_thenN (tr_ret ?_)))))))))))));exact tr_ret1 rfl rfl ⟨_, rfl, H⟩
def F.xbr (p0 : Option Addr) (h : H) (Q : S_api_Agg -> Int -> Bool -> H -> Prop) : Prop :=
  new h (((⟨0, 0, 0, 0⟩ : S_api_Agg) : S_api_Agg).cells.toArray) ty_40 fun a2 h1 =>
  nn p0 fun a3 =>
  ldL h1 (a3.add 0) fun y5 =>
  ((((y5.len : Int) == 0)) = true ->
  ld_S_api_Agg h1 a2 fun y8 =>
  stH h1 a2 y8.cells fun h10 =>
  ld_S_api_Agg h10 a2 fun y11 =>
  Q y11 0 false h10) ∧
  ((((y5.len : Int) == 0)) = false ->
  nn p0 fun a13 =>
  ldL h1 (a13.add 0) fun y15 =>
  nn p0 fun a17 =>
  ldL h1 (a17.add 0) fun y19 =>
  idxA y15 (IntKind.wrap .i64 ((y19.len : Int) - 1)) 6 fun a21 =>
  ld_S_chain_version_api_Agg h1 a21 fun y23 =>
  new h1 (((⟨0, (⟨0, 0, 0, 0⟩ : S_api_Agg), false⟩ : S_chain_version_api_Agg) : S_chain_version_api_Agg).cells.toArray) ty_152 fun a26 h25 =>
  Cells h25 a21 y23.cells ∧
  cellH h25 (a17.add 0) = some y19.enc ∧
  cellH h25 (a13.add 0) = some y15.enc ∧
  stH h25 a26 y23.cells fun h30 =>
  ld_S_api_Agg h30 (a26.add 1) fun y31 =>
  ldI .i64 h30 (a26.add 0) fun y33 =>
  ldB h30 (a26.add 5) fun y35 =>
  stH h30 a2 y31.cells fun h37 =>
  cellH h37 (a26.add 5) = some (.bool y35) ∧
  cellH h37 (a26.add 0) = some (.int .i64 y33) ∧
  ld_S_api_Agg h37 a2 fun y40 =>
  Q y40 y33 (!y35) h37)
theorem F.xbr_ok {p0 : Option Addr} {h : H} {Q : S_api_Agg -> Int -> Bool -> H -> Prop} (H : F.xbr p0 h Q) : Fn PP 65 ([(.pointer p0)] : List Value).toArray h fun r h' => ∃ r0 r1 r2, r = .tuple #[(.agg r0.cells.toArray), (.int .i64 r1), (.bool r2)] ∧ Q r0 r1 r2 h' := by
 unfold F.xbr at H;refine fn_of Tryz.func65 Tryz.ntmps65 rfl rfl fun w0 => (tr_sub [(0, (.pointer p0))] ⟨rfl, trivial⟩ (tr_seq (tr_region (tr_e (f_alloc (cs := ((⟨0, 0, 0, 0⟩ : S_api_Agg) : S_api_Agg).cells.toArray) Tryz.zeroValue40 rfl H) rfl rfl ?_))));rintro _ h1 ⟨a2, rfl, H⟩;refine tq (y_assign rfl) (tq (y_assign rfl) (tr_nil (tr_thenN (tr_seq (tr_seq (tr_region (tq (y_move rfl) ?_)))))));obtain ⟨a3, e4, H⟩ := H;refine tq (f_nn rfl e4) (tq (y_fa (off := 0) Tryz.runUnderlying164 fo_164_0 rfl) ?_);obtain ⟨y5, k6, H⟩ := H;refine tr_h (y_ld Tryz.isAgg162 rfl) k6 rfl rfl (tq (y_len (ts := #[]) Tryz.runUnderlying162 (o := y5.ptr) (n := y5.len) (cap := y5.cap) rfl) (tq (y_eql rfl rfl) (tr_nil (tr_thenN ?_))));refine tr_cond rfl (fun g7 => ?_) (fun g7 => ?_)
 ·replace H := H.1 g7;refine tr_seq (tr_region ?_);obtain ⟨y8, k9, H⟩ := H;refine tr_h (y_ldS Tryz.isAgg40 Tryz.sizeOf40 rfl rfl) k9 rfl rfl (tr_e (f_store (vs := y8.cells) Tryz.sizeOf40 rfl rfl cellsOfStruct rfl (by intro v hv; exact ones_S_api_Agg _ v hv) H) rfl rfl ?_);rintro _ h10 ⟨rfl, H⟩;refine tq (y_assign rfl) (tq (y_assign rfl) (tr_nil (tr_thenN (tr_ret (tr_thenR ?_)))));obtain ⟨y11, k12, H⟩ := H;exact tr_rv3 rfl (rv_cellS Tryz.isAgg40 Tryz.sizeOf40 rfl rfl k12) (rv_tmp rfl) (rv_tmp rfl) ⟨_, _, _, rfl, H⟩
 ·replace H := H.2 g7;refine tr_skip (tr_thenN (tr_seq (tr_draw mixed [0, 1, 3, 7, 0, 16, 48, 112, 240, 496, 1023, 2047, 0, 8191] (by kernel_rfl) (g_p 0 1 rfl (by kernel_rfl) (y_move rfl) rfl rfl ?_))));obtain ⟨a13, e14, H⟩ := H;refine g_p 1 3 rfl (by kernel_rfl) (f_nn rfl e14) rfl rfl (g_p 2 7 rfl (by kernel_rfl) (y_fa (off := 0) Tryz.runUnderlying164 fo_164_0 rfl) rfl rfl ?_);obtain ⟨y15, k16, H⟩ := H;refine g_h 3 15 rfl (by kernel_rfl) (y_ld Tryz.isAgg162 rfl) k16 rfl rfl (g_p 4 31 rfl (by kernel_rfl) (y_move rfl) rfl rfl ?_);obtain ⟨a17, e18, H⟩ := H;refine g_p 5 63 rfl (by kernel_rfl) (f_nn rfl e18) rfl rfl (g_p 6 127 rfl (by kernel_rfl) (y_fa (off := 0) Tryz.runUnderlying164 fo_164_0 rfl) rfl rfl ?_);obtain ⟨y19, k20, H⟩ := H;refine g_h 7 255 rfl (by kernel_rfl) (y_ld Tryz.isAgg162 rfl) k20 rfl rfl (g_p 8 511 rfl (by kernel_rfl) (y_len (ts := #[]) Tryz.runUnderlying162 (o := y19.ptr) (n := y19.len) (cap := y19.cap) rfl) rfl rfl (g_p 9 1023 rfl (by kernel_rfl) (y_sub rfl rfl) rfl rfl ?_));obtain ⟨a21, e22, H⟩ := H;refine g_p 10 2047 rfl (by kernel_rfl) (f_idx (s := y15) Tryz.runUnderlying162 Tryz.sizeOf152 rfl rfl e22) rfl rfl ?_;obtain ⟨y23, k24, H⟩ := H;refine g_h 11 4095 rfl (by kernel_rfl) (y_ldS Tryz.isAgg152 Tryz.sizeOf152 rfl rfl) k24 rfl rfl (g_e 12 8191 [(11, fun h => Cells h a21 y23.cells), (7, fun h => cellH h (a17.add 0) = some y19.enc), (3, fun h => cellH h (a13.add 0) = some y15.enc)] (by kernel_rfl) rfl (by kernel_rfl) (f_alloc (cs := ((⟨0, (⟨0, 0, 0, 0⟩ : S_api_Agg), false⟩ : S_chain_version_api_Agg) : S_chain_version_api_Agg).cells.toArray) Tryz.zeroValue152 rfl H) rfl rfl ?_);rintro _ h25 ⟨a26, rfl, H⟩;obtain ⟨k27, k28, k29, H⟩ := H;refine ⟨And.intro k27 (And.intro k28 (And.intro k29 trivial)), ?_⟩;refine g_e 13 16383 [] (by kernel_rfl) rfl (by kernel_rfl) (f_store (vs := y23.cells) Tryz.sizeOf152 rfl rfl cellsOfStruct rfl (by intro v hv; exact ones_S_chain_version_api_Agg _ v hv) H) rfl rfl ?_;rintro _ h30 ⟨rfl, H⟩;refine ⟨trivial, ?_⟩;refine g_d (by kernel_rfl) (tr_thenN (tr_seq (tr_draw mixed [0, 1, 0, 4, 0, 16, 48, 3, 143, 511] (by kernel_rfl) (g_p 0 1 rfl (by kernel_rfl) (y_fa (off := 1) Tryz.runUnderlying152 fo_152_1 rfl) rfl rfl ?_))));obtain ⟨y31, k32, H⟩ := H;refine g_h 1 3 rfl (by kernel_rfl) (y_ldS Tryz.isAgg40 Tryz.sizeOf40 rfl rfl) k32 rfl rfl (g_p 2 7 rfl (by kernel_rfl) (y_fa (off := 0) Tryz.runUnderlying152 fo_152_0 rfl) rfl rfl ?_);obtain ⟨y33, k34, H⟩ := H;refine g_h 3 15 rfl (by kernel_rfl) (y_ld Tryz.isAgg3 rfl) k34 rfl rfl (g_p 4 31 rfl (by kernel_rfl) (y_fa (off := 5) Tryz.runUnderlying152 fo_152_2 rfl) rfl rfl ?_);obtain ⟨y35, k36, H⟩ := H;refine g_h 5 63 rfl (by kernel_rfl) (y_ld Tryz.isAgg4 rfl) k36 rfl rfl (g_p 6 127 rfl (by kernel_rfl) (y_not rfl) rfl rfl (g_e 7 255 [(5, fun h => cellH h (a26.add 5) = some (.bool y35)), (3, fun h => cellH h (a26.add 0) = some (.int .i64 y33))] (by kernel_rfl) rfl (by kernel_rfl) (f_store (vs := y31.cells) Tryz.sizeOf40 rfl rfl cellsOfStruct rfl (by intro v hv; exact ones_S_api_Agg _ v hv) H) rfl rfl ?_));rintro _ h37 ⟨rfl, H⟩;obtain ⟨k38, k39, H⟩ := H;refine ⟨And.intro k38 (And.intro k39 trivial), ?_⟩;refine g_p 8 511 rfl (by kernel_rfl) (y_assign rfl) rfl rfl (g_p 9 1023 rfl (by kernel_rfl) (y_assign rfl) rfl rfl (g_d (by kernel_rfl) (tr_thenN (tr_ret ?_))));obtain ⟨y40, k41, H⟩ := H;exact tr_rv3 rfl (rv_cellS Tryz.isAgg40 Tryz.sizeOf40 rfl rfl k41) (rv_tmp rfl) (rv_tmp rfl) ⟨_, _, _, rfl, H⟩
def F.xaw.j2 (Q : Int -> H -> Prop) (x42 : Bool) (h : H) : Prop :=
  (x42 = true ->
  Q 1 h) ∧
  (x42 = false ->
  Q 2 h)
def F.xaw.j1 (Q : Int -> H -> Prop) (x1 : Int) (x11 : Int) (x12 : Bool) (x35 : Bool) (h : H) : Prop :=
  (x35 = true ->
  Q 0 h) ∧
  (x35 = false ->
  (((x11 == x1)) = true ->
  F.xaw.j2 Q true h) ∧
  (((x11 == x1)) = false ->
  F.xaw.j2 Q x12 h))
def F.xaw (p0 : Option Addr) (p1 : Int) (p2 : S_api_Cell) (h : H) (Q : Int -> H -> Prop) : Prop :=
  new h p2.cells.toArray ty_35 fun a2 h1 =>
  ld_S_api_Cell h1 a2 fun y3 =>
  F.xaf y3 h1 fun r6 r7 h5 =>
  (((r7 != 0)) = true ->
  Q 0 h5) ∧
  (((r7 != 0)) = false ->
  ld_S_api_Cell h5 a2 fun y9 =>
  F.xce p0 y9 h5 fun r12 h11 =>
  (r12.isNone = true ->
  Q 2 h11) ∧
  (r12.isNone = false ->
  F.xbr r12 h11 fun r15 r16 r17 h14 =>
  new h14 (((⟨0, 0, 0, 0⟩ : S_api_Agg) : S_api_Agg).cells.toArray) ty_40 fun a19 h18 =>
  stH h18 a19 r15.cells fun h20 =>
  ((decide (r16 > p1)) = true ->
  Q 0 h20) ∧
  ((decide (r16 > p1)) = false ->
  (((r16 == p1)) = true ->
  F.xaw.j1 Q p1 r16 r17 r17 h20) ∧
  (((r16 == p1)) = false ->
  F.xaw.j1 Q p1 r16 r17 false h20))))
theorem F.xaw_ok {p0 : Option Addr} {p1 : Int} {p2 : S_api_Cell} {h : H} {Q : Int -> H -> Prop} (H : F.xaw p0 p1 p2 h Q) : Fn PP 66 ([(.pointer p0), (.int .i64 p1), (.agg p2.cells.toArray)] : List Value).toArray h fun r h' => ∃ r0, r = (.int .i64 r0) ∧ Q r0 h' := by
 unfold F.xaw at H;refine fn_of Tryz.func66 Tryz.ntmps66 rfl rfl fun w0 => (tr_sub [(0, (.pointer p0)), (1, (.int .i64 p1)), (2, (.agg p2.cells.toArray))] ⟨rfl, rfl, rfl, trivial⟩ (tr_seq (tr_region (tr_e (f_box (cs := p2.cells.toArray) rfl rfl H) rfl rfl ?_))));rintro _ h1 ⟨a2, rfl, H⟩;refine tq (y_assign rfl) (tr_nil (tr_thenN (tr_seq (tr_seq (tr_region ?_)))));obtain ⟨y3, k4, H⟩ := H;refine tr_h (y_ldS Tryz.isAgg35 Tryz.sizeOf35 rfl rfl) k4 rfl rfl (tr_e (e_call Tryz.call56 rfl (F.xaf_ok H)) rfl rfl ?_);rintro _ h5 ⟨r6, r7, rfl, H⟩;refine tq (y_move rfl) (tq (y_ext rfl rfl) (tq (y_ext rfl rfl) (tq (y_assign rfl) (tq (y_assign rfl) (tr_nil (tr_thenN (tr_seq (tr_region (tq (y_move rfl) (tq (y_neq rfl rfl) (tr_nil (tr_thenN ?_))))))))))));refine tr_cond rfl (fun g8 => ?_) (fun g8 => ?_)
 ·replace H := H.1 g8;refine tr_seq (tr_region (tq (y_assign rfl) (tr_nil (tr_thenN (tr_ret (tr_thenR ?_))))));exact tr_ret1 rfl rfl ⟨_, rfl, H⟩
 ·replace H := H.2 g8;refine tr_skip (tr_thenN (tr_seq (tr_region (tq (y_move rfl) ?_))));obtain ⟨y9, k10, H⟩ := H;refine tr_h (y_ldS Tryz.isAgg35 Tryz.sizeOf35 rfl rfl) k10 rfl rfl (tr_e (e_call Tryz.call57 rfl (F.xce_ok H)) rfl rfl ?_);rintro _ h11 ⟨r12, rfl, H⟩;refine tq (y_assign rfl) (tr_nil (tr_thenN (tr_seq (tr_seq (tr_region (tq (y_move rfl) (tq (y_pnil_eql Tryz.runUnderlying107 rfl rfl) (tr_nil (tr_thenN ?_)))))))));refine tr_cond rfl (fun g13 => ?_) (fun g13 => ?_)
  ·replace H := H.1 g13;refine tr_seq (tr_region (tq (y_assign rfl) (tr_nil (tr_thenN (tr_ret (tr_thenR ?_))))));exact tr_ret1 rfl rfl ⟨_, rfl, H⟩
  ·replace H := H.2 g13;refine tr_skip (tr_thenN (tr_seq (tr_region (tq (y_move rfl) (tr_e (e_call Tryz.call65 rfl (F.xbr_ok H)) rfl rfl ?_)))));rintro _ h14 ⟨r15, r16, r17, rfl, H⟩;refine tq (y_move rfl) (tq (y_ext rfl rfl) (tq (y_ext rfl rfl) (tq (y_ext rfl rfl) (tr_e (f_alloc (cs := ((⟨0, 0, 0, 0⟩ : S_api_Agg) : S_api_Agg).cells.toArray) Tryz.zeroValue40 rfl H) rfl rfl ?_))));rintro _ h18 ⟨a19, rfl, H⟩;refine tr_e (f_store (vs := r15.cells) Tryz.sizeOf40 rfl rfl cellsOfStruct rfl (by intro v hv; exact ones_S_api_Agg _ v hv) H) rfl rfl ?_;rintro _ h20 ⟨rfl, H⟩;refine tq (y_assign rfl) (tq (y_assign rfl) (tr_nil (tr_thenN (tr_seq (tr_block (tr_seq (tr_region (tq (y_move rfl) (tq (y_move rfl) (tq (y_gtr rfl rfl) (tq (y_assign rfl) (tr_nil (tr_thenN ?_)))))))))))));refine tr_cond rfl (fun g21 => ?_) (fun g21 => ?_)
   ·replace H := H.1 g21;refine tr_seq (tr_region (tq (y_assign rfl) (tr_nil (tr_thenN (tr_ret (tr_blockR (tr_thenR ?_)))))));exact tr_ret1 rfl rfl ⟨_, rfl, H⟩
   ·replace H := H.2 g21;refine tr_seq_j (fun L' h => ∃ (x1 : Int) (x11 : Int) (x12 : Bool) (x35 : Bool), L' = [(1, (.int .i64 x1)), (11, (.int .i64 x11)), (12, (.bool x12)), (35, (.bool x35))] ∧ F.xaw.j1 Q x1 x11 x12 x35 h) ?_ ?_
    ·rintro L' h ⟨x1, x11, x12, x35, rfl, H⟩;unfold F.xaw.j1 at H;refine tr_cond rfl (fun g22 => ?_) (fun g22 => ?_)
     ·replace H := H.1 g22;refine tr_seq (tr_region (tq (y_assign rfl) (tr_nil (tr_thenN (tr_ret (tr_blockR (tr_thenR ?_)))))));exact tr_ret1 rfl rfl ⟨_, rfl, H⟩
     ·replace H := H.2 g22;refine tr_seq_j (fun L' h => ∃ (x42 : Bool), L' = [(42, (.bool x42))] ∧ F.xaw.j2 Q x42 h) ?_ ?_
      ·rintro L' h ⟨x42, rfl, H⟩;unfold F.xaw.j2 at H;refine tr_cond rfl (fun g23 => ?_) (fun g23 => ?_)
       ·replace H := H.1 g23;refine tr_seq (tr_region (tq (y_assign rfl) (tr_nil (tr_thenN (tr_ret (tr_blockR (tr_thenR ?_)))))));exact tr_ret1 rfl rfl ⟨_, rfl, H⟩
       ·replace H := H.2 g23;refine tr_skip (tr_blockN (tr_thenN (tr_seq (tr_region (tq (y_assign rfl) (tr_nil (tr_thenN (tr_ret ?_))))))));exact tr_ret1 rfl rfl ⟨_, rfl, H⟩
      ·refine tr_region (tq (y_move rfl) (tq (y_move rfl) (tq (y_eql rfl rfl) (tq (y_move rfl) ?_))));refine tr_split (t := 46) rfl (fun g24 => ?_) (fun g24 => ?_)
       ·replace H := H.1 g24;refine ts (tq (y_pick_t rfl rfl) (tq (y_assign rfl) (tr_nil (tr_thenN ?_))));exact tr_join [(42, (.bool true))] ⟨rfl, trivial⟩ ⟨_, rfl, H⟩
       ·replace H := H.2 g24;refine tq (y_move rfl) (tq (y_pick_f rfl rfl) (tq (y_assign rfl) (tr_nil (tr_thenN ?_))));exact tr_join [(42, (.bool x12))] ⟨rfl, trivial⟩ ⟨_, rfl, H⟩
    ·refine tr_region (tq (y_move rfl) (tq (y_move rfl) (tq (y_eql rfl rfl) (tq (y_move rfl) ?_))));refine tr_split (t := 39) rfl (fun g25 => ?_) (fun g25 => ?_)
     ·replace H := H.1 g25;refine tq (y_move rfl) (tq (y_pick_t rfl rfl) (tq (y_assign rfl) (tr_nil (tr_thenN ?_))));exact tr_join [(1, (.int .i64 p1)), (11, (.int .i64 r16)), (12, (.bool r17)), (35, (.bool r17))] ⟨rfl, rfl, rfl, rfl, trivial⟩ ⟨_, _, _, _, rfl, H⟩
     ·replace H := H.2 g25;refine ts (tq (y_pick_f rfl rfl) (tq (y_assign rfl) (tr_nil (tr_thenN ?_))));exact tr_join [(1, (.int .i64 p1)), (11, (.int .i64 r16)), (12, (.bool r17)), (35, (.bool false))] ⟨rfl, rfl, rfl, rfl, trivial⟩ ⟨_, _, _, _, rfl, H⟩
def F.xav.j2 (Q : Int -> H -> Prop) (x12 : Bool) (h : H) : Prop :=
  (x12 = true ->
  Q 32 h) ∧
  (x12 = false ->
  Q 0 h)
def F.xav.j1 (Q : Int -> H -> Prop) (x0 : Option Addr) (x1 : Int) (x5 : Bool) (h : H) : Prop :=
  (x5 = true ->
  Q 1 h) ∧
  (x5 = false ->
  nn x0 fun a3 =>
  ldL h (a3.add 0) fun y5 =>
  ((decide ((y5.len : Int) > 0)) = true ->
  nn x0 fun a8 =>
  ldL h (a8.add 0) fun y10 =>
  nn x0 fun a12 =>
  ldL h (a12.add 0) fun y14 =>
  idxA y10 (IntKind.wrap .i64 ((y14.len : Int) - 1)) 6 fun a16 =>
  ldI .i64 h (a16.add 0) fun y18 =>
  F.xav.j2 Q (decide (x1 < y18)) h) ∧
  ((decide ((y5.len : Int) > 0)) = false ->
  F.xav.j2 Q false h))
def F.xav (p0 : Option Addr) (p1 : Int) (h : H) (Q : Int -> H -> Prop) : Prop :=
  ((decide (p1 < 1)) = true ->
  F.xav.j1 Q p0 p1 true h) ∧
  ((decide (p1 < 1)) = false ->
  F.xav.j1 Q p0 p1 (decide (p1 > 1099511627776)) h)
theorem F.xav_ok {p0 : Option Addr} {p1 : Int} {h : H} {Q : Int -> H -> Prop} (H : F.xav p0 p1 h Q) : Fn PP 95 ([(.pointer p0), (.int .i64 p1)] : List Value).toArray h fun r h' => ∃ r0, r = (.int .i64 r0) ∧ Q r0 h' := by
 unfold F.xav at H;refine fn_of Tryz.func95 Tryz.ntmps95 rfl rfl fun w0 => (tr_sub [(0, (.pointer p0)), (1, (.int .i64 p1))] ⟨rfl, rfl, trivial⟩ (tr_seq (tr_region (tq (y_assign rfl) (tr_nil (tr_thenN (tr_seq (tr_block ?_))))))));refine tr_seq_j (fun L' h => ∃ (x0 : Option Addr) (x1 : Int) (x5 : Bool), L' = [(0, (.pointer x0)), (1, (.int .i64 x1)), (5, (.bool x5))] ∧ F.xav.j1 Q x0 x1 x5 h) ?_ ?_
 ·rintro L' h ⟨x0, x1, x5, rfl, H⟩;unfold F.xav.j1 at H;refine tr_cond rfl (fun g1 => ?_) (fun g1 => ?_)
  ·replace H := H.1 g1;refine tr_seq (tr_region (tq (y_assign rfl) (tr_nil (tr_thenN (tr_ret (tr_blockR (tr_thenR ?_)))))));exact tr_ret1 rfl rfl ⟨_, rfl, H⟩
  ·replace H := H.2 g1;refine tr_seq_j (fun L' h => ∃ (x12 : Bool), L' = [(12, (.bool x12))] ∧ F.xav.j2 Q x12 h) ?_ ?_
   ·rintro L' h ⟨x12, rfl, H⟩;unfold F.xav.j2 at H;refine tr_cond rfl (fun g2 => ?_) (fun g2 => ?_)
    ·replace H := H.1 g2;refine tr_seq (tr_region (tq (y_assign rfl) (tr_nil (tr_thenN (tr_ret (tr_blockR (tr_thenR ?_)))))));exact tr_ret1 rfl rfl ⟨_, rfl, H⟩
    ·replace H := H.2 g2;refine tr_skip (tr_blockN (tr_thenN (tr_seq (tr_region (tq (y_assign rfl) (tr_nil (tr_thenN (tr_ret ?_))))))));exact tr_ret1 rfl rfl ⟨_, rfl, H⟩
   ·refine tr_draw mixed [0, 1, 3, 7, 15, 31, 63, 127, 127, 383, 895, 1919, 127, 4223, 12415, 28799, 61567, 127103, 262015, 524159, 1048447, 2097151, 4194303, 8388607] (by kernel_rfl) (g_p 0 1 rfl (by kernel_rfl) (y_move rfl) rfl rfl ?_);obtain ⟨a3, e4, H⟩ := H;refine g_p 1 3 rfl (by kernel_rfl) (f_nn rfl e4) rfl rfl (g_p 2 7 rfl (by kernel_rfl) (y_fa (off := 0) Tryz.runUnderlying164 fo_164_0 rfl) rfl rfl ?_);obtain ⟨y5, k6, H⟩ := H;refine g_h 3 15 rfl (by kernel_rfl) (y_ld Tryz.isAgg162 rfl) k6 rfl rfl (g_p 4 31 rfl (by kernel_rfl) (y_len (ts := #[]) Tryz.runUnderlying162 (o := y5.ptr) (n := y5.len) (cap := y5.cap) rfl) rfl rfl (g_p 5 63 rfl (by kernel_rfl) (y_gtr rfl rfl) rfl rfl (g_p 6 127 rfl (by kernel_rfl) (y_move rfl) rfl rfl ?_)));refine g_split (t := 19) rfl (fun g7 => ?_) (fun g7 => ?_)
    ·replace H := H.1 g7;refine g_p 7 255 rfl (by kernel_rfl) (y_move rfl) rfl rfl (g_p 8 511 rfl (by kernel_rfl) (y_move rfl) rfl rfl ?_);obtain ⟨a8, e9, H⟩ := H;refine g_p 9 1023 rfl (by kernel_rfl) (f_nn rfl e9) rfl rfl (g_p 10 2047 rfl (by kernel_rfl) (y_fa (off := 0) Tryz.runUnderlying164 fo_164_0 rfl) rfl rfl ?_);obtain ⟨y10, k11, H⟩ := H;refine g_h 11 4095 rfl (by kernel_rfl) (y_ld Tryz.isAgg162 rfl) k11 rfl rfl (g_p 12 8191 rfl (by kernel_rfl) (y_move rfl) rfl rfl ?_);obtain ⟨a12, e13, H⟩ := H;refine g_p 13 16383 rfl (by kernel_rfl) (f_nn rfl e13) rfl rfl (g_p 14 32767 rfl (by kernel_rfl) (y_fa (off := 0) Tryz.runUnderlying164 fo_164_0 rfl) rfl rfl ?_);obtain ⟨y14, k15, H⟩ := H;refine g_h 15 65535 rfl (by kernel_rfl) (y_ld Tryz.isAgg162 rfl) k15 rfl rfl (g_p 16 131071 rfl (by kernel_rfl) (y_len (ts := #[]) Tryz.runUnderlying162 (o := y14.ptr) (n := y14.len) (cap := y14.cap) rfl) rfl rfl (g_p 17 262143 rfl (by kernel_rfl) (y_sub rfl rfl) rfl rfl ?_));obtain ⟨a16, e17, H⟩ := H;refine g_p 18 524287 rfl (by kernel_rfl) (f_idx (s := y10) Tryz.runUnderlying162 Tryz.sizeOf152 rfl rfl e17) rfl rfl (g_p 19 1048575 rfl (by kernel_rfl) (y_fa (off := 0) Tryz.runUnderlying152 fo_152_0 rfl) rfl rfl ?_);obtain ⟨y18, k19, H⟩ := H;refine g_h 20 2097151 rfl (by kernel_rfl) (y_ld Tryz.isAgg3 rfl) k19 rfl rfl (g_p 21 4194303 rfl (by kernel_rfl) (y_lss rfl rfl) rfl rfl (g_p 22 8388607 rfl (by kernel_rfl) (y_pick_t rfl rfl) rfl rfl (g_p 23 16777215 rfl (by kernel_rfl) (y_assign rfl) rfl rfl (g_d (by kernel_rfl) (tr_thenN ?_)))));exact tr_join [(12, (.bool (decide (x1 < y18))))] ⟨rfl, trivial⟩ ⟨_, rfl, H⟩
    ·replace H := H.2 g7;refine g_s 7 255 rfl (by kernel_rfl) rfl rfl (g_s 8 511 rfl (by kernel_rfl) rfl rfl (g_s 9 1023 rfl (by kernel_rfl) rfl rfl (g_s 10 2047 rfl (by kernel_rfl) rfl rfl (g_s 11 4095 rfl (by kernel_rfl) rfl rfl (g_s 12 8191 rfl (by kernel_rfl) rfl rfl (g_s 13 16383 rfl (by kernel_rfl) rfl rfl (g_s 14 32767 rfl (by kernel_rfl) rfl rfl (g_s 15 65535 rfl (by kernel_rfl) rfl rfl (g_s 16 131071 rfl (by kernel_rfl) rfl rfl (g_s 17 262143 rfl (by kernel_rfl) rfl rfl (g_s 18 524287 rfl (by kernel_rfl) rfl rfl (g_s 19 1048575 rfl (by kernel_rfl) rfl rfl (g_s 20 2097151 rfl (by kernel_rfl) rfl rfl ?_)))))))))))));refine g_s 21 4194303 rfl (by kernel_rfl) rfl rfl (g_p 22 8388607 rfl (by kernel_rfl) (y_pick_f rfl rfl) rfl rfl (g_p 23 16777215 rfl (by kernel_rfl) (y_assign rfl) rfl rfl (g_d (by kernel_rfl) (tr_thenN ?_))));exact tr_join [(12, (.bool false))] ⟨rfl, trivial⟩ ⟨_, rfl, H⟩
 ·refine tr_region (tq (y_move rfl) (tq (y_lss rfl rfl) (tq (y_move rfl) ?_)));refine tr_split (t := 8) rfl (fun g20 => ?_) (fun g20 => ?_)
  ·replace H := H.1 g20;refine ts (ts (tq (y_pick_t rfl rfl) (tq (y_assign rfl) (tr_nil (tr_thenN ?_)))));exact tr_join [(0, (.pointer p0)), (1, (.int .i64 p1)), (5, (.bool true))] ⟨rfl, rfl, rfl, trivial⟩ ⟨_, _, _, rfl, H⟩
  ·replace H := H.2 g20;refine tq (y_move rfl) (tq (y_gtr rfl rfl) (tq (y_pick_f rfl rfl) (tq (y_assign rfl) (tr_nil (tr_thenN ?_)))));exact tr_join [(0, (.pointer p0)), (1, (.int .i64 p1)), (5, (.bool (decide (p1 > 1099511627776))))] ⟨rfl, rfl, rfl, trivial⟩ ⟨_, _, _, rfl, H⟩
def F.xas.j1 (Q : Int -> H -> Prop) (x0 : Option Addr) (x3 : Addr) (h : H) : Prop :=
  nn x0 fun a3 =>
  ldL h (a3.add 0) fun y5 =>
  ld_S_chain_version_api_Agg h x3 fun y7 =>
  newL h ((y7.cells).toArray) ty_152 1 fun s10 h9 =>
  cellH h9 (a3.add 0) = some y5.enc ∧
  runL PP (Builtin.append_ #[162, 162] 162 #[y5.enc, s10.enc]) h9 fun s13 h12 =>
  nn x0 fun a14 =>
  stH h12 (a14.add 0) [s13.enc] fun h16 =>
  Q 1 h16
def F.xas.j2 (Q : Int -> H -> Prop) (x0 : Option Addr) (x3 : Addr) (x5 : Int) (x26 : Bool) (h : H) : Prop :=
  (x26 = true ->
  nn x0 fun a22 =>
  ldL h (a22.add 0) fun y24 =>
  ld_S_chain_version_api_Agg h x3 fun y26 =>
  idxA y24 (IntKind.wrap .i64 (x5 - 1)) 6 fun a28 =>
  stH h a28 y26.cells fun h30 =>
  Q 0 h30) ∧
  (x26 = false ->
  F.xas.j1 Q x0 x3 h)
def F.xas (p0 : Option Addr) (p1 : S_chain_version_api_Agg) (h : H) (Q : Int -> H -> Prop) : Prop :=
  new h p1.cells.toArray ty_152 fun a2 h1 =>
  nn p0 fun a17 =>
  ldL h1 (a17.add 0) fun y19 =>
  ((decide ((y19.len : Int) > 0)) = true ->
  nn p0 fun a32 =>
  ldL h1 (a32.add 0) fun y34 =>
  idxA y34 (IntKind.wrap .i64 ((y19.len : Int) - 1)) 6 fun a36 =>
  ldI .i64 h1 (a36.add 0) fun y38 =>
  ldI .i64 h1 (a2.add 0) fun y40 =>
  F.xas.j2 Q p0 a2 (y19.len : Int) ((y38 == y40)) h1) ∧
  ((decide ((y19.len : Int) > 0)) = false ->
  F.xas.j2 Q p0 a2 (y19.len : Int) false h1)
theorem F.xas_ok {p0 : Option Addr} {p1 : S_chain_version_api_Agg} {h : H} {Q : Int -> H -> Prop} (H : F.xas p0 p1 h Q) : Fn PP 96 ([(.pointer p0), (.agg p1.cells.toArray)] : List Value).toArray h fun r h' => ∃ r0, r = (.int .i64 r0) ∧ Q r0 h' := by
 unfold F.xas at H;refine fn_of Tryz.func96 Tryz.ntmps96 rfl rfl fun w0 => (tr_sub [(0, (.pointer p0)), (1, (.agg p1.cells.toArray))] ⟨rfl, rfl, trivial⟩ (tr_seq (tr_region (tr_e (f_box (cs := p1.cells.toArray) rfl rfl H) rfl rfl ?_))));rintro _ h1 ⟨a2, rfl, H⟩;refine tq (y_assign rfl) (tr_nil (tr_thenN ?_));refine tr_seq_j (fun L' h => ∃ (x0 : Option Addr) (x3 : Addr), L' = [(0, (.pointer x0)), (3, (.pointer (some x3)))] ∧ F.xas.j1 Q x0 x3 h) ?_ ?_
 ·rintro L' h ⟨x0, x3, rfl, H⟩;unfold F.xas.j1 at H;refine tr_seq (tr_draw mixed [0, 0, 2, 6, 14, 0, 32, 126, 255, 511, 1023] (by kernel_rfl) (g_p 0 1 rfl (by kernel_rfl) (y_move rfl) rfl rfl (g_p 1 3 rfl (by kernel_rfl) (y_move rfl) rfl rfl ?_)));obtain ⟨a3, e4, H⟩ := H;refine g_p 2 7 rfl (by kernel_rfl) (f_nn rfl e4) rfl rfl (g_p 3 15 rfl (by kernel_rfl) (y_fa (off := 0) Tryz.runUnderlying164 fo_164_0 rfl) rfl rfl ?_);obtain ⟨y5, k6, H⟩ := H;refine g_h 4 31 rfl (by kernel_rfl) (y_ld Tryz.isAgg162 rfl) k6 rfl rfl ?_;obtain ⟨y7, k8, H⟩ := H;refine g_h 5 63 rfl (by kernel_rfl) (y_ldS Tryz.isAgg152 Tryz.sizeOf152 rfl rfl) k8 rfl rfl (g_e 6 127 [(4, fun h => cellH h (a3.add 0) = some y5.enc)] (by kernel_rfl) rfl (by kernel_rfl) (f_buildL (cs := (y7.cells).toArray) rfl rfl (bl_162_1_0 y7) H) rfl rfl ?_);rintro _ h9 ⟨s10, rfl, H⟩;obtain ⟨k11, H⟩ := H;refine ⟨And.intro k11 trivial, ?_⟩;refine g_e 7 255 [] (by kernel_rfl) rfl (by kernel_rfl) (f_app rfl H) rfl rfl ?_;rintro _ h12 ⟨s13, rfl, H⟩;refine ⟨trivial, ?_⟩;obtain ⟨a14, e15, H⟩ := H;refine g_p 8 511 rfl (by kernel_rfl) (f_nn rfl e15) rfl rfl (g_p 9 1023 rfl (by kernel_rfl) (y_fa (off := 0) Tryz.runUnderlying164 fo_164_0 rfl) rfl rfl (g_e 10 2047 [] (by kernel_rfl) rfl (by kernel_rfl) (f_store (vs := [s13.enc]) Tryz.sizeOf162 rfl rfl rfl rfl (one1 rfl) H) rfl rfl ?_));rintro _ h16 ⟨rfl, H⟩;refine ⟨trivial, ?_⟩;refine g_d (by kernel_rfl) (tr_thenN (tr_seq (tr_region (tq (y_assign rfl) (tr_nil (tr_thenN (tr_ret ?_)))))));exact tr_ret1 rfl rfl ⟨_, rfl, H⟩
 ·refine tr_seq (tr_region (tq (y_move rfl) ?_));obtain ⟨a17, e18, H⟩ := H;refine tq (f_nn rfl e18) (tq (y_fa (off := 0) Tryz.runUnderlying164 fo_164_0 rfl) ?_);obtain ⟨y19, k20, H⟩ := H;refine tr_h (y_ld Tryz.isAgg162 rfl) k20 rfl rfl (tq (y_len (ts := #[]) Tryz.runUnderlying162 (o := y19.ptr) (n := y19.len) (cap := y19.cap) rfl) (tq (y_assign rfl) (tr_nil (tr_thenN ?_))));refine tr_seq_j (fun L' h => ∃ (x0 : Option Addr) (x3 : Addr) (x5 : Int) (x26 : Bool), L' = [(0, (.pointer x0)), (3, (.pointer (some x3))), (5, (.int .i64 x5)), (26, (.bool x26))] ∧ F.xas.j2 Q x0 x3 x5 x26 h) ?_ ?_
  ·rintro L' h ⟨x0, x3, x5, x26, rfl, H⟩;unfold F.xas.j2 at H;refine tr_cond rfl (fun g21 => ?_) (fun g21 => ?_)
   ·replace H := H.1 g21;refine tr_seq (tr_draw mixed [0, 1, 3, 7, 0, 16, 0, 127, 255] (by kernel_rfl) (g_p 0 1 rfl (by kernel_rfl) (y_move rfl) rfl rfl ?_));obtain ⟨a22, e23, H⟩ := H;refine g_p 1 3 rfl (by kernel_rfl) (f_nn rfl e23) rfl rfl (g_p 2 7 rfl (by kernel_rfl) (y_fa (off := 0) Tryz.runUnderlying164 fo_164_0 rfl) rfl rfl ?_);obtain ⟨y24, k25, H⟩ := H;refine g_h 3 15 rfl (by kernel_rfl) (y_ld Tryz.isAgg162 rfl) k25 rfl rfl (g_p 4 31 rfl (by kernel_rfl) (y_move rfl) rfl rfl (g_p 5 63 rfl (by kernel_rfl) (y_sub rfl rfl) rfl rfl ?_));obtain ⟨y26, k27, H⟩ := H;refine g_h 6 127 rfl (by kernel_rfl) (y_ldS Tryz.isAgg152 Tryz.sizeOf152 rfl rfl) k27 rfl rfl ?_;obtain ⟨a28, e29, H⟩ := H;refine g_p 7 255 rfl (by kernel_rfl) (f_idx (s := y24) Tryz.runUnderlying162 Tryz.sizeOf152 rfl rfl e29) rfl rfl (g_e 8 511 [] (by kernel_rfl) rfl (by kernel_rfl) (f_store (vs := y26.cells) Tryz.sizeOf152 rfl rfl cellsOfStruct rfl (by intro v hv; exact ones_S_chain_version_api_Agg _ v hv) H) rfl rfl ?_);rintro _ h30 ⟨rfl, H⟩;refine ⟨trivial, ?_⟩;refine g_d (by kernel_rfl) (tr_thenN (tr_seq (tr_region (tq (y_assign rfl) (tr_nil (tr_thenN (tr_ret (tr_thenR ?_))))))));exact tr_ret1 rfl rfl ⟨_, rfl, H⟩
   ·replace H := H.2 g21;refine tr_skip (tr_thenN ?_);exact tr_join [(0, (.pointer x0)), (3, (.pointer (some x3)))] ⟨rfl, rfl, trivial⟩ ⟨_, _, rfl, H⟩
  ·refine tr_draw mixed [0, 1, 3, 7, 15, 31, 63, 7, 135, 511, 1023, 2047, 7, 4103, 16383, 32767] (by kernel_rfl) (g_p 0 1 rfl (by kernel_rfl) (y_move rfl) rfl rfl (g_p 1 3 rfl (by kernel_rfl) (y_gtr rfl rfl) rfl rfl (g_p 2 7 rfl (by kernel_rfl) (y_move rfl) rfl rfl ?_)));refine g_split (t := 13) rfl (fun g31 => ?_) (fun g31 => ?_)
   ·replace H := H.1 g31;refine g_p 3 15 rfl (by kernel_rfl) (y_move rfl) rfl rfl ?_;obtain ⟨a32, e33, H⟩ := H;refine g_p 4 31 rfl (by kernel_rfl) (f_nn rfl e33) rfl rfl (g_p 5 63 rfl (by kernel_rfl) (y_fa (off := 0) Tryz.runUnderlying164 fo_164_0 rfl) rfl rfl ?_);obtain ⟨y34, k35, H⟩ := H;refine g_h 6 127 rfl (by kernel_rfl) (y_ld Tryz.isAgg162 rfl) k35 rfl rfl (g_p 7 255 rfl (by kernel_rfl) (y_move rfl) rfl rfl (g_p 8 511 rfl (by kernel_rfl) (y_sub rfl rfl) rfl rfl ?_));obtain ⟨a36, e37, H⟩ := H;refine g_p 9 1023 rfl (by kernel_rfl) (f_idx (s := y34) Tryz.runUnderlying162 Tryz.sizeOf152 rfl rfl e37) rfl rfl (g_p 10 2047 rfl (by kernel_rfl) (y_fa (off := 0) Tryz.runUnderlying152 fo_152_0 rfl) rfl rfl ?_);obtain ⟨y38, k39, H⟩ := H;refine g_h 11 4095 rfl (by kernel_rfl) (y_ld Tryz.isAgg3 rfl) k39 rfl rfl (g_p 12 8191 rfl (by kernel_rfl) (y_fa (off := 0) Tryz.runUnderlying152 fo_152_0 rfl) rfl rfl ?_);obtain ⟨y40, k41, H⟩ := H;refine g_h 13 16383 rfl (by kernel_rfl) (y_ld Tryz.isAgg3 rfl) k41 rfl rfl (g_p 14 32767 rfl (by kernel_rfl) (y_eql rfl rfl) rfl rfl (g_p 15 65535 rfl (by kernel_rfl) (y_pick_t rfl rfl) rfl rfl (g_d (by kernel_rfl) (tr_thenN ?_))));exact tr_join [(0, (.pointer p0)), (3, (.pointer (some a2))), (5, (.int .i64 (y19.len : Int))), (26, (.bool ((y38 == y40))))] ⟨rfl, rfl, rfl, rfl, trivial⟩ ⟨_, _, _, _, rfl, H⟩
   ·replace H := H.2 g31;refine g_s 3 15 rfl (by kernel_rfl) rfl rfl (g_s 4 31 rfl (by kernel_rfl) rfl rfl (g_s 5 63 rfl (by kernel_rfl) rfl rfl (g_s 6 127 rfl (by kernel_rfl) rfl rfl (g_s 7 255 rfl (by kernel_rfl) rfl rfl (g_s 8 511 rfl (by kernel_rfl) rfl rfl (g_s 9 1023 rfl (by kernel_rfl) rfl rfl (g_s 10 2047 rfl (by kernel_rfl) rfl rfl (g_s 11 4095 rfl (by kernel_rfl) rfl rfl (g_s 12 8191 rfl (by kernel_rfl) rfl rfl (g_s 13 16383 rfl (by kernel_rfl) rfl rfl (g_s 14 32767 rfl (by kernel_rfl) rfl rfl (g_p 15 65535 rfl (by kernel_rfl) (y_pick_f rfl rfl) rfl rfl (g_d (by kernel_rfl) ?_)))))))))))));refine tr_thenN ?_;exact tr_join [(0, (.pointer p0)), (3, (.pointer (some a2))), (5, (.int .i64 (y19.len : Int))), (26, (.bool false))] ⟨rfl, rfl, rfl, rfl, trivial⟩ ⟨_, _, _, _, rfl, H⟩
def F.xcg (p0 : Option Addr) (p1 : Int) (p2 : S_api_Agg) (h : H) (Q : Int -> Int -> H -> Prop) : Prop :=
  new h p2.cells.toArray ty_40 fun a2 h1 =>
  F.xav p0 p1 h1 fun r4 h3 =>
  (((r4 != 0)) = true ->
  Q 0 r4 h3) ∧
  (((r4 != 0)) = false ->
  ld_S_api_Agg h3 a2 fun y6 =>
  F.xas p0 (⟨p1, y6, false⟩ : S_chain_version_api_Agg) h3 fun r9 h8 =>
  Q r9 0 h8)
theorem F.xcg_ok {p0 : Option Addr} {p1 : Int} {p2 : S_api_Agg} {h : H} {Q : Int -> Int -> H -> Prop} (H : F.xcg p0 p1 p2 h Q) : Fn PP 69 ([(.pointer p0), (.int .i64 p1), (.agg p2.cells.toArray)] : List Value).toArray h fun r h' => ∃ r0 r1, r = .tuple #[(.int .i64 r0), (.int .i64 r1)] ∧ Q r0 r1 h' := by
 unfold F.xcg at H;refine fn_of Tryz.func69 Tryz.ntmps69 rfl rfl fun w0 => (tr_sub [(0, (.pointer p0)), (1, (.int .i64 p1)), (2, (.agg p2.cells.toArray))] ⟨rfl, rfl, rfl, trivial⟩ (tr_seq (tr_region (tr_e (f_box (cs := p2.cells.toArray) rfl rfl H) rfl rfl ?_))));rintro _ h1 ⟨a2, rfl, H⟩;refine tq (y_assign rfl) (tq (y_assign rfl) (tr_nil (tr_thenN (tr_seq (tr_seq (tr_region (tq (y_move rfl) (tq (y_move rfl) (tr_e (e_call Tryz.call95 rfl (F.xav_ok H)) rfl rfl ?_)))))))));rintro _ h3 ⟨r4, rfl, H⟩;refine tq (y_assign rfl) (tr_nil (tr_thenN (tr_seq (tr_region (tq (y_move rfl) (tq (y_neq rfl rfl) (tr_nil (tr_thenN ?_))))))));refine tr_cond rfl (fun g5 => ?_) (fun g5 => ?_)
 ·replace H := H.1 g5;refine tr_seq (tr_region (tq (y_move rfl) (tq (y_assign rfl) (tq (y_assign rfl) (tr_nil (tr_thenN (tr_ret (tr_thenR ?_))))))));exact tr_ret2 rfl rfl rfl ⟨_, _, rfl, H⟩
 ·replace H := H.2 g5;refine tr_skip (tr_thenN (tr_seq (tr_region (tq (y_move rfl) (tq (y_move rfl) ?_)))));obtain ⟨y6, k7, H⟩ := H;refine tr_h (y_ldS Tryz.isAgg40 Tryz.sizeOf40 rfl rfl) k7 rfl rfl (tq (f_build rfl (bd_152_0_1 p1 y6)) (tr_e (e_call Tryz.call96 rfl (F.xas_ok H)) rfl rfl ?_));rintro _ h8 ⟨r9, rfl, H⟩;refine tq (y_assign rfl) (tq (y_assign rfl) (tr_nil (tr_thenN (tr_ret ?_))));exact tr_ret2 rfl rfl rfl ⟨_, _, rfl, H⟩
def F.xby  (h : H) (Q : (Option Addr) -> H -> Prop) : Prop :=
  new h ((⟨(⟨none, 0, 0⟩ : Sl)⟩ : S_chain_Chain_api_Agg).cells.toArray) ty_164 fun a2 h1 =>
  Q (some a2) h1
theorem F.xby_ok  {h : H} {Q : (Option Addr) -> H -> Prop} (H : F.xby  h Q) : Fn PP 67 ([] : List Value).toArray h fun r h' => ∃ r0, r = (.pointer r0) ∧ Q r0 h' := by
 unfold F.xby at H;refine fn_of Tryz.func67 Tryz.ntmps67 rfl rfl fun w0 => (tr_sub [] trivial (tr_seq (tr_region (tq (y_assign rfl) (tr_nil (tr_thenN (tr_seq (tr_region (tq (f_build rfl (bd_164_ )) (tr_e (f_box (cs := (⟨(⟨none, 0, 0⟩ : Sl)⟩ : S_chain_Chain_api_Agg).cells.toArray) rfl rfl H) rfl rfl ?_))))))))));rintro _ h1 ⟨a2, rfl, H⟩;refine tq (y_assign rfl) (tr_nil (tr_thenN (tr_ret ?_)));exact tr_ret1 rfl rfl ⟨_, rfl, H⟩
def F.xch (p0 : Option Addr) (h : H) (Q : Int -> H -> Prop) : Prop :=
  nn p0 fun a1 =>
  ldL h (a1.add 1) fun y3 =>
  nn p0 fun a5 =>
  ldI .i64 h (a5.add 2) fun y7 =>
  Q (IntKind.wrap .i64 ((y3.len : Int) - y7)) h
theorem F.xch_ok {p0 : Option Addr} {h : H} {Q : Int -> H -> Prop} (H : F.xch p0 h Q) : Fn PP 128 ([(.pointer p0)] : List Value).toArray h fun r h' => ∃ r0, r = (.int .i64 r0) ∧ Q r0 h' := by
 unfold F.xch at H;refine fn_of Tryz.func128 Tryz.ntmps128 rfl rfl fun w0 => (tr_sub [(0, (.pointer p0))] ⟨rfl, trivial⟩ (tr_seq (tr_region (tq (y_assign rfl) (tr_nil (tr_thenN (tr_seq (tr_draw mixed [0, 1, 3, 7, 15, 0, 32, 96, 224, 511, 1023] (by kernel_rfl) (g_p 0 1 rfl (by kernel_rfl) (y_move rfl) rfl rfl ?_)))))))));obtain ⟨a1, e2, H⟩ := H;refine g_p 1 3 rfl (by kernel_rfl) (f_nn rfl e2) rfl rfl (g_p 2 7 rfl (by kernel_rfl) (y_fa (off := 1) Tryz.runUnderlying148 fo_148_1 rfl) rfl rfl ?_);obtain ⟨y3, k4, H⟩ := H;refine g_h 3 15 rfl (by kernel_rfl) (y_ld Tryz.isAgg146 rfl) k4 rfl rfl (g_p 4 31 rfl (by kernel_rfl) (y_len (ts := #[]) Tryz.runUnderlying146 (o := y3.ptr) (n := y3.len) (cap := y3.cap) rfl) rfl rfl (g_p 5 63 rfl (by kernel_rfl) (y_move rfl) rfl rfl ?_));obtain ⟨a5, e6, H⟩ := H;refine g_p 6 127 rfl (by kernel_rfl) (f_nn rfl e6) rfl rfl (g_p 7 255 rfl (by kernel_rfl) (y_fa (off := 2) Tryz.runUnderlying148 fo_148_2 rfl) rfl rfl ?_);obtain ⟨y7, k8, H⟩ := H;refine g_h 8 511 rfl (by kernel_rfl) (y_ld Tryz.isAgg3 rfl) k8 rfl rfl (g_p 9 1023 rfl (by kernel_rfl) (y_sub rfl rfl) rfl rfl (g_p 10 2047 rfl (by kernel_rfl) (y_assign rfl) rfl rfl (g_d (by kernel_rfl) (tr_thenN (tr_ret ?_)))));exact tr_ret1 rfl rfl ⟨_, rfl, H⟩
def F.xab.j3 (Q : Int -> H -> Prop) (C1 : (Option Addr) -> Int -> H -> Prop) (x0 : Option Addr) (x1 : Int) (h : H) : Prop :=
  C1 x0 (IntKind.wrap .i64 (x1 - 1)) h
def F.xab.j4 (Q : Int -> H -> Prop) (C1 : (Option Addr) -> Int -> H -> Prop) (x0 : Option Addr) (x1 : Int) (h : H) : Prop :=
  nn x0 fun a1 =>
  ldI .i64 h (a1.add 2) fun y3 =>
  nn x0 fun a5 =>
  stH h (a5.add 2) [(.int .i64 (IntKind.wrap .i64 (y3 + 1)))] fun h7 =>
  F.xab.j3 Q C1 x0 x1 h7
def F.xab.j2 (Q : Int -> H -> Prop) (C1 : (Option Addr) -> Int -> H -> Prop) (x0 : Option Addr) (x1 : Int) (h : H) : Prop :=
  nn x0 fun a8 =>
  ldL h (a8.add 1) fun y10 =>
  nn x0 fun a12 =>
  ldI .i64 h (a12.add 2) fun y14 =>
  idxA y10 y14 3 fun a16 =>
  ldI .u8 h (a16.add 0) fun y18 =>
  (((y18 == 1)) = true ->
  nn x0 fun a21 =>
  ldL h (a21.add 0) fun y23 =>
  ldS h (a16.add 1) fun y25 =>
  F.xah y23 y25 h fun r28 r29 h27 =>
  nn x0 fun a30 =>
  ldL h27 (a30.add 0) fun y32 =>
  ld_S_table_place_chain_Chain_api_Agg h27 a16 fun y34 =>
  idxA y32 r28 3 fun a36 =>
  stH h27 a36 y34.cells fun h38 =>
  stH h38 a16 ((⟨2, (⟨#[]⟩ : ByteArray), none⟩ : S_table_place_chain_Chain_api_Agg).cells) fun h39 =>
  F.xab.j4 Q C1 x0 x1 h39) ∧
  (((y18 == 1)) = false ->
  F.xab.j4 Q C1 x0 x1 h)
def F.xab.j6 (Q : Int -> H -> Prop) (x0 : Option Addr) (h : H) : Prop :=
  F.xch x0 h fun r42 h41 =>
  Q r42 h41
def F.xab.j5 (Q : Int -> H -> Prop) (C1 : (Option Addr) -> Int -> H -> Prop) (x0 : Option Addr) (x1 : Int) (x21 : Bool) (h : H) : Prop :=
  (x21 = true ->
  F.xab.j2 Q C1 x0 x1 h) ∧
  (x21 = false ->
  nn x0 fun a43 =>
  ldI .i64 h (a43.add 2) fun y45 =>
  nn x0 fun a47 =>
  ldL h (a47.add 1) fun y49 =>
  (((y45 == (y49.len : Int))) = true ->
  nn x0 fun a52 =>
  stH h (a52.add 1) [(⟨none, 0, 0⟩ : Sl).enc] fun h54 =>
  nn x0 fun a55 =>
  stH h54 (a55.add 2) [(.int .i64 0)] fun h57 =>
  F.xab.j6 Q x0 h57) ∧
  (((y45 == (y49.len : Int))) = false ->
  F.xab.j6 Q x0 h))
def F.xab.l1 (Q : Int -> H -> Prop) : Nat -> (Option Addr) -> Int -> H -> Prop
  | 0, _, _, _ => False
  | q1 + 1, x0, x1, h =>
    ((decide (x1 > 0)) = true ->
    nn x0 fun a59 =>
    ldI .i64 h (a59.add 2) fun y61 =>
    nn x0 fun a63 =>
    ldL h (a63.add 1) fun y65 =>
    F.xab.j5 Q (F.xab.l1 Q q1) x0 x1 (decide (y61 < (y65.len : Int))) h) ∧
    ((decide (x1 > 0)) = false ->
    F.xab.j5 Q (F.xab.l1 Q q1) x0 x1 false h)
def F.xab (p0 : Option Addr) (p1 : Int) (h : H) (Q : Int -> H -> Prop) : Prop :=
  ∃ m, F.xab.l1 Q m p0 p1 h
theorem F.xab_ok {p0 : Option Addr} {p1 : Int} {h : H} {Q : Int -> H -> Prop} (H : F.xab p0 p1 h Q) : Fn PP 101 ([(.pointer p0), (.int .i64 p1)] : List Value).toArray h fun r h' => ∃ r0, r = (.int .i64 r0) ∧ Q r0 h' := by
 unfold F.xab at H;refine fn_of Tryz.func101 Tryz.ntmps101 rfl rfl fun w0 => (tr_sub [(0, (.pointer p0)), (1, (.int .i64 p1))] ⟨rfl, rfl, trivial⟩ (tr_seq (tr_region (tq (y_assign rfl) (tr_nil (tr_thenN (tr_seq (tr_block ?_))))))));obtain ⟨m67, H⟩ := H;refine tr_sub [(0, (.pointer p0)), (1, (.int .i64 p1))] ⟨rfl, rfl, trivial⟩ ?_;refine tr_loop_j (fun m L' h => ∃ (x0 : Option Addr) (x1 : Int), L' = [(0, (.pointer x0)), (1, (.int .i64 x1))] ∧ F.xab.l1 Q m x0 x1 h) ?_ ?_ m67 ⟨_, _, rfl, H⟩
 ·rintro L' h ⟨_, _, _, H⟩; exact H
 ·rintro q1 L' h ⟨x0, x1, rfl, H⟩;unfold F.xab.l1 at H;refine tr_seq_j (fun L' h => ∃ (x0 : Option Addr) (x1 : Int), L' = [(0, (.pointer x0)), (1, (.int .i64 x1))] ∧ F.xab.j2 Q (F.xab.l1 Q q1) x0 x1 h) ?_ ?_
  ·rintro L' h ⟨x0, x1, rfl, H⟩;unfold F.xab.j2 at H;refine tr_seq_j (fun L' h => ∃ (x0 : Option Addr) (x1 : Int), L' = [(0, (.pointer x0)), (1, (.int .i64 x1))] ∧ F.xab.j3 Q (F.xab.l1 Q q1) x0 x1 h) ?_ ?_
   ·rintro L' h ⟨x0, x1, rfl, H⟩;unfold F.xab.j3 at H;refine tr_region (tq (y_move rfl) (tq (y_sub rfl rfl) (tq (y_assign rfl) (tr_nil (tr_thenN ?_)))));exact tr_join [(0, (.pointer x0)), (1, (.int .i64 (IntKind.wrap .i64 (x1 - 1))))] ⟨rfl, rfl, trivial⟩ ⟨_, _, rfl, H⟩
   ·refine tr_block ?_;refine tr_seq_j (fun L' h => ∃ (x0 : Option Addr) (x1 : Int), L' = [(0, (.pointer x0)), (1, (.int .i64 x1))] ∧ F.xab.j4 Q (F.xab.l1 Q q1) x0 x1 h) ?_ ?_
    ·rintro L' h ⟨x0, x1, rfl, H⟩;unfold F.xab.j4 at H;refine tr_region (tq (y_move rfl) ?_);obtain ⟨a1, e2, H⟩ := H;refine tq (f_nn rfl e2) (tq (y_fa (off := 2) Tryz.runUnderlying148 fo_148_2 rfl) ?_);obtain ⟨y3, k4, H⟩ := H;refine tr_h (y_ld Tryz.isAgg3 rfl) k4 rfl rfl (tq (y_add rfl rfl) ?_);obtain ⟨a5, e6, H⟩ := H;refine tq (f_nn rfl e6) (tq (y_fa (off := 2) Tryz.runUnderlying148 fo_148_2 rfl) (tr_e (f_store (vs := [(.int .i64 (IntKind.wrap .i64 (y3 + 1)))]) Tryz.sizeOf3 rfl rfl rfl rfl (one1 rfl) H) rfl rfl ?_));rintro _ h7 ⟨rfl, H⟩;refine tr_nil (tr_blockN (tr_thenN ?_));exact tr_join [(0, (.pointer x0)), (1, (.int .i64 x1))] ⟨rfl, rfl, trivial⟩ ⟨_, _, rfl, H⟩
    ·refine tr_seq (tr_draw mixed [0, 1, 3, 7, 0, 16, 48, 112, 255, 511] (by kernel_rfl) (g_p 0 1 rfl (by kernel_rfl) (y_move rfl) rfl rfl ?_));obtain ⟨a8, e9, H⟩ := H;refine g_p 1 3 rfl (by kernel_rfl) (f_nn rfl e9) rfl rfl (g_p 2 7 rfl (by kernel_rfl) (y_fa (off := 1) Tryz.runUnderlying148 fo_148_1 rfl) rfl rfl ?_);obtain ⟨y10, k11, H⟩ := H;refine g_h 3 15 rfl (by kernel_rfl) (y_ld Tryz.isAgg146 rfl) k11 rfl rfl (g_p 4 31 rfl (by kernel_rfl) (y_move rfl) rfl rfl ?_);obtain ⟨a12, e13, H⟩ := H;refine g_p 5 63 rfl (by kernel_rfl) (f_nn rfl e13) rfl rfl (g_p 6 127 rfl (by kernel_rfl) (y_fa (off := 2) Tryz.runUnderlying148 fo_148_2 rfl) rfl rfl ?_);obtain ⟨y14, k15, H⟩ := H;refine g_h 7 255 rfl (by kernel_rfl) (y_ld Tryz.isAgg3 rfl) k15 rfl rfl ?_;obtain ⟨a16, e17, H⟩ := H;refine g_p 8 511 rfl (by kernel_rfl) (f_idx (s := y10) Tryz.runUnderlying146 Tryz.sizeOf156 rfl rfl e17) rfl rfl (g_p 9 1023 rfl (by kernel_rfl) (y_assign rfl) rfl rfl (g_d (by kernel_rfl) (tr_thenN (tr_seq (tr_region (tq (y_move rfl) (tq (y_nil rfl) (tq (y_fa (off := 0) Tryz.runUnderlying156 fo_156_0 rfl) ?_))))))));obtain ⟨y18, k19, H⟩ := H;refine tr_h (y_ld Tryz.isAgg5 rfl) k19 rfl rfl (tq (y_eql rfl rfl) (tr_nil (tr_thenN ?_)));refine tr_cond rfl (fun g20 => ?_) (fun g20 => ?_)
     ·replace H := H.1 g20;refine tr_seq (tr_draw mixed [0, 1, 3, 7, 0, 16, 48, 112, 255, 511, 1023, 1023, 2047, 8191] (by kernel_rfl) (g_p 0 1 rfl (by kernel_rfl) (y_move rfl) rfl rfl ?_));obtain ⟨a21, e22, H⟩ := H;refine g_p 1 3 rfl (by kernel_rfl) (f_nn rfl e22) rfl rfl (g_p 2 7 rfl (by kernel_rfl) (y_fa (off := 0) Tryz.runUnderlying148 fo_148_0 rfl) rfl rfl ?_);obtain ⟨y23, k24, H⟩ := H;refine g_h 3 15 rfl (by kernel_rfl) (y_ld Tryz.isAgg146 rfl) k24 rfl rfl (g_p 4 31 rfl (by kernel_rfl) (y_move rfl) rfl rfl (g_p 5 63 rfl (by kernel_rfl) (y_nil rfl) rfl rfl (g_p 6 127 rfl (by kernel_rfl) (y_fa (off := 1) Tryz.runUnderlying156 fo_156_1 rfl) rfl rfl ?_)));obtain ⟨y25, k26, H⟩ := H;refine g_h 7 255 rfl (by kernel_rfl) (y_ld Tryz.isAgg9 rfl) k26 rfl rfl (g_e 8 511 [] (by kernel_rfl) rfl (by kernel_rfl) (e_call Tryz.call102 rfl (F.xah_ok H)) rfl rfl ?_);rintro _ h27 ⟨r28, r29, rfl, H⟩;refine ⟨trivial, ?_⟩;refine g_p 9 1023 rfl (by kernel_rfl) (y_move rfl) rfl rfl (g_p 10 2047 rfl (by kernel_rfl) (y_ext rfl rfl) rfl rfl (g_p 11 4095 rfl (by kernel_rfl) (y_ext rfl rfl) rfl rfl (g_p 12 8191 rfl (by kernel_rfl) (y_assign rfl) rfl rfl (g_p 13 16383 rfl (by kernel_rfl) (y_assign rfl) rfl rfl (g_d (by kernel_rfl) (tr_thenN (tr_seq (tr_draw mixed [0, 1, 3, 7, 0, 0, 32, 96, 255, 511] (by kernel_rfl) (g_p 0 1 rfl (by kernel_rfl) (y_move rfl) rfl rfl ?_)))))))));obtain ⟨a30, e31, H⟩ := H;refine g_p 1 3 rfl (by kernel_rfl) (f_nn rfl e31) rfl rfl (g_p 2 7 rfl (by kernel_rfl) (y_fa (off := 0) Tryz.runUnderlying148 fo_148_0 rfl) rfl rfl ?_);obtain ⟨y32, k33, H⟩ := H;refine g_h 3 15 rfl (by kernel_rfl) (y_ld Tryz.isAgg146 rfl) k33 rfl rfl (g_p 4 31 rfl (by kernel_rfl) (y_move rfl) rfl rfl (g_p 5 63 rfl (by kernel_rfl) (y_move rfl) rfl rfl (g_p 6 127 rfl (by kernel_rfl) (y_nil rfl) rfl rfl ?_)));obtain ⟨y34, k35, H⟩ := H;refine g_h 7 255 rfl (by kernel_rfl) (y_ldS Tryz.isAgg156 Tryz.sizeOf156 rfl rfl) k35 rfl rfl ?_;obtain ⟨a36, e37, H⟩ := H;refine g_p 8 511 rfl (by kernel_rfl) (f_idx (s := y32) Tryz.runUnderlying146 Tryz.sizeOf156 rfl rfl e37) rfl rfl (g_e 9 1023 [] (by kernel_rfl) rfl (by kernel_rfl) (f_store (vs := y34.cells) Tryz.sizeOf156 rfl rfl cellsOfStruct rfl (by intro v hv; exact ones_S_table_place_chain_Chain_api_Agg _ v hv) H) rfl rfl ?_);rintro _ h38 ⟨rfl, H⟩;refine ⟨trivial, ?_⟩;refine g_d (by kernel_rfl) (tr_thenN (tr_region (tq (y_move rfl) (tq (f_build rfl (bd_156_0 2)) (tq (y_nil rfl) (tr_e (f_store (vs := (⟨2, (⟨#[]⟩ : ByteArray), none⟩ : S_table_place_chain_Chain_api_Agg).cells) Tryz.sizeOf156 rfl rfl cellsOfStruct rfl (by intro v hv; exact ones_S_table_place_chain_Chain_api_Agg _ v hv) H) rfl rfl ?_))))));rintro _ h39 ⟨rfl, H⟩;refine tr_nil (tr_thenN ?_);exact tr_join [(0, (.pointer x0)), (1, (.int .i64 x1))] ⟨rfl, rfl, trivial⟩ ⟨_, _, rfl, H⟩
     ·replace H := H.2 g20;refine tr_skip (tr_thenN ?_);exact tr_join [(0, (.pointer x0)), (1, (.int .i64 x1))] ⟨rfl, rfl, trivial⟩ ⟨_, _, rfl, H⟩
  ·refine tr_seq_j (fun L' h => ∃ (x0 : Option Addr) (x1 : Int) (x21 : Bool), L' = [(0, (.pointer x0)), (1, (.int .i64 x1)), (21, (.bool x21))] ∧ F.xab.j5 Q (F.xab.l1 Q q1) x0 x1 x21 h) ?_ ?_
   ·rintro L' h ⟨x0, x1, x21, rfl, H⟩;unfold F.xab.j5 at H;refine tr_cond rfl (fun g40 => ?_) (fun g40 => ?_)
    ·replace H := H.1 g40;refine tr_skip (tr_thenN ?_);exact tr_join [(0, (.pointer x0)), (1, (.int .i64 x1))] ⟨rfl, rfl, trivial⟩ ⟨_, _, rfl, H⟩
    ·replace H := H.2 g40;refine tr_exit (tr_thenE (tr_thenE (tr_hit (tr_thenN ?_))));refine tr_seq_j (fun L' h => ∃ (x0 : Option Addr), L' = [(0, (.pointer x0))] ∧ F.xab.j6 Q x0 h) ?_ ?_
     ·rintro L' h ⟨x0, rfl, H⟩;unfold F.xab.j6 at H;refine tr_seq (tr_region (tq (y_move rfl) (tr_e (e_call Tryz.call128 rfl (F.xch_ok H)) rfl rfl ?_)));rintro _ h41 ⟨r42, rfl, H⟩;refine tq (y_assign rfl) (tr_nil (tr_thenN (tr_ret ?_)));exact tr_ret1 rfl rfl ⟨_, rfl, H⟩
     ·refine tr_seq (tr_draw mixed [0, 1, 3, 7, 0, 16, 48, 112, 240, 511] (by kernel_rfl) (g_p 0 1 rfl (by kernel_rfl) (y_move rfl) rfl rfl ?_));obtain ⟨a43, e44, H⟩ := H;refine g_p 1 3 rfl (by kernel_rfl) (f_nn rfl e44) rfl rfl (g_p 2 7 rfl (by kernel_rfl) (y_fa (off := 2) Tryz.runUnderlying148 fo_148_2 rfl) rfl rfl ?_);obtain ⟨y45, k46, H⟩ := H;refine g_h 3 15 rfl (by kernel_rfl) (y_ld Tryz.isAgg3 rfl) k46 rfl rfl (g_p 4 31 rfl (by kernel_rfl) (y_move rfl) rfl rfl ?_);obtain ⟨a47, e48, H⟩ := H;refine g_p 5 63 rfl (by kernel_rfl) (f_nn rfl e48) rfl rfl (g_p 6 127 rfl (by kernel_rfl) (y_fa (off := 1) Tryz.runUnderlying148 fo_148_1 rfl) rfl rfl ?_);obtain ⟨y49, k50, H⟩ := H;refine g_h 7 255 rfl (by kernel_rfl) (y_ld Tryz.isAgg146 rfl) k50 rfl rfl (g_p 8 511 rfl (by kernel_rfl) (y_len (ts := #[]) Tryz.runUnderlying146 (o := y49.ptr) (n := y49.len) (cap := y49.cap) rfl) rfl rfl (g_p 9 1023 rfl (by kernel_rfl) (y_eql rfl rfl) rfl rfl (g_d (by kernel_rfl) (tr_thenN ?_))));refine tr_cond rfl (fun g51 => ?_) (fun g51 => ?_)
      ·replace H := H.1 g51;refine tr_region (tq (y_move rfl) (tq (y_move rfl) ?_));obtain ⟨a52, e53, H⟩ := H;refine tq (f_nn rfl e53) (tq (y_fa (off := 1) Tryz.runUnderlying148 fo_148_1 rfl) (tr_e (f_store (vs := [(⟨none, 0, 0⟩ : Sl).enc]) Tryz.sizeOf146 rfl rfl rfl rfl (one1 rfl) H) rfl rfl ?_));rintro _ h54 ⟨rfl, H⟩;obtain ⟨a55, e56, H⟩ := H;refine tq (f_nn rfl e56) (tq (y_fa (off := 2) Tryz.runUnderlying148 fo_148_2 rfl) (tr_e (f_store (vs := [(.int .i64 0)]) Tryz.sizeOf3 rfl rfl rfl rfl (one1 rfl) H) rfl rfl ?_));rintro _ h57 ⟨rfl, H⟩;refine tr_nil (tr_thenN ?_);exact tr_join [(0, (.pointer x0))] ⟨rfl, trivial⟩ ⟨_, rfl, H⟩
      ·replace H := H.2 g51;refine tr_skip (tr_thenN ?_);exact tr_join [(0, (.pointer x0))] ⟨rfl, trivial⟩ ⟨_, rfl, H⟩
   ·refine tr_draw mixed [0, 1, 3, 7, 15, 31, 63, 7, 135, 391, 903, 1927, 4095, 8191] (by kernel_rfl) (g_p 0 1 rfl (by kernel_rfl) (y_move rfl) rfl rfl (g_p 1 3 rfl (by kernel_rfl) (y_gtr rfl rfl) rfl rfl (g_p 2 7 rfl (by kernel_rfl) (y_move rfl) rfl rfl ?_)));refine g_split (t := 10) rfl (fun g58 => ?_) (fun g58 => ?_)
    ·replace H := H.1 g58;refine g_p 3 15 rfl (by kernel_rfl) (y_move rfl) rfl rfl ?_;obtain ⟨a59, e60, H⟩ := H;refine g_p 4 31 rfl (by kernel_rfl) (f_nn rfl e60) rfl rfl (g_p 5 63 rfl (by kernel_rfl) (y_fa (off := 2) Tryz.runUnderlying148 fo_148_2 rfl) rfl rfl ?_);obtain ⟨y61, k62, H⟩ := H;refine g_h 6 127 rfl (by kernel_rfl) (y_ld Tryz.isAgg3 rfl) k62 rfl rfl (g_p 7 255 rfl (by kernel_rfl) (y_move rfl) rfl rfl ?_);obtain ⟨a63, e64, H⟩ := H;refine g_p 8 511 rfl (by kernel_rfl) (f_nn rfl e64) rfl rfl (g_p 9 1023 rfl (by kernel_rfl) (y_fa (off := 1) Tryz.runUnderlying148 fo_148_1 rfl) rfl rfl ?_);obtain ⟨y65, k66, H⟩ := H;refine g_h 10 2047 rfl (by kernel_rfl) (y_ld Tryz.isAgg146 rfl) k66 rfl rfl (g_p 11 4095 rfl (by kernel_rfl) (y_len (ts := #[]) Tryz.runUnderlying146 (o := y65.ptr) (n := y65.len) (cap := y65.cap) rfl) rfl rfl (g_p 12 8191 rfl (by kernel_rfl) (y_lss rfl rfl) rfl rfl (g_p 13 16383 rfl (by kernel_rfl) (y_pick_t rfl rfl) rfl rfl (g_d (by kernel_rfl) (tr_thenN ?_)))));exact tr_join [(0, (.pointer x0)), (1, (.int .i64 x1)), (21, (.bool (decide (y61 < (y65.len : Int)))))] ⟨rfl, rfl, rfl, trivial⟩ ⟨_, _, _, rfl, H⟩
    ·replace H := H.2 g58;refine g_s 3 15 rfl (by kernel_rfl) rfl rfl (g_s 4 31 rfl (by kernel_rfl) rfl rfl (g_s 5 63 rfl (by kernel_rfl) rfl rfl (g_s 6 127 rfl (by kernel_rfl) rfl rfl (g_s 7 255 rfl (by kernel_rfl) rfl rfl (g_s 8 511 rfl (by kernel_rfl) rfl rfl (g_s 9 1023 rfl (by kernel_rfl) rfl rfl (g_s 10 2047 rfl (by kernel_rfl) rfl rfl (g_s 11 4095 rfl (by kernel_rfl) rfl rfl (g_s 12 8191 rfl (by kernel_rfl) rfl rfl (g_p 13 16383 rfl (by kernel_rfl) (y_pick_f rfl rfl) rfl rfl (g_d (by kernel_rfl) (tr_thenN ?_))))))))))));exact tr_join [(0, (.pointer x0)), (1, (.int .i64 x1)), (21, (.bool false))] ⟨rfl, rfl, rfl, trivial⟩ ⟨_, _, _, rfl, H⟩
def F.xbd.j1 (Q : H -> Prop) (x0 : Option Addr) (x1 : ByteArray) (x2 : Option Addr) (h : H) : Prop :=
  nn x0 fun a9 =>
  ldL h (a9.add 0) fun y11 =>
  F.xah y11 x1 h fun r14 r15 h13 =>
  nn x0 fun a16 =>
  ldL h13 (a16.add 0) fun y18 =>
  idxA y18 r14 3 fun a20 =>
  stH h13 a20 ((⟨1, x1, x2⟩ : S_table_place_chain_Chain_api_Agg).cells) fun h22 =>
  nn x0 fun a23 =>
  ldI .i64 h22 (a23.add 3) fun y25 =>
  nn x0 fun a27 =>
  stH h22 (a27.add 3) [(.int .i64 (IntKind.wrap .i64 (y25 + 1)))] fun h29 =>
  Q h29
def F.xbd (p0 : Option Addr) (p1 : ByteArray) (p2 : Option Addr) (h : H) (Q : H -> Prop) : Prop :=
  F.xab p0 4 h fun r2 h1 =>
  F.xbu p0 p1 h1 fun r4 h3 =>
  ((!r4.isNone) = true ->
  nn r4 fun a6 =>
  stH h3 (a6.add 2) [(.pointer p2)] fun h8 =>
  Q h8) ∧
  ((!r4.isNone) = false ->
  nn p0 fun a30 =>
  ldI .i64 h3 (a30.add 3) fun y32 =>
  nn p0 fun a34 =>
  ldL h3 (a34.add 0) fun y36 =>
  ((decide ((IntKind.wrap .i64 (4 * (IntKind.wrap .i64 (y32 + 1)))) > (IntKind.wrap .i64 (3 * (y36.len : Int))))) = true ->
  nn p0 fun a39 =>
  ldL h3 (a39.add 1) fun y41 =>
  F.xab p0 (y41.len : Int) h3 fun r44 h43 =>
  nn p0 fun a45 =>
  ldL h43 (a45.add 0) fun y47 =>
  nn p0 fun a49 =>
  ldL h43 (a49.add 0) fun y51 =>
  runL PP (Instr.makeSlice 146 (.int .i64 (IntKind.wrap .i64 (2 * (y47.len : Int)))) (.int .i64 (IntKind.wrap .i64 (2 * (y47.len : Int))))) h43 fun s54 h53 =>
  cellH h53 (a49.add 0) = some y51.enc ∧
  nn p0 fun a56 =>
  stH h53 (a56.add 0) [s54.enc] fun h58 =>
  nn p0 fun a59 =>
  stH h58 (a59.add 1) [y51.enc] fun h61 =>
  nn p0 fun a62 =>
  stH h61 (a62.add 2) [(.int .i64 0)] fun h64 =>
  F.xbd.j1 Q p0 p1 p2 h64) ∧
  ((decide ((IntKind.wrap .i64 (4 * (IntKind.wrap .i64 (y32 + 1)))) > (IntKind.wrap .i64 (3 * (y36.len : Int))))) = false ->
  F.xbd.j1 Q p0 p1 p2 h3))
theorem F.xbd_ok {p0 : Option Addr} {p1 : ByteArray} {p2 : Option Addr} {h : H} {Q : H -> Prop} (H : F.xbd p0 p1 p2 h Q) : Fn PP 68 ([(.pointer p0), (.string p1), (.pointer p2)] : List Value).toArray h fun r h' => r = .tuple #[] ∧ Q  h' := by
 unfold F.xbd at H;refine fn_of Tryz.func68 Tryz.ntmps68 rfl rfl fun w0 => (tr_sub [(0, (.pointer p0)), (1, (.string p1)), (2, (.pointer p2))] ⟨rfl, rfl, rfl, trivial⟩ (tr_seq (tr_region (tq (y_move rfl) (tr_e (e_call Tryz.call101 rfl (F.xab_ok H)) rfl rfl ?_)))));rintro _ h1 ⟨r2, rfl, H⟩;refine tr_nil (tr_thenN (tr_seq (tr_seq (tr_region (tq (y_move rfl) (tq (y_move rfl) (tr_e (e_call Tryz.call107 rfl (F.xbu_ok H)) rfl rfl ?_)))))));rintro _ h3 ⟨r4, rfl, H⟩;refine tq (y_assign rfl) (tr_nil (tr_thenN (tr_seq (tr_region (tq (y_move rfl) (tq (y_pnil_neq Tryz.runUnderlying174 rfl rfl) (tr_nil (tr_thenN ?_))))))));refine tr_cond rfl (fun g5 => ?_) (fun g5 => ?_)
 ·replace H := H.1 g5;refine tr_seq (tr_region (tq (y_move rfl) (tq (y_move rfl) ?_)));obtain ⟨a6, e7, H⟩ := H;refine tq (f_nn rfl e7) (tq (y_fa (off := 2) Tryz.runUnderlying156 fo_156_2 rfl) (tr_e (f_store (vs := [(.pointer p2)]) Tryz.sizeOf107 rfl rfl rfl rfl (one1 rfl) H) rfl rfl ?_));rintro _ h8 ⟨rfl, H⟩;refine tr_nil (tr_thenN (tr_ret (tr_thenR ?_)));exact tr_ret0 rfl ⟨rfl, H⟩
 ·replace H := H.2 g5;refine tr_skip (tr_thenN ?_);refine tr_seq_j (fun L' h => ∃ (x0 : Option Addr) (x1 : ByteArray) (x2 : Option Addr), L' = [(0, (.pointer x0)), (1, (.string x1)), (2, (.pointer x2))] ∧ F.xbd.j1 Q x0 x1 x2 h) ?_ ?_
  ·rintro L' h ⟨x0, x1, x2, rfl, H⟩;unfold F.xbd.j1 at H;refine tr_seq (tr_region (tq (y_move rfl) ?_));obtain ⟨a9, e10, H⟩ := H;refine tq (f_nn rfl e10) (tq (y_fa (off := 0) Tryz.runUnderlying148 fo_148_0 rfl) ?_);obtain ⟨y11, k12, H⟩ := H;refine tr_h (y_ld Tryz.isAgg146 rfl) k12 rfl rfl (tq (y_move rfl) (tr_e (e_call Tryz.call102 rfl (F.xah_ok H)) rfl rfl ?_));rintro _ h13 ⟨r14, r15, rfl, H⟩;refine tq (y_move rfl) (tq (y_ext rfl rfl) (tq (y_ext rfl rfl) (tq (y_assign rfl) (tq (y_assign rfl) (tr_nil (tr_thenN (tr_seq (tr_region (tq (y_move rfl) ?_)))))))));obtain ⟨a16, e17, H⟩ := H;refine tq (f_nn rfl e17) (tq (y_fa (off := 0) Tryz.runUnderlying148 fo_148_0 rfl) ?_);obtain ⟨y18, k19, H⟩ := H;refine tr_h (y_ld Tryz.isAgg146 rfl) k19 rfl rfl (tq (y_move rfl) (tq (y_move rfl) (tq (y_move rfl) (tq (f_build rfl (bd_156_0_1_2 1 x1 x2)) ?_))));obtain ⟨a20, e21, H⟩ := H;refine tq (f_idx (s := y18) Tryz.runUnderlying146 Tryz.sizeOf156 rfl rfl e21) (tr_e (f_store (vs := (⟨1, x1, x2⟩ : S_table_place_chain_Chain_api_Agg).cells) Tryz.sizeOf156 rfl rfl cellsOfStruct rfl (by intro v hv; exact ones_S_table_place_chain_Chain_api_Agg _ v hv) H) rfl rfl ?_);rintro _ h22 ⟨rfl, H⟩;refine tr_nil (tr_thenN (tr_region (tq (y_move rfl) ?_)));obtain ⟨a23, e24, H⟩ := H;refine tq (f_nn rfl e24) (tq (y_fa (off := 3) Tryz.runUnderlying148 fo_148_3 rfl) ?_);obtain ⟨y25, k26, H⟩ := H;refine tr_h (y_ld Tryz.isAgg3 rfl) k26 rfl rfl (tq (y_add rfl rfl) ?_);obtain ⟨a27, e28, H⟩ := H;refine tq (f_nn rfl e28) (tq (y_fa (off := 3) Tryz.runUnderlying148 fo_148_3 rfl) (tr_e (f_store (vs := [(.int .i64 (IntKind.wrap .i64 (y25 + 1)))]) Tryz.sizeOf3 rfl rfl rfl rfl (one1 rfl) H) rfl rfl ?_));rintro _ h29 ⟨rfl, H⟩;refine tr_nil ?_;exact tr_end0 rfl ⟨rfl, H⟩
  ·refine tr_seq (tr_draw mixed [0, 1, 3, 7, 15, 31, 0, 64, 192, 448, 960, 1984, 4095] (by kernel_rfl) (g_p 0 1 rfl (by kernel_rfl) (y_move rfl) rfl rfl ?_));obtain ⟨a30, e31, H⟩ := H;refine g_p 1 3 rfl (by kernel_rfl) (f_nn rfl e31) rfl rfl (g_p 2 7 rfl (by kernel_rfl) (y_fa (off := 3) Tryz.runUnderlying148 fo_148_3 rfl) rfl rfl ?_);obtain ⟨y32, k33, H⟩ := H;refine g_h 3 15 rfl (by kernel_rfl) (y_ld Tryz.isAgg3 rfl) k33 rfl rfl (g_p 4 31 rfl (by kernel_rfl) (y_add rfl rfl) rfl rfl (g_p 5 63 rfl (by kernel_rfl) (y_mul rfl rfl) rfl rfl (g_p 6 127 rfl (by kernel_rfl) (y_move rfl) rfl rfl ?_)));obtain ⟨a34, e35, H⟩ := H;refine g_p 7 255 rfl (by kernel_rfl) (f_nn rfl e35) rfl rfl (g_p 8 511 rfl (by kernel_rfl) (y_fa (off := 0) Tryz.runUnderlying148 fo_148_0 rfl) rfl rfl ?_);obtain ⟨y36, k37, H⟩ := H;refine g_h 9 1023 rfl (by kernel_rfl) (y_ld Tryz.isAgg146 rfl) k37 rfl rfl (g_p 10 2047 rfl (by kernel_rfl) (y_len (ts := #[]) Tryz.runUnderlying146 (o := y36.ptr) (n := y36.len) (cap := y36.cap) rfl) rfl rfl (g_p 11 4095 rfl (by kernel_rfl) (y_mul rfl rfl) rfl rfl (g_p 12 8191 rfl (by kernel_rfl) (y_gtr rfl rfl) rfl rfl (g_d (by kernel_rfl) (tr_thenN ?_)))));refine tr_cond rfl (fun g38 => ?_) (fun g38 => ?_)
   ·replace H := H.1 g38;refine tr_seq (tr_region (tq (y_move rfl) (tq (y_move rfl) ?_)));obtain ⟨a39, e40, H⟩ := H;refine tq (f_nn rfl e40) (tq (y_fa (off := 1) Tryz.runUnderlying148 fo_148_1 rfl) ?_);obtain ⟨y41, k42, H⟩ := H;refine tr_h (y_ld Tryz.isAgg146 rfl) k42 rfl rfl (tq (y_len (ts := #[]) Tryz.runUnderlying146 (o := y41.ptr) (n := y41.len) (cap := y41.cap) rfl) (tr_e (e_call Tryz.call101 rfl (F.xab_ok H)) rfl rfl ?_));rintro _ h43 ⟨r44, rfl, H⟩;refine tr_nil (tr_thenN (tr_draw mixed [0, 0, 0, 0, 8, 24, 56, 120, 248, 504, 0, 1024, 3072, 7168, 16377, 32761, 65529, 131067, 262139, 524283, 1048575, 2097151, 4194303] (by kernel_rfl) (g_p 0 1 rfl (by kernel_rfl) (y_move rfl) rfl rfl (g_p 1 3 rfl (by kernel_rfl) (y_move rfl) rfl rfl (g_p 2 7 rfl (by kernel_rfl) (y_move rfl) rfl rfl (g_p 3 15 rfl (by kernel_rfl) (y_move rfl) rfl rfl ?_))))));obtain ⟨a45, e46, H⟩ := H;refine g_p 4 31 rfl (by kernel_rfl) (f_nn rfl e46) rfl rfl (g_p 5 63 rfl (by kernel_rfl) (y_fa (off := 0) Tryz.runUnderlying148 fo_148_0 rfl) rfl rfl ?_);obtain ⟨y47, k48, H⟩ := H;refine g_h 6 127 rfl (by kernel_rfl) (y_ld Tryz.isAgg146 rfl) k48 rfl rfl (g_p 7 255 rfl (by kernel_rfl) (y_len (ts := #[]) Tryz.runUnderlying146 (o := y47.ptr) (n := y47.len) (cap := y47.cap) rfl) rfl rfl (g_p 8 511 rfl (by kernel_rfl) (y_mul rfl rfl) rfl rfl (g_p 10 1535 rfl (by kernel_rfl) (y_move rfl) rfl rfl ?_)));obtain ⟨a49, e50, H⟩ := H;refine g_p 11 3583 rfl (by kernel_rfl) (f_nn rfl e50) rfl rfl (g_p 12 7679 rfl (by kernel_rfl) (y_fa (off := 0) Tryz.runUnderlying148 fo_148_0 rfl) rfl rfl ?_);obtain ⟨y51, k52, H⟩ := H;refine g_h 13 15871 rfl (by kernel_rfl) (y_ld Tryz.isAgg146 rfl) k52 rfl rfl (g_e 9 16383 [(13, fun h => cellH h (a49.add 0) = some y51.enc)] (by kernel_rfl) rfl (by kernel_rfl) (f_make rfl rfl H) rfl rfl ?_);rintro _ h53 ⟨s54, rfl, H⟩;obtain ⟨k55, H⟩ := H;refine ⟨And.intro k55 trivial, ?_⟩;obtain ⟨a56, e57, H⟩ := H;refine g_p 14 32767 rfl (by kernel_rfl) (f_nn rfl e57) rfl rfl (g_p 15 65535 rfl (by kernel_rfl) (y_fa (off := 0) Tryz.runUnderlying148 fo_148_0 rfl) rfl rfl (g_e 16 131071 [] (by kernel_rfl) rfl (by kernel_rfl) (f_store (vs := [s54.enc]) Tryz.sizeOf146 rfl rfl rfl rfl (one1 rfl) H) rfl rfl ?_));rintro _ h58 ⟨rfl, H⟩;refine ⟨trivial, ?_⟩;obtain ⟨a59, e60, H⟩ := H;refine g_p 17 262143 rfl (by kernel_rfl) (f_nn rfl e60) rfl rfl (g_p 18 524287 rfl (by kernel_rfl) (y_fa (off := 1) Tryz.runUnderlying148 fo_148_1 rfl) rfl rfl (g_e 19 1048575 [] (by kernel_rfl) rfl (by kernel_rfl) (f_store (vs := [y51.enc]) Tryz.sizeOf146 rfl rfl rfl rfl (one1 rfl) H) rfl rfl ?_));rintro _ h61 ⟨rfl, H⟩;refine ⟨trivial, ?_⟩;obtain ⟨a62, e63, H⟩ := H;refine g_p 20 2097151 rfl (by kernel_rfl) (f_nn rfl e63) rfl rfl (g_p 21 4194303 rfl (by kernel_rfl) (y_fa (off := 2) Tryz.runUnderlying148 fo_148_2 rfl) rfl rfl (g_e 22 8388607 [] (by kernel_rfl) rfl (by kernel_rfl) (f_store (vs := [(.int .i64 0)]) Tryz.sizeOf3 rfl rfl rfl rfl (one1 rfl) H) rfl rfl ?_));rintro _ h64 ⟨rfl, H⟩;refine ⟨trivial, ?_⟩;refine g_d (by kernel_rfl) (tr_thenN ?_);exact tr_join [(0, (.pointer p0)), (1, (.string p1)), (2, (.pointer p2))] ⟨rfl, rfl, rfl, trivial⟩ ⟨_, _, _, rfl, H⟩
   ·replace H := H.2 g38;refine tr_skip (tr_thenN ?_);exact tr_join [(0, (.pointer p0)), (1, (.string p1)), (2, (.pointer p2))] ⟨rfl, rfl, rfl, trivial⟩ ⟨_, _, _, rfl, H⟩
def F.xcv (p0 : Int) (p1 : Int) (h : H) (Q : Int -> Int -> H -> Prop) : Prop :=
  0 <= (32 : Int) ∧
  0 <= (32 : Int) ∧
  0 <= (32 : Int) ∧
  0 <= (32 : Int) ∧
  0 <= (32 : Int) ∧
  Q (IntKind.wrap .u64 ((IntKind.wrap .u64 ((IntKind.wrap .u64 ((Int.fdiv p0 (2 ^ (min (32 : Int).toNat (IntKind.bits .u64)) : Int)) * (Int.fdiv p1 (2 ^ (min (32 : Int).toNat (IntKind.bits .u64)) : Int)))) + (Int.fdiv (IntKind.wrap .u64 ((IntKind.wrap .u64 ((Int.fdiv p0 (2 ^ (min (32 : Int).toNat (IntKind.bits .u64)) : Int)) * (bitsOf .and .u64 p1 4294967295))) + (Int.fdiv (IntKind.wrap .u64 ((bitsOf .and .u64 p0 4294967295) * (bitsOf .and .u64 p1 4294967295))) (2 ^ (min (32 : Int).toNat (IntKind.bits .u64)) : Int)))) (2 ^ (min (32 : Int).toNat (IntKind.bits .u64)) : Int)))) + (Int.fdiv (IntKind.wrap .u64 ((bitsOf .and .u64 (IntKind.wrap .u64 ((IntKind.wrap .u64 ((Int.fdiv p0 (2 ^ (min (32 : Int).toNat (IntKind.bits .u64)) : Int)) * (bitsOf .and .u64 p1 4294967295))) + (Int.fdiv (IntKind.wrap .u64 ((bitsOf .and .u64 p0 4294967295) * (bitsOf .and .u64 p1 4294967295))) (2 ^ (min (32 : Int).toNat (IntKind.bits .u64)) : Int)))) 4294967295) + (IntKind.wrap .u64 ((bitsOf .and .u64 p0 4294967295) * (Int.fdiv p1 (2 ^ (min (32 : Int).toNat (IntKind.bits .u64)) : Int)))))) (2 ^ (min (32 : Int).toNat (IntKind.bits .u64)) : Int)))) (IntKind.wrap .u64 (p0 * p1)) h
theorem F.xcv_ok {p0 : Int} {p1 : Int} {h : H} {Q : Int -> Int -> H -> Prop} (H : F.xcv p0 p1 h Q) : Fn PP 129 ([(.int .u64 p0), (.int .u64 p1)] : List Value).toArray h fun r h' => ∃ r0 r1, r = .tuple #[(.int .u64 r0), (.int .u64 r1)] ∧ Q r0 r1 h' := by
 unfold F.xcv at H;refine fn_of Tryz.func129 Tryz.ntmps129 rfl rfl fun w0 => (tr_sub [(0, (.int .u64 p0)), (1, (.int .u64 p1))] ⟨rfl, rfl, trivial⟩ (tr_seq (tr_region (tq (y_assign rfl) (tq (y_assign rfl) (tr_nil (tr_thenN (tr_seq (tr_region (tq (y_move rfl) (tq (y_and rfl rfl) (tq (y_assign rfl) (tr_nil ?_)))))))))))));refine tr_thenN (tr_seq (tr_region (tq (y_move rfl) ?_)));obtain ⟨e1, H⟩ := H;refine tq (y_shr rfl rfl e1) (tq (y_assign rfl) (tr_nil (tr_thenN (tr_seq (tr_region (tq (y_move rfl) (tq (y_and rfl rfl) (tq (y_assign rfl) (tr_nil (tr_thenN (tr_seq (tr_region (tq (y_move rfl) ?_)))))))))))));obtain ⟨e2, H⟩ := H;refine tq (y_shr rfl rfl e2) (tq (y_assign rfl) (tr_nil (tr_thenN (tr_seq (tr_region (tq (y_move rfl) (tq (y_move rfl) (tq (y_mul rfl rfl) (tq (y_assign rfl) (tr_nil (tr_thenN (tr_seq (tr_region ?_)))))))))))));refine tq (y_move rfl) (tq (y_move rfl) (tq (y_mul rfl rfl) (tq (y_move rfl) ?_)));obtain ⟨e3, H⟩ := H;refine tq (y_shr rfl rfl e3) (tq (y_add rfl rfl) (tq (y_assign rfl) (tr_nil (tr_thenN (tr_seq (tr_region (tq (y_move rfl) (tq (y_and rfl rfl) (tq (y_assign rfl) (tr_nil (tr_thenN (tr_seq (tr_region ?_)))))))))))));refine tq (y_move rfl) ?_;obtain ⟨e4, H⟩ := H;refine tq (y_shr rfl rfl e4) (tq (y_assign rfl) (tr_nil (tr_thenN (tr_seq (tr_region (tq (y_move rfl) (tq (y_move rfl) (tq (y_move rfl) (tq (y_mul rfl rfl) (tq (y_add rfl rfl) (tq (y_assign rfl) (tr_nil (tr_thenN ?_)))))))))))));refine tr_seq (tr_region (tq (y_move rfl) (tq (y_move rfl) (tq (y_mul rfl rfl) (tq (y_move rfl) (tq (y_add rfl rfl) (tq (y_move rfl) ?_)))))));obtain ⟨e5, H⟩ := H;refine tq (y_shr rfl rfl e5) (tq (y_add rfl rfl) (tq (y_assign rfl) (tr_nil (tr_thenN (tr_seq (tr_region (tq (y_move rfl) (tq (y_move rfl) (tq (y_mul rfl rfl) (tq (y_assign rfl) (tr_nil (tr_thenN (tr_ret ?_)))))))))))));exact tr_ret2 rfl rfl rfl ⟨_, _, rfl, H⟩
def F.xam.j1 (Q : S_agg_wide -> H -> Prop) (x4 : Addr) (x5 : Int) (x6 : Int) (h : H) : Prop :=
  stH h x4 ((⟨(IntKind.wrap .i64 x5), x6⟩ : S_agg_wide).cells) fun h6 =>
  ld_S_agg_wide h6 x4 fun y7 =>
  Q y7 h6
def F.xam (p0 : Int) (p1 : Int) (h : H) (Q : S_agg_wide -> H -> Prop) : Prop :=
  new h (((⟨0, 0⟩ : S_agg_wide) : S_agg_wide).cells.toArray) ty_170 fun a2 h1 =>
  F.xcv (IntKind.wrap .u64 p0) (IntKind.wrap .u64 p1) h1 fun r4 r5 h3 =>
  ((decide (p1 < 0)) = true ->
  F.xam.j1 Q a2 (IntKind.wrap .u64 (r4 - (IntKind.wrap .u64 p0))) r5 h3) ∧
  ((decide (p1 < 0)) = false ->
  F.xam.j1 Q a2 r4 r5 h3)
theorem F.xam_ok {p0 : Int} {p1 : Int} {h : H} {Q : S_agg_wide -> H -> Prop} (H : F.xam p0 p1 h Q) : Fn PP 104 ([(.int .i64 p0), (.int .i64 p1)] : List Value).toArray h fun r h' => ∃ r0, r = (.agg r0.cells.toArray) ∧ Q r0 h' := by
 unfold F.xam at H;refine fn_of Tryz.func104 Tryz.ntmps104 rfl rfl fun w0 => (tr_sub [(0, (.int .i64 p0)), (1, (.int .i64 p1))] ⟨rfl, rfl, trivial⟩ (tr_seq (tr_region (tr_e (f_alloc (cs := ((⟨0, 0⟩ : S_agg_wide) : S_agg_wide).cells.toArray) Tryz.zeroValue170 rfl H) rfl rfl ?_))));rintro _ h1 ⟨a2, rfl, H⟩;refine tr_nil (tr_thenN (tr_seq (tr_region (tq (y_move rfl) (tq (y_cvt Tryz.runUnderlying2 Tryz.runUnderlying90 rfl) (tq (y_move rfl) (tq (y_cvt Tryz.runUnderlying2 Tryz.runUnderlying90 rfl) (tr_e (e_call Tryz.call129 rfl (F.xcv_ok H)) rfl rfl ?_))))))));rintro _ h3 ⟨r4, r5, rfl, H⟩;refine tq (y_move rfl) (tq (y_ext rfl rfl) (tq (y_ext rfl rfl) (tq (y_assign rfl) (tq (y_assign rfl) (tr_nil (tr_thenN ?_))))));refine tr_seq_j (fun L' h => ∃ (x4 : Addr) (x5 : Int) (x6 : Int), L' = [(4, (.pointer (some x4))), (5, (.int .u64 x5)), (6, (.int .u64 x6))] ∧ F.xam.j1 Q x4 x5 x6 h) ?_ ?_
 ·rintro L' h ⟨x4, x5, x6, rfl, H⟩;unfold F.xam.j1 at H;refine tr_seq (tr_region (tq (y_move rfl) (tq (y_cvt Tryz.runUnderlying90 Tryz.runUnderlying2 rfl) (tq (y_move rfl) (tq (f_build rfl (bd_170_0_1 (IntKind.wrap .i64 x5) x6)) (tr_e (f_store (vs := (⟨(IntKind.wrap .i64 x5), x6⟩ : S_agg_wide).cells) Tryz.sizeOf170 rfl rfl cellsOfStruct rfl (by intro v hv; exact ones_S_agg_wide _ v hv) H) rfl rfl ?_))))));rintro _ h6 ⟨rfl, H⟩;refine tr_nil (tr_thenN (tr_ret ?_));obtain ⟨y7, k8, H⟩ := H;exact tr_rv1 rfl (rv_cellS Tryz.isAgg170 Tryz.sizeOf170 rfl rfl k8) ⟨_, rfl, H⟩
 ·refine tr_seq (tr_region (tq (y_move rfl) (tq (y_lss rfl rfl) (tr_nil (tr_thenN ?_)))));refine tr_cond rfl (fun g9 => ?_) (fun g9 => ?_)
  ·replace H := H.1 g9;refine tr_region (tq (y_move rfl) (tq (y_move rfl) (tq (y_cvt Tryz.runUnderlying2 Tryz.runUnderlying90 rfl) (tq (y_sub rfl rfl) (tq (y_assign rfl) (tr_nil (tr_thenN ?_)))))));exact tr_join [(4, (.pointer (some a2))), (5, (.int .u64 (IntKind.wrap .u64 (r4 - (IntKind.wrap .u64 p0))))), (6, (.int .u64 r5))] ⟨rfl, rfl, rfl, trivial⟩ ⟨_, _, _, rfl, H⟩
  ·replace H := H.2 g9;refine tr_skip (tr_thenN ?_);exact tr_join [(4, (.pointer (some a2))), (5, (.int .u64 r4)), (6, (.int .u64 r5))] ⟨rfl, rfl, rfl, trivial⟩ ⟨_, _, _, rfl, H⟩
def F.xbc (p0 : S_agg_wide) (p1 : S_agg_wide) (h : H) (Q : S_agg_wide -> H -> Prop) : Prop :=
  new h p0.cells.toArray ty_170 fun a2 h1 =>
  new h1 p1.cells.toArray ty_170 fun a4 h3 =>
  new h3 (((⟨0, 0⟩ : S_agg_wide) : S_agg_wide).cells.toArray) ty_170 fun a6 h5 =>
  ldI .u64 h5 (a2.add 1) fun y7 =>
  ldI .u64 h5 (a4.add 1) fun y9 =>
  ldI .i64 h5 (a2.add 0) fun y11 =>
  ldI .i64 h5 (a4.add 0) fun y13 =>
  stH h5 a6 ((⟨(IntKind.wrap .i64 ((IntKind.wrap .i64 (y11 + y13)) + (IntKind.wrap .i64 (a64c y7 y9)))), (a64s y7 y9)⟩ : S_agg_wide).cells) fun h15 =>
  ld_S_agg_wide h15 a6 fun y16 =>
  Q y16 h15
theorem F.xbc_ok {p0 : S_agg_wide} {p1 : S_agg_wide} {h : H} {Q : S_agg_wide -> H -> Prop} (H : F.xbc p0 p1 h Q) : Fn PP 105 ([(.agg p0.cells.toArray), (.agg p1.cells.toArray)] : List Value).toArray h fun r h' => ∃ r0, r = (.agg r0.cells.toArray) ∧ Q r0 h' := by
 unfold F.xbc at H;refine fn_of Tryz.func105 Tryz.ntmps105 rfl rfl fun w0 => (tr_sub [(0, (.agg p0.cells.toArray)), (1, (.agg p1.cells.toArray))] ⟨rfl, rfl, trivial⟩ (tr_seq (tr_region (tr_e (f_box (cs := p0.cells.toArray) rfl rfl H) rfl rfl ?_))));rintro _ h1 ⟨a2, rfl, H⟩;refine tr_e (f_box (cs := p1.cells.toArray) rfl rfl H) rfl rfl ?_;rintro _ h3 ⟨a4, rfl, H⟩;refine tr_e (f_alloc (cs := ((⟨0, 0⟩ : S_agg_wide) : S_agg_wide).cells.toArray) Tryz.zeroValue170 rfl H) rfl rfl ?_;rintro _ h5 ⟨a6, rfl, H⟩;refine tr_nil (tr_thenN (tr_seq (tr_region (tq (y_fa (off := 1) Tryz.runUnderlying170 fo_170_1 rfl) ?_))));obtain ⟨y7, k8, H⟩ := H;refine tr_h (y_ld Tryz.isAgg90 rfl) k8 rfl rfl (tq (y_fa (off := 1) Tryz.runUnderlying170 fo_170_1 rfl) ?_);obtain ⟨y9, k10, H⟩ := H;refine tr_h (y_ld Tryz.isAgg90 rfl) k10 rfl rfl (tq (y_add64 add64S_130 rfl) (tq (y_move rfl) (tq (y_ext rfl rfl) (tq (y_ext rfl rfl) (tq (y_assign rfl) (tq (y_assign rfl) (tr_nil (tr_thenN (tr_seq (tr_region (tq (y_fa (off := 0) Tryz.runUnderlying170 fo_170_0 rfl) ?_)))))))))));obtain ⟨y11, k12, H⟩ := H;refine tr_h (y_ld Tryz.isAgg2 rfl) k12 rfl rfl (tq (y_fa (off := 0) Tryz.runUnderlying170 fo_170_0 rfl) ?_);obtain ⟨y13, k14, H⟩ := H;refine tr_h (y_ld Tryz.isAgg2 rfl) k14 rfl rfl (tq (y_add rfl rfl) (tq (y_move rfl) (tq (y_cvt Tryz.runUnderlying90 Tryz.runUnderlying2 rfl) (tq (y_add rfl rfl) (tq (y_move rfl) (tq (f_build rfl (bd_170_0_1 (IntKind.wrap .i64 ((IntKind.wrap .i64 (y11 + y13)) + (IntKind.wrap .i64 (a64c y7 y9)))) (a64s y7 y9))) (tr_e (f_store (vs := (⟨(IntKind.wrap .i64 ((IntKind.wrap .i64 (y11 + y13)) + (IntKind.wrap .i64 (a64c y7 y9)))), (a64s y7 y9)⟩ : S_agg_wide).cells) Tryz.sizeOf170 rfl rfl cellsOfStruct rfl (by intro v hv; exact ones_S_agg_wide _ v hv) H) rfl rfl ?_)))))));rintro _ h15 ⟨rfl, H⟩;refine tr_nil (tr_thenN (tr_ret ?_));obtain ⟨y16, k17, H⟩ := H;exact tr_rv1 rfl (rv_cellS Tryz.isAgg170 Tryz.sizeOf170 rfl rfl k17) ⟨_, rfl, H⟩
def F.xcl (p0 : S_agg_wide) (p1 : S_agg_wide) (h : H) (Q : Bool -> H -> Prop) : Prop :=
  new h p0.cells.toArray ty_170 fun a2 h1 =>
  new h1 p1.cells.toArray ty_170 fun a4 h3 =>
  ldI .i64 h3 (a2.add 0) fun y5 =>
  ldI .i64 h3 (a4.add 0) fun y7 =>
  ((decide (y5 < y7)) = true ->
  Q true h3) ∧
  ((decide (y5 < y7)) = false ->
  ldI .i64 h3 (a2.add 0) fun y10 =>
  ldI .i64 h3 (a4.add 0) fun y12 =>
  (((y10 == y12)) = true ->
  ldI .u64 h3 (a2.add 1) fun y15 =>
  ldI .u64 h3 (a4.add 1) fun y17 =>
  Q (decide (y15 <= y17)) h3) ∧
  (((y10 == y12)) = false ->
  Q false h3))
theorem F.xcl_ok {p0 : S_agg_wide} {p1 : S_agg_wide} {h : H} {Q : Bool -> H -> Prop} (H : F.xcl p0 p1 h Q) : Fn PP 106 ([(.agg p0.cells.toArray), (.agg p1.cells.toArray)] : List Value).toArray h fun r h' => ∃ r0, r = (.bool r0) ∧ Q r0 h' := by
 unfold F.xcl at H;refine fn_of Tryz.func106 Tryz.ntmps106 rfl rfl fun w0 => (tr_sub [(0, (.agg p0.cells.toArray)), (1, (.agg p1.cells.toArray))] ⟨rfl, rfl, trivial⟩ (tr_seq (tr_region (tr_e (f_box (cs := p0.cells.toArray) rfl rfl H) rfl rfl ?_))));rintro _ h1 ⟨a2, rfl, H⟩;refine tr_e (f_box (cs := p1.cells.toArray) rfl rfl H) rfl rfl ?_;rintro _ h3 ⟨a4, rfl, H⟩;refine tq (y_assign rfl) (tr_nil (tr_thenN (tr_seq (tr_region (tq (y_fa (off := 0) Tryz.runUnderlying170 fo_170_0 rfl) ?_)))));obtain ⟨y5, k6, H⟩ := H;refine tr_h (y_ld Tryz.isAgg2 rfl) k6 rfl rfl (tq (y_fa (off := 0) Tryz.runUnderlying170 fo_170_0 rfl) ?_);obtain ⟨y7, k8, H⟩ := H;refine tr_h (y_ld Tryz.isAgg2 rfl) k8 rfl rfl (tq (y_lss rfl rfl) (tq (y_move rfl) ?_));refine tr_split (t := 10) rfl (fun g9 => ?_) (fun g9 => ?_)
 ·replace H := H.1 g9;refine ts (ts (ts (ts (ts (ts (ts (ts (ts (ts (ts (ts (tq (y_pick_t rfl rfl) (tq (y_assign rfl) ?_)))))))))))));refine tr_nil (tr_thenN (tr_ret ?_));exact tr_ret1 rfl rfl ⟨_, rfl, H⟩
 ·replace H := H.2 g9;refine tq (y_fa (off := 0) Tryz.runUnderlying170 fo_170_0 rfl) ?_;obtain ⟨y10, k11, H⟩ := H;refine tr_h (y_ld Tryz.isAgg2 rfl) k11 rfl rfl (tq (y_fa (off := 0) Tryz.runUnderlying170 fo_170_0 rfl) ?_);obtain ⟨y12, k13, H⟩ := H;refine tr_h (y_ld Tryz.isAgg2 rfl) k13 rfl rfl (tq (y_eql rfl rfl) (tq (y_move rfl) ?_));refine tr_split (t := 16) rfl (fun g14 => ?_) (fun g14 => ?_)
  ·replace H := H.1 g14;refine tq (y_fa (off := 1) Tryz.runUnderlying170 fo_170_1 rfl) ?_;obtain ⟨y15, k16, H⟩ := H;refine tr_h (y_ld Tryz.isAgg90 rfl) k16 rfl rfl (tq (y_fa (off := 1) Tryz.runUnderlying170 fo_170_1 rfl) ?_);obtain ⟨y17, k18, H⟩ := H;refine tr_h (y_ld Tryz.isAgg90 rfl) k18 rfl rfl (tq (y_leq rfl rfl) (tq (y_pick_t rfl rfl) (tq (y_pick_f rfl rfl) (tq (y_assign rfl) (tr_nil (tr_thenN (tr_ret ?_)))))));exact tr_ret1 rfl rfl ⟨_, rfl, H⟩
  ·replace H := H.2 g14;refine ts (ts (ts (ts (ts (tq (y_pick_f rfl rfl) (tq (y_pick_f rfl rfl) (tq (y_assign rfl) (tr_nil (tr_thenN (tr_ret ?_))))))))));exact tr_ret1 rfl rfl ⟨_, rfl, H⟩
def F.xbj.j1 (Q : Bool -> H -> Prop) (x1 : Addr) (x3 : Addr) (h : H) : Prop :=
  ldI .i64 h (x1.add 1) fun y25 =>
  F.xam 1 y25 h fun r28 h27 =>
  new h27 (((⟨0, 0⟩ : S_agg_wide) : S_agg_wide).cells.toArray) ty_170 fun a30 h29 =>
  stH h29 a30 r28.cells fun h31 =>
  ld_S_agg_wide h31 x3 fun y32 =>
  ldI .i64 h31 (x1.add 0) fun y34 =>
  ldI .i64 h31 (x1.add 2) fun y36 =>
  ld_S_agg_wide h31 a30 fun y38 =>
  F.xam (IntKind.wrap .i64 (y34 - 2)) y36 h31 fun r41 h40 =>
  Cells h40 a30 y38.cells ∧
  Cells h40 x3 y32.cells ∧
  F.xbc y32 r41 h40 fun r45 h44 =>
  Cells h44 a30 y38.cells ∧
  F.xcl r45 y38 h44 fun r48 h47 =>
  (r48 = true ->
  ld_S_agg_wide h47 a30 fun y50 =>
  ld_S_agg_wide h47 x3 fun y52 =>
  ldI .i64 h47 (x1.add 0) fun y54 =>
  ldI .i64 h47 (x1.add 3) fun y56 =>
  F.xam (IntKind.wrap .i64 (y54 - 2)) y56 h47 fun r59 h58 =>
  Cells h58 x3 y52.cells ∧
  Cells h58 a30 y50.cells ∧
  F.xbc y52 r59 h58 fun r63 h62 =>
  Cells h62 a30 y50.cells ∧
  F.xcl y50 r63 h62 fun r66 h65 =>
  Q r66 h65) ∧
  (r48 = false ->
  Q false h47)
def F.xbj (p0 : S_api_Agg) (h : H) (Q : Bool -> H -> Prop) : Prop :=
  new h p0.cells.toArray ty_40 fun a2 h1 =>
  ldI .i64 h1 (a2.add 0) fun y3 =>
  ((decide (y3 <= 0)) = true ->
  ld_S_api_Agg h1 a2 fun y6 =>
  Q ((y6.Count == (⟨0, 0, 0, 0⟩ : S_api_Agg).Count) && ((y6.Sum == (⟨0, 0, 0, 0⟩ : S_api_Agg).Sum) && ((y6.Min == (⟨0, 0, 0, 0⟩ : S_api_Agg).Min) && ((y6.Max == (⟨0, 0, 0, 0⟩ : S_api_Agg).Max) && true)))) h1) ∧
  ((decide (y3 <= 0)) = false ->
  ldI .i64 h1 (a2.add 0) fun y8 =>
  (((y8 == 1)) = true ->
  ldI .i64 h1 (a2.add 2) fun y11 =>
  ldI .i64 h1 (a2.add 1) fun y13 =>
  (((y11 == y13)) = true ->
  ldI .i64 h1 (a2.add 3) fun y16 =>
  ldI .i64 h1 (a2.add 1) fun y18 =>
  Q ((y16 == y18)) h1) ∧
  (((y11 == y13)) = false ->
  Q false h1)) ∧
  (((y8 == 1)) = false ->
  ldI .i64 h1 (a2.add 2) fun y20 =>
  ldI .i64 h1 (a2.add 3) fun y22 =>
  ((decide (y20 > y22)) = true ->
  Q false h1) ∧
  ((decide (y20 > y22)) = false ->
  ldI .i64 h1 (a2.add 2) fun y67 =>
  ldI .i64 h1 (a2.add 3) fun y69 =>
  (F.xam 1 y67 h1 fun r72 h71 =>
  cellH h71 (a2.add 3) = some (.int .i64 y69) ∧
  (F.xam 1 y69 h71 fun r75 h74 =>
  (F.xbc r72 r75 h74 fun r77 h76 =>
  new h76 (((⟨0, 0⟩ : S_agg_wide) : S_agg_wide).cells.toArray) ty_170 fun a79 h78 =>
  stH h78 a79 r77.cells fun h80 =>
  F.xbj.j1 Q a2 a79 h80) ∧
  (new h74 (((⟨0, 0⟩ : S_agg_wide) : S_agg_wide).cells.toArray) ty_170 fun a82 h81 =>
  F.xbc r72 r75 h81 fun r84 h83 =>
  stH h83 a82 r84.cells fun h85 =>
  F.xbj.j1 Q a2 a82 h85)) ∧
  (new h71 (((⟨0, 0⟩ : S_agg_wide) : S_agg_wide).cells.toArray) ty_170 fun a87 h86 =>
  cellH h86 (a2.add 3) = some (.int .i64 y69) ∧
  F.xam 1 y69 h86 fun r90 h89 =>
  F.xbc r72 r90 h89 fun r92 h91 =>
  stH h91 a87 r92.cells fun h93 =>
  F.xbj.j1 Q a2 a87 h93)) ∧
  (new h1 (((⟨0, 0⟩ : S_agg_wide) : S_agg_wide).cells.toArray) ty_170 fun a95 h94 =>
  cellH h94 (a2.add 3) = some (.int .i64 y69) ∧
  cellH h94 (a2.add 2) = some (.int .i64 y67) ∧
  F.xam 1 y67 h94 fun r99 h98 =>
  cellH h98 (a2.add 3) = some (.int .i64 y69) ∧
  F.xam 1 y69 h98 fun r102 h101 =>
  F.xbc r99 r102 h101 fun r104 h103 =>
  stH h103 a95 r104.cells fun h105 =>
  F.xbj.j1 Q a2 a95 h105))))
theorem F.xbj_ok {p0 : S_api_Agg} {h : H} {Q : Bool -> H -> Prop} (H : F.xbj p0 h Q) : Fn PP 63 ([(.agg p0.cells.toArray)] : List Value).toArray h fun r h' => ∃ r0, r = (.bool r0) ∧ Q r0 h' := by
 unfold F.xbj at H;refine fn_of Tryz.func63 Tryz.ntmps63 rfl rfl fun w0 => (tr_sub [(0, (.agg p0.cells.toArray))] ⟨rfl, trivial⟩ (tr_seq (tr_region (tr_e (f_box (cs := p0.cells.toArray) rfl rfl H) rfl rfl ?_))));rintro _ h1 ⟨a2, rfl, H⟩;refine tq (y_assign rfl) (tr_nil (tr_thenN (tr_seq (tr_block (tr_seq (tr_region (tq (y_fa (off := 0) Tryz.runUnderlying40 fo_40_0 rfl) ?_)))))));obtain ⟨y3, k4, H⟩ := H;refine tr_h (y_ld Tryz.isAgg2 rfl) k4 rfl rfl (tq (y_leq rfl rfl) (tq (y_assign rfl) (tr_nil (tr_thenN ?_))));refine tr_cond rfl (fun g5 => ?_) (fun g5 => ?_)
 ·replace H := H.1 g5;refine tr_seq (tr_region ?_);obtain ⟨y6, k7, H⟩ := H;refine tr_h (y_ldS Tryz.isAgg40 Tryz.sizeOf40 rfl rfl) k7 rfl rfl (tq (f_build rfl (bd_40_ )) (tq (st_eql (b := ((y6.Count == (⟨0, 0, 0, 0⟩ : S_api_Agg).Count) && ((y6.Sum == (⟨0, 0, 0, 0⟩ : S_api_Agg).Sum) && ((y6.Min == (⟨0, 0, 0, 0⟩ : S_api_Agg).Min) && ((y6.Max == (⟨0, 0, 0, 0⟩ : S_api_Agg).Max) && true))))) eqg_40 (fun w => eqst_40 y6 (⟨0, 0, 0, 0⟩ : S_api_Agg) 9998 w) rfl rfl) (tq (y_assign rfl) (tr_nil (tr_thenN (tr_ret (tr_blockR (tr_thenR ?_))))))));exact tr_ret1 rfl rfl ⟨_, rfl, H⟩
 ·replace H := H.2 g5;refine tr_seq (tr_region (tq (y_fa (off := 0) Tryz.runUnderlying40 fo_40_0 rfl) ?_));obtain ⟨y8, k9, H⟩ := H;refine tr_h (y_ld Tryz.isAgg2 rfl) k9 rfl rfl (tq (y_eql rfl rfl) (tq (y_assign rfl) (tr_nil (tr_thenN ?_))));refine tr_cond rfl (fun g10 => ?_) (fun g10 => ?_)
  ·replace H := H.1 g10;refine tr_seq (tr_region (tq (y_fa (off := 2) Tryz.runUnderlying40 fo_40_2 rfl) ?_));obtain ⟨y11, k12, H⟩ := H;refine tr_h (y_ld Tryz.isAgg2 rfl) k12 rfl rfl (tq (y_fa (off := 1) Tryz.runUnderlying40 fo_40_1 rfl) ?_);obtain ⟨y13, k14, H⟩ := H;refine tr_h (y_ld Tryz.isAgg2 rfl) k14 rfl rfl (tq (y_eql rfl rfl) (tq (y_move rfl) ?_));refine tr_split (t := 21) rfl (fun g15 => ?_) (fun g15 => ?_)
   ·replace H := H.1 g15;refine tq (y_fa (off := 3) Tryz.runUnderlying40 fo_40_3 rfl) ?_;obtain ⟨y16, k17, H⟩ := H;refine tr_h (y_ld Tryz.isAgg2 rfl) k17 rfl rfl (tq (y_fa (off := 1) Tryz.runUnderlying40 fo_40_1 rfl) ?_);obtain ⟨y18, k19, H⟩ := H;refine tr_h (y_ld Tryz.isAgg2 rfl) k19 rfl rfl (tq (y_eql rfl rfl) (tq (y_pick_t rfl rfl) (tq (y_assign rfl) (tr_nil (tr_thenN (tr_ret (tr_blockR (tr_thenR ?_))))))));exact tr_ret1 rfl rfl ⟨_, rfl, H⟩
   ·replace H := H.2 g15;refine ts (ts (ts (ts (ts (tq (y_pick_f rfl rfl) (tq (y_assign rfl) (tr_nil (tr_thenN (tr_ret (tr_blockR (tr_thenR ?_)))))))))));exact tr_ret1 rfl rfl ⟨_, rfl, H⟩
  ·replace H := H.2 g10;refine tr_seq (tr_region (tq (y_fa (off := 2) Tryz.runUnderlying40 fo_40_2 rfl) ?_));obtain ⟨y20, k21, H⟩ := H;refine tr_h (y_ld Tryz.isAgg2 rfl) k21 rfl rfl (tq (y_fa (off := 3) Tryz.runUnderlying40 fo_40_3 rfl) ?_);obtain ⟨y22, k23, H⟩ := H;refine tr_h (y_ld Tryz.isAgg2 rfl) k23 rfl rfl (tq (y_gtr rfl rfl) (tq (y_assign rfl) (tr_nil (tr_thenN ?_))));refine tr_cond rfl (fun g24 => ?_) (fun g24 => ?_)
   ·replace H := H.1 g24;refine tr_seq (tr_region (tq (y_assign rfl) (tr_nil (tr_thenN (tr_ret (tr_blockR (tr_thenR ?_)))))));exact tr_ret1 rfl rfl ⟨_, rfl, H⟩
   ·replace H := H.2 g24;refine tr_skip (tr_blockN (tr_thenN ?_));refine tr_seq_j (fun L' h => ∃ (x1 : Addr) (x3 : Addr), L' = [(1, (.pointer (some x1))), (3, (.pointer (some x3)))] ∧ F.xbj.j1 Q x1 x3 h) ?_ ?_
    ·rintro L' h ⟨x1, x3, rfl, H⟩;unfold F.xbj.j1 at H;refine tr_seq (tr_region (tq (y_fa (off := 1) Tryz.runUnderlying40 fo_40_1 rfl) ?_));obtain ⟨y25, k26, H⟩ := H;refine tr_h (y_ld Tryz.isAgg2 rfl) k26 rfl rfl (tr_e (e_call Tryz.call104 rfl (F.xam_ok H)) rfl rfl ?_);rintro _ h27 ⟨r28, rfl, H⟩;refine tr_e (f_alloc (cs := ((⟨0, 0⟩ : S_agg_wide) : S_agg_wide).cells.toArray) Tryz.zeroValue170 rfl H) rfl rfl ?_;rintro _ h29 ⟨a30, rfl, H⟩;refine tr_e (f_store (vs := r28.cells) Tryz.sizeOf170 rfl rfl cellsOfStruct rfl (by intro v hv; exact ones_S_agg_wide _ v hv) H) rfl rfl ?_;rintro _ h31 ⟨rfl, H⟩;refine tr_nil (tr_thenN (tr_seq (tr_draw mixed [0, 0, 2, 6, 0, 16, 62, 127, 0, 511, 1023, 2047, 2047, 2047, 10239, 26623, 2047, 67583, 255999, 522239, 1048575, 2097151, 4194303] (by kernel_rfl) ?_)));obtain ⟨y32, k33, H⟩ := H;refine g_h 0 1 rfl (by kernel_rfl) (y_ldS Tryz.isAgg170 Tryz.sizeOf170 rfl rfl) k33 rfl rfl (g_p 1 3 rfl (by kernel_rfl) (y_fa (off := 0) Tryz.runUnderlying40 fo_40_0 rfl) rfl rfl ?_);obtain ⟨y34, k35, H⟩ := H;refine g_h 2 7 rfl (by kernel_rfl) (y_ld Tryz.isAgg2 rfl) k35 rfl rfl (g_p 3 15 rfl (by kernel_rfl) (y_sub rfl rfl) rfl rfl (g_p 4 31 rfl (by kernel_rfl) (y_fa (off := 2) Tryz.runUnderlying40 fo_40_2 rfl) rfl rfl ?_));obtain ⟨y36, k37, H⟩ := H;refine g_h 5 63 rfl (by kernel_rfl) (y_ld Tryz.isAgg2 rfl) k37 rfl rfl ?_;obtain ⟨y38, k39, H⟩ := H;refine g_h 8 319 rfl (by kernel_rfl) (y_ldS Tryz.isAgg170 Tryz.sizeOf170 rfl rfl) k39 rfl rfl (g_e 6 383 [(8, fun h => Cells h a30 y38.cells), (0, fun h => Cells h x3 y32.cells)] (by kernel_rfl) rfl (by kernel_rfl) (e_call Tryz.call104 rfl (F.xam_ok H)) rfl rfl ?_);rintro _ h40 ⟨r41, rfl, H⟩;obtain ⟨k42, k43, H⟩ := H;refine ⟨And.intro k42 (And.intro k43 trivial), ?_⟩;refine g_e 7 511 [(8, fun h => Cells h a30 y38.cells)] (by kernel_rfl) rfl (by kernel_rfl) (e_call Tryz.call105 rfl (F.xbc_ok H)) rfl rfl ?_;rintro _ h44 ⟨r45, rfl, H⟩;obtain ⟨k46, H⟩ := H;refine ⟨And.intro k46 trivial, ?_⟩;refine g_e 9 1023 [] (by kernel_rfl) rfl (by kernel_rfl) (e_call Tryz.call106 rfl (F.xcl_ok H)) rfl rfl ?_;rintro _ h47 ⟨r48, rfl, H⟩;refine ⟨trivial, ?_⟩;refine g_p 10 2047 rfl (by kernel_rfl) (y_move rfl) rfl rfl ?_;refine g_split (t := 54) rfl (fun g49 => ?_) (fun g49 => ?_)
     ·replace H := H.1 g49;obtain ⟨y50, k51, H⟩ := H;refine g_h 11 4095 rfl (by kernel_rfl) (y_ldS Tryz.isAgg170 Tryz.sizeOf170 rfl rfl) k51 rfl rfl ?_;obtain ⟨y52, k53, H⟩ := H;refine g_h 12 8191 rfl (by kernel_rfl) (y_ldS Tryz.isAgg170 Tryz.sizeOf170 rfl rfl) k53 rfl rfl (g_p 13 16383 rfl (by kernel_rfl) (y_fa (off := 0) Tryz.runUnderlying40 fo_40_0 rfl) rfl rfl ?_);obtain ⟨y54, k55, H⟩ := H;refine g_h 14 32767 rfl (by kernel_rfl) (y_ld Tryz.isAgg2 rfl) k55 rfl rfl (g_p 15 65535 rfl (by kernel_rfl) (y_sub rfl rfl) rfl rfl (g_p 16 131071 rfl (by kernel_rfl) (y_fa (off := 3) Tryz.runUnderlying40 fo_40_3 rfl) rfl rfl ?_));obtain ⟨y56, k57, H⟩ := H;refine g_h 17 262143 rfl (by kernel_rfl) (y_ld Tryz.isAgg2 rfl) k57 rfl rfl (g_e 18 524287 [(12, fun h => Cells h x3 y52.cells), (11, fun h => Cells h a30 y50.cells)] (by kernel_rfl) rfl (by kernel_rfl) (e_call Tryz.call104 rfl (F.xam_ok H)) rfl rfl ?_);rintro _ h58 ⟨r59, rfl, H⟩;obtain ⟨k60, k61, H⟩ := H;refine ⟨And.intro k60 (And.intro k61 trivial), ?_⟩;refine g_e 19 1048575 [(11, fun h => Cells h a30 y50.cells)] (by kernel_rfl) rfl (by kernel_rfl) (e_call Tryz.call105 rfl (F.xbc_ok H)) rfl rfl ?_;rintro _ h62 ⟨r63, rfl, H⟩;obtain ⟨k64, H⟩ := H;refine ⟨And.intro k64 trivial, ?_⟩;refine g_e 20 2097151 [] (by kernel_rfl) rfl (by kernel_rfl) (e_call Tryz.call106 rfl (F.xcl_ok H)) rfl rfl ?_;rintro _ h65 ⟨r66, rfl, H⟩;refine ⟨trivial, ?_⟩;refine g_p 21 4194303 rfl (by kernel_rfl) (y_pick_t rfl rfl) rfl rfl (g_p 22 8388607 rfl (by kernel_rfl) (y_assign rfl) rfl rfl (g_d (by kernel_rfl) (tr_thenN (tr_ret ?_))));exact tr_ret1 rfl rfl ⟨_, rfl, H⟩
     ·replace H := H.2 g49;refine g_s 11 4095 rfl (by kernel_rfl) rfl rfl (g_s 12 8191 rfl (by kernel_rfl) rfl rfl (g_s 13 16383 rfl (by kernel_rfl) rfl rfl (g_s 14 32767 rfl (by kernel_rfl) rfl rfl (g_s 15 65535 rfl (by kernel_rfl) rfl rfl (g_s 16 131071 rfl (by kernel_rfl) rfl rfl (g_s 17 262143 rfl (by kernel_rfl) rfl rfl (g_s 18 524287 rfl (by kernel_rfl) rfl rfl (g_s 19 1048575 rfl (by kernel_rfl) rfl rfl (g_s 20 2097151 rfl (by kernel_rfl) rfl rfl (g_p 21 4194303 rfl (by kernel_rfl) (y_pick_f rfl rfl) rfl rfl (g_p 22 8388607 rfl (by kernel_rfl) (y_assign rfl) rfl rfl (g_d (by kernel_rfl) (tr_thenN ?_)))))))))))));refine tr_ret ?_;exact tr_ret1 rfl rfl ⟨_, rfl, H⟩
    ·refine tr_draw mixed [0, 1, 3, 0, 8, 31, 63, 0, 255] (by kernel_rfl) (g_p 0 1 rfl (by kernel_rfl) (y_fa (off := 2) Tryz.runUnderlying40 fo_40_2 rfl) rfl rfl ?_);obtain ⟨y67, k68, H⟩ := H;refine g_h 1 3 rfl (by kernel_rfl) (y_ld Tryz.isAgg2 rfl) k68 rfl rfl (g_p 3 11 rfl (by kernel_rfl) (y_fa (off := 3) Tryz.runUnderlying40 fo_40_3 rfl) rfl rfl ?_);obtain ⟨y69, k70, H⟩ := H;refine g_h 4 27 rfl (by kernel_rfl) (y_ld Tryz.isAgg2 rfl) k70 rfl rfl ?_;refine g_e2 2 31 7 155 [(4, fun h => cellH h (a2.add 3) = some (.int .i64 y69))] [(4, fun h => cellH h (a2.add 3) = some (.int .i64 y69)), (1, fun h => cellH h (a2.add 2) = some (.int .i64 y67))] (by kernel_rfl) (by kernel_rfl) (by kernel_rfl) (by kernel_rfl) (by kernel_rfl) rfl rfl rfl rfl rfl rfl ?_ ?_
     ·replace H := H.1;refine ⟨_, (e_call Tryz.call104 rfl (F.xam_ok H)), ?_⟩;rintro _ h71 ⟨r72, rfl, H⟩;obtain ⟨k73, H⟩ := H;refine ⟨And.intro k73 trivial, ?_⟩;refine g_e2 5 63 7 159 [] [(4, fun h => cellH h (a2.add 3) = some (.int .i64 y69))] (by kernel_rfl) (by kernel_rfl) (by kernel_rfl) (by kernel_rfl) (by kernel_rfl) rfl rfl rfl rfl rfl rfl ?_ ?_
      ·replace H := H.1;refine ⟨_, (e_call Tryz.call104 rfl (F.xam_ok H)), ?_⟩;rintro _ h74 ⟨r75, rfl, H⟩;refine ⟨trivial, ?_⟩;refine g_e2 6 127 7 191 [] [] (by kernel_rfl) (by kernel_rfl) (by kernel_rfl) (by kernel_rfl) (by kernel_rfl) rfl rfl rfl rfl rfl rfl ?_ ?_
       ·replace H := H.1;refine ⟨_, (e_call Tryz.call105 rfl (F.xbc_ok H)), ?_⟩;rintro _ h76 ⟨r77, rfl, H⟩;refine ⟨trivial, ?_⟩;refine g_e 7 255 [] (by kernel_rfl) rfl (by kernel_rfl) (f_alloc (cs := ((⟨0, 0⟩ : S_agg_wide) : S_agg_wide).cells.toArray) Tryz.zeroValue170 rfl H) rfl rfl ?_;rintro _ h78 ⟨a79, rfl, H⟩;refine ⟨trivial, ?_⟩;refine g_e 8 511 [] (by kernel_rfl) rfl (by kernel_rfl) (f_store (vs := r77.cells) Tryz.sizeOf170 rfl rfl cellsOfStruct rfl (by intro v hv; exact ones_S_agg_wide _ v hv) H) rfl rfl ?_;rintro _ h80 ⟨rfl, H⟩;refine ⟨trivial, ?_⟩;refine g_d (by kernel_rfl) (tr_thenN ?_);exact tr_join [(1, (.pointer (some a2))), (3, (.pointer (some a79)))] ⟨rfl, rfl, trivial⟩ ⟨_, _, rfl, H⟩
       ·replace H := H.2;refine ⟨_, (f_alloc (cs := ((⟨0, 0⟩ : S_agg_wide) : S_agg_wide).cells.toArray) Tryz.zeroValue170 rfl H), ?_⟩;rintro _ h81 ⟨a82, rfl, H⟩;refine ⟨trivial, ?_⟩;refine g_e 6 255 [] (by kernel_rfl) rfl (by kernel_rfl) (e_call Tryz.call105 rfl (F.xbc_ok H)) rfl rfl ?_;rintro _ h83 ⟨r84, rfl, H⟩;refine ⟨trivial, ?_⟩;refine g_e 8 511 [] (by kernel_rfl) rfl (by kernel_rfl) (f_store (vs := r84.cells) Tryz.sizeOf170 rfl rfl cellsOfStruct rfl (by intro v hv; exact ones_S_agg_wide _ v hv) H) rfl rfl ?_;rintro _ h85 ⟨rfl, H⟩;refine ⟨trivial, ?_⟩;refine g_d (by kernel_rfl) (tr_thenN ?_);exact tr_join [(1, (.pointer (some a2))), (3, (.pointer (some a82)))] ⟨rfl, rfl, trivial⟩ ⟨_, _, rfl, H⟩
      ·replace H := H.2;refine ⟨_, (f_alloc (cs := ((⟨0, 0⟩ : S_agg_wide) : S_agg_wide).cells.toArray) Tryz.zeroValue170 rfl H), ?_⟩;rintro _ h86 ⟨a87, rfl, H⟩;obtain ⟨k88, H⟩ := H;refine ⟨And.intro k88 trivial, ?_⟩;refine g_e 5 191 [] (by kernel_rfl) rfl (by kernel_rfl) (e_call Tryz.call104 rfl (F.xam_ok H)) rfl rfl ?_;rintro _ h89 ⟨r90, rfl, H⟩;refine ⟨trivial, ?_⟩;refine g_e 6 255 [] (by kernel_rfl) rfl (by kernel_rfl) (e_call Tryz.call105 rfl (F.xbc_ok H)) rfl rfl ?_;rintro _ h91 ⟨r92, rfl, H⟩;refine ⟨trivial, ?_⟩;refine g_e 8 511 [] (by kernel_rfl) rfl (by kernel_rfl) (f_store (vs := r92.cells) Tryz.sizeOf170 rfl rfl cellsOfStruct rfl (by intro v hv; exact ones_S_agg_wide _ v hv) H) rfl rfl ?_;rintro _ h93 ⟨rfl, H⟩;refine ⟨trivial, ?_⟩;refine g_d (by kernel_rfl) (tr_thenN ?_);exact tr_join [(1, (.pointer (some a2))), (3, (.pointer (some a87)))] ⟨rfl, rfl, trivial⟩ ⟨_, _, rfl, H⟩
     ·replace H := H.2;refine ⟨_, (f_alloc (cs := ((⟨0, 0⟩ : S_agg_wide) : S_agg_wide).cells.toArray) Tryz.zeroValue170 rfl H), ?_⟩;rintro _ h94 ⟨a95, rfl, H⟩;obtain ⟨k96, k97, H⟩ := H;refine ⟨And.intro k96 (And.intro k97 trivial), ?_⟩;refine g_e 2 159 [(4, fun h => cellH h (a2.add 3) = some (.int .i64 y69))] (by kernel_rfl) rfl (by kernel_rfl) (e_call Tryz.call104 rfl (F.xam_ok H)) rfl rfl ?_;rintro _ h98 ⟨r99, rfl, H⟩;obtain ⟨k100, H⟩ := H;refine ⟨And.intro k100 trivial, ?_⟩;refine g_e 5 191 [] (by kernel_rfl) rfl (by kernel_rfl) (e_call Tryz.call104 rfl (F.xam_ok H)) rfl rfl ?_;rintro _ h101 ⟨r102, rfl, H⟩;refine ⟨trivial, ?_⟩;refine g_e 6 255 [] (by kernel_rfl) rfl (by kernel_rfl) (e_call Tryz.call105 rfl (F.xbc_ok H)) rfl rfl ?_;rintro _ h103 ⟨r104, rfl, H⟩;refine ⟨trivial, ?_⟩;refine g_e 8 511 [] (by kernel_rfl) rfl (by kernel_rfl) (f_store (vs := r104.cells) Tryz.sizeOf170 rfl rfl cellsOfStruct rfl (by intro v hv; exact ones_S_agg_wide _ v hv) H) rfl rfl ?_;rintro _ h105 ⟨rfl, H⟩;refine ⟨trivial, ?_⟩;refine g_d (by kernel_rfl) (tr_thenN ?_);exact tr_join [(1, (.pointer (some a2))), (3, (.pointer (some a95)))] ⟨rfl, rfl, trivial⟩ ⟨_, _, rfl, H⟩
def F.xae.j3 (Q : Int -> H -> Prop) (x0 : Option Addr) (x1 : Int) (x5 : Addr) (x9 : Option Addr) (x11 : Bool) (h : H) : Prop :=
  ld_S_api_Agg h (x5.add 3) fun y31 =>
  F.xcg x9 x1 y31 h fun r34 r35 h33 =>
  nn x0 fun a36 =>
  ldI .i64 h33 ((a36.add 0).add 0) fun y38 =>
  nn x0 fun a40 =>
  stH h33 ((a40.add 0).add 0) [(.int .i64 (IntKind.wrap .i64 (y38 + r34)))] fun h42 =>
  ((!x11) = true ->
  nn x0 fun a44 =>
  ldI .i64 h42 ((a44.add 0).add 0) fun y46 =>
  nn x0 fun a48 =>
  stH h42 ((a48.add 0).add 0) [(.int .i64 (IntKind.wrap .i64 (y46 + 1)))] fun h50 =>
  nn x0 fun a51 =>
  ldI .i64 h50 ((a51.add 0).add 1) fun y53 =>
  nn x0 fun a55 =>
  stH h50 ((a55.add 0).add 1) [(.int .i64 (IntKind.wrap .i64 (y53 + 1)))] fun h57 =>
  Q 0 h57) ∧
  ((!x11) = false ->
  Q 0 h42)
def F.xae.j2 (Q : Int -> H -> Prop) (x0 : Option Addr) (x1 : Int) (x5 : Addr) (x7 : ByteArray) (x9 : Option Addr) (x10 : Bool) (x11 : Bool) (h : H) : Prop :=
  nn x0 fun a16 =>
  ldI .i64 h ((a16.add 0).add 0) fun y18 =>
  ld_S_api_Cell h (x5.add 0) fun y20 =>
  nn x0 fun a22 =>
  ldI .i64 h ((a22.add 0).add 2) fun y24 =>
  F.xaw x0 x1 y20 h fun r27 h26 =>
  cellH h26 ((a22.add 0).add 2) = some (.int .i64 y24) ∧
  cellH h26 ((a16.add 0).add 0) = some (.int .i64 y18) ∧
  ((decide ((IntKind.wrap .i64 (y18 + r27)) > y24)) = true ->
  Q 31 h26) ∧
  ((decide ((IntKind.wrap .i64 (y18 + r27)) > y24)) = false ->
  ((!x10) = true ->
  F.xby  h26 fun r60 h59 =>
  nn x0 fun a61 =>
  ldP h59 (a61.add 3) fun y63 =>
  F.xbd y63 x7 r60 h59 fun h65 =>
  F.xae.j3 Q x0 x1 x5 r60 x11 h65) ∧
  ((!x10) = false ->
  F.xae.j3 Q x0 x1 x5 x9 x11 h26))
def F.xae.j1 (Q : Int -> H -> Prop) (x0 : Option Addr) (x1 : Int) (x5 : Addr) (x7 : ByteArray) (h : H) : Prop :=
  nn x0 fun a9 =>
  ldP h (a9.add 3) fun y11 =>
  F.xbs y11 x7 h fun r14 r15 h13 =>
  (r15 = true ->
  F.xbr r14 h13 fun r68 r69 r70 h67 =>
  ((decide (r69 > x1)) = true ->
  Q 32 h67) ∧
  ((decide (r69 > x1)) = false ->
  F.xae.j2 Q x0 x1 x5 x7 r14 r15 r70 h67)) ∧
  (r15 = false ->
  F.xae.j2 Q x0 x1 x5 x7 r14 r15 false h13)
def F.xae.j4 (Q : Int -> H -> Prop) (x0 : Option Addr) (x1 : Int) (x5 : Addr) (x7 : ByteArray) (x41 : Bool) (h : H) : Prop :=
  (x41 = true ->
  Q 1 h) ∧
  (x41 = false ->
  F.xae.j1 Q x0 x1 x5 x7 h)
def F.xae (p0 : Option Addr) (p1 : Int) (p2 : S_api_Row) (h : H) (Q : Int -> H -> Prop) : Prop :=
  new h p2.cells.toArray ty_49 fun a2 h1 =>
  ld_S_api_Cell h1 (a2.add 0) fun y3 =>
  F.xaf y3 h1 fun r6 r7 h5 =>
  (((r7 != 0)) = true ->
  Q r7 h5) ∧
  (((r7 != 0)) = false ->
  ((decide (p1 < 1)) = true ->
  F.xae.j4 Q p0 p1 a2 r6 true h5) ∧
  ((decide (p1 < 1)) = false ->
  ((decide (p1 > 1099511627776)) = true ->
  F.xae.j4 Q p0 p1 a2 r6 true h5) ∧
  ((decide (p1 > 1099511627776)) = false ->
  ldI .i64 h5 ((a2.add 3).add 0) fun y75 =>
  (((y75 == 0)) = true ->
  F.xae.j4 Q p0 p1 a2 r6 true h5) ∧
  (((y75 == 0)) = false ->
  ld_S_api_Agg h5 (a2.add 3) fun y78 =>
  F.xbj y78 h5 fun r81 h80 =>
  F.xae.j4 Q p0 p1 a2 r6 (!r81) h80))))
theorem F.xae_ok {p0 : Option Addr} {p1 : Int} {p2 : S_api_Row} {h : H} {Q : Int -> H -> Prop} (H : F.xae p0 p1 p2 h Q) : Fn PP 30 ([(.pointer p0), (.int .i64 p1), (.agg p2.cells.toArray)] : List Value).toArray h fun r h' => ∃ r0, r = (.int .i64 r0) ∧ Q r0 h' := by
 unfold F.xae at H;refine fn_of Tryz.func30 Tryz.ntmps30 rfl rfl fun w0 => (tr_sub [(0, (.pointer p0)), (1, (.int .i64 p1)), (2, (.agg p2.cells.toArray))] ⟨rfl, rfl, rfl, trivial⟩ (tr_seq (tr_region (tr_e (f_box (cs := p2.cells.toArray) rfl rfl H) rfl rfl ?_))));rintro _ h1 ⟨a2, rfl, H⟩;refine tq (y_assign rfl) (tr_nil (tr_thenN (tr_seq (tr_region (tq (y_fa (off := 0) Tryz.runUnderlying49 fo_49_0 rfl) ?_)))));obtain ⟨y3, k4, H⟩ := H;refine tr_h (y_ldS Tryz.isAgg35 Tryz.sizeOf35 rfl rfl) k4 rfl rfl (tr_e (e_call Tryz.call56 rfl (F.xaf_ok H)) rfl rfl ?_);rintro _ h5 ⟨r6, r7, rfl, H⟩;refine tq (y_move rfl) (tq (y_ext rfl rfl) (tq (y_ext rfl rfl) (tq (y_assign rfl) (tq (y_assign rfl) (tr_nil (tr_thenN (tr_seq (tr_seq (tr_region (tq (y_move rfl) (tq (y_neq rfl rfl) (tr_nil (tr_thenN ?_)))))))))))));refine tr_cond rfl (fun g8 => ?_) (fun g8 => ?_)
 ·replace H := H.1 g8;refine tr_seq (tr_region (tq (y_move rfl) (tq (y_assign rfl) (tr_nil (tr_thenN (tr_ret (tr_thenR ?_)))))));exact tr_ret1 rfl rfl ⟨_, rfl, H⟩
 ·replace H := H.2 g8;refine tr_skip (tr_thenN ?_);refine tr_seq_j (fun L' h => ∃ (x0 : Option Addr) (x1 : Int) (x5 : Addr) (x7 : ByteArray), L' = [(0, (.pointer x0)), (1, (.int .i64 x1)), (5, (.pointer (some x5))), (7, (.string x7))] ∧ F.xae.j1 Q x0 x1 x5 x7 h) ?_ ?_
  ·rintro L' h ⟨x0, x1, x5, x7, rfl, H⟩;unfold F.xae.j1 at H;refine tr_seq (tr_region (tq (y_move rfl) ?_));obtain ⟨a9, e10, H⟩ := H;refine tq (f_nn rfl e10) (tq (y_fa (off := 3) Tryz.runUnderlying74 fo_74_1 rfl) ?_);obtain ⟨y11, k12, H⟩ := H;refine tr_h (y_ld Tryz.isAgg72 rfl) k12 rfl rfl (tq (y_move rfl) (tr_e (e_call Tryz.call64 rfl (F.xbs_ok H)) rfl rfl ?_));rintro _ h13 ⟨r14, r15, rfl, H⟩;refine tq (y_move rfl) (tq (y_ext rfl rfl) (tq (y_ext rfl rfl) (tq (y_assign rfl) (tq (y_assign rfl) (tr_nil (tr_thenN (tr_seq (tr_region (tq (y_assign rfl) (tr_nil (tr_thenN ?_)))))))))));refine tr_seq_j (fun L' h => ∃ (x0 : Option Addr) (x1 : Int) (x5 : Addr) (x7 : ByteArray) (x9 : Option Addr) (x10 : Bool) (x11 : Bool), L' = [(0, (.pointer x0)), (1, (.int .i64 x1)), (5, (.pointer (some x5))), (7, (.string x7)), (9, (.pointer x9)), (10, (.bool x10)), (11, (.bool x11))] ∧ F.xae.j2 Q x0 x1 x5 x7 x9 x10 x11 h) ?_ ?_
   ·rintro L' h ⟨x0, x1, x5, x7, x9, x10, x11, rfl, H⟩;unfold F.xae.j2 at H;refine tr_seq (tr_seq (tr_draw mixed [0, 1, 3, 7, 15, 0, 0, 0, 128, 480, 1023, 0, 2048, 6144, 14336, 30720, 65535] (by kernel_rfl) (g_p 0 1 rfl (by kernel_rfl) (y_move rfl) rfl rfl ?_)));obtain ⟨a16, e17, H⟩ := H;refine g_p 1 3 rfl (by kernel_rfl) (f_nn rfl e17) rfl rfl (g_p 2 7 rfl (by kernel_rfl) (y_fa (off := 0) Tryz.runUnderlying74 fo_74_0 rfl) rfl rfl (g_p 3 15 rfl (by kernel_rfl) (y_fa (off := 0) Tryz.runUnderlying71 fo_71_0 rfl) rfl rfl ?_));obtain ⟨y18, k19, H⟩ := H;refine g_h 4 31 rfl (by kernel_rfl) (y_ld Tryz.isAgg3 rfl) k19 rfl rfl (g_p 5 63 rfl (by kernel_rfl) (y_move rfl) rfl rfl (g_p 6 127 rfl (by kernel_rfl) (y_move rfl) rfl rfl (g_p 7 255 rfl (by kernel_rfl) (y_fa (off := 0) Tryz.runUnderlying49 fo_49_0 rfl) rfl rfl ?_)));obtain ⟨y20, k21, H⟩ := H;refine g_h 8 511 rfl (by kernel_rfl) (y_ldS Tryz.isAgg35 Tryz.sizeOf35 rfl rfl) k21 rfl rfl (g_p 11 2559 rfl (by kernel_rfl) (y_move rfl) rfl rfl ?_);obtain ⟨a22, e23, H⟩ := H;refine g_p 12 6655 rfl (by kernel_rfl) (f_nn rfl e23) rfl rfl (g_p 13 14847 rfl (by kernel_rfl) (y_fa (off := 0) Tryz.runUnderlying74 fo_74_0 rfl) rfl rfl (g_p 14 31231 rfl (by kernel_rfl) (y_fa (off := 2) Tryz.runUnderlying71 fo_71_2 rfl) rfl rfl ?_));obtain ⟨y24, k25, H⟩ := H;refine g_h 15 63999 rfl (by kernel_rfl) (y_ld Tryz.isAgg3 rfl) k25 rfl rfl (g_e 9 64511 [(15, fun h => cellH h ((a22.add 0).add 2) = some (.int .i64 y24)), (4, fun h => cellH h ((a16.add 0).add 0) = some (.int .i64 y18))] (by kernel_rfl) rfl (by kernel_rfl) (e_call Tryz.call66 rfl (F.xaw_ok H)) rfl rfl ?_);rintro _ h26 ⟨r27, rfl, H⟩;obtain ⟨k28, k29, H⟩ := H;refine ⟨And.intro k28 (And.intro k29 trivial), ?_⟩;refine g_p 10 65535 rfl (by kernel_rfl) (y_add rfl rfl) rfl rfl (g_p 16 131071 rfl (by kernel_rfl) (y_gtr rfl rfl) rfl rfl (g_d (by kernel_rfl) (tr_thenN ?_)));refine tr_cond rfl (fun g30 => ?_) (fun g30 => ?_)
    ·replace H := H.1 g30;refine tr_seq (tr_region (tq (y_assign rfl) (tr_nil (tr_thenN (tr_ret (tr_thenR ?_))))));exact tr_ret1 rfl rfl ⟨_, rfl, H⟩
    ·replace H := H.2 g30;refine tr_skip (tr_thenN ?_);refine tr_seq_j (fun L' h => ∃ (x0 : Option Addr) (x1 : Int) (x5 : Addr) (x9 : Option Addr) (x11 : Bool), L' = [(0, (.pointer x0)), (1, (.int .i64 x1)), (5, (.pointer (some x5))), (9, (.pointer x9)), (11, (.bool x11))] ∧ F.xae.j3 Q x0 x1 x5 x9 x11 h) ?_ ?_
     ·rintro L' h ⟨x0, x1, x5, x9, x11, rfl, H⟩;unfold F.xae.j3 at H;refine tr_seq (tr_region (tq (y_move rfl) (tq (y_move rfl) (tq (y_fa (off := 3) Tryz.runUnderlying49 fo_49_1 rfl) ?_))));obtain ⟨y31, k32, H⟩ := H;refine tr_h (y_ldS Tryz.isAgg40 Tryz.sizeOf40 rfl rfl) k32 rfl rfl (tr_e (e_call Tryz.call69 rfl (F.xcg_ok H)) rfl rfl ?_);rintro _ h33 ⟨r34, r35, rfl, H⟩;refine tq (y_move rfl) (tq (y_ext rfl rfl) (tq (y_ext rfl rfl) (tq (y_assign rfl) (tq (y_assign rfl) (tr_nil (tr_thenN (tr_seq (tr_region (tq (y_move rfl) ?_)))))))));obtain ⟨a36, e37, H⟩ := H;refine tq (f_nn rfl e37) (tq (y_fa (off := 0) Tryz.runUnderlying74 fo_74_0 rfl) (tq (y_fa (off := 0) Tryz.runUnderlying71 fo_71_0 rfl) ?_));obtain ⟨y38, k39, H⟩ := H;refine tr_h (y_ld Tryz.isAgg3 rfl) k39 rfl rfl (tq (y_move rfl) (tq (y_add rfl rfl) ?_));obtain ⟨a40, e41, H⟩ := H;refine tq (f_nn rfl e41) (tq (y_fa (off := 0) Tryz.runUnderlying74 fo_74_0 rfl) (tq (y_fa (off := 0) Tryz.runUnderlying71 fo_71_0 rfl) (tr_e (f_store (vs := [(.int .i64 (IntKind.wrap .i64 (y38 + r34)))]) Tryz.sizeOf3 rfl rfl rfl rfl (one1 rfl) H) rfl rfl ?_)));rintro _ h42 ⟨rfl, H⟩;refine tr_nil (tr_thenN (tr_seq (tr_seq (tr_region (tq (y_move rfl) (tq (y_not rfl) (tr_nil (tr_thenN ?_))))))));refine tr_cond rfl (fun g43 => ?_) (fun g43 => ?_)
      ·replace H := H.1 g43;refine tr_seq (tr_region (tq (y_move rfl) ?_));obtain ⟨a44, e45, H⟩ := H;refine tq (f_nn rfl e45) (tq (y_fa (off := 0) Tryz.runUnderlying74 fo_74_0 rfl) (tq (y_fa (off := 0) Tryz.runUnderlying71 fo_71_0 rfl) ?_));obtain ⟨y46, k47, H⟩ := H;refine tr_h (y_ld Tryz.isAgg3 rfl) k47 rfl rfl (tq (y_add rfl rfl) ?_);obtain ⟨a48, e49, H⟩ := H;refine tq (f_nn rfl e49) (tq (y_fa (off := 0) Tryz.runUnderlying74 fo_74_0 rfl) (tq (y_fa (off := 0) Tryz.runUnderlying71 fo_71_0 rfl) (tr_e (f_store (vs := [(.int .i64 (IntKind.wrap .i64 (y46 + 1)))]) Tryz.sizeOf3 rfl rfl rfl rfl (one1 rfl) H) rfl rfl ?_)));rintro _ h50 ⟨rfl, H⟩;refine tr_nil (tr_thenN (tr_region (tq (y_move rfl) ?_)));obtain ⟨a51, e52, H⟩ := H;refine tq (f_nn rfl e52) (tq (y_fa (off := 0) Tryz.runUnderlying74 fo_74_0 rfl) (tq (y_fa (off := 1) Tryz.runUnderlying71 fo_71_1 rfl) ?_));obtain ⟨y53, k54, H⟩ := H;refine tr_h (y_ld Tryz.isAgg3 rfl) k54 rfl rfl (tq (y_add rfl rfl) ?_);obtain ⟨a55, e56, H⟩ := H;refine tq (f_nn rfl e56) (tq (y_fa (off := 0) Tryz.runUnderlying74 fo_74_0 rfl) (tq (y_fa (off := 1) Tryz.runUnderlying71 fo_71_1 rfl) (tr_e (f_store (vs := [(.int .i64 (IntKind.wrap .i64 (y53 + 1)))]) Tryz.sizeOf3 rfl rfl rfl rfl (one1 rfl) H) rfl rfl ?_)));rintro _ h57 ⟨rfl, H⟩;refine tr_nil (tr_thenN (tr_seq (tr_region (tq (y_assign rfl) (tr_nil (tr_thenN (tr_ret ?_)))))));exact tr_ret1 rfl rfl ⟨_, rfl, H⟩
      ·replace H := H.2 g43;refine tr_skip (tr_thenN (tr_seq (tr_region (tq (y_assign rfl) (tr_nil (tr_thenN (tr_ret ?_)))))));exact tr_ret1 rfl rfl ⟨_, rfl, H⟩
     ·refine tr_seq (tr_region (tq (y_move rfl) (tq (y_not rfl) (tr_nil (tr_thenN ?_)))));refine tr_cond rfl (fun g58 => ?_) (fun g58 => ?_)
      ·replace H := H.1 g58;refine tr_seq (tr_region (tr_e (e_call Tryz.call67 rfl (F.xby_ok H)) rfl rfl ?_));rintro _ h59 ⟨r60, rfl, H⟩;refine tq (y_assign rfl) (tr_nil (tr_thenN (tr_region (tq (y_move rfl) ?_))));obtain ⟨a61, e62, H⟩ := H;refine tq (f_nn rfl e62) (tq (y_fa (off := 3) Tryz.runUnderlying74 fo_74_1 rfl) ?_);obtain ⟨y63, k64, H⟩ := H;refine tr_h (y_ld Tryz.isAgg72 rfl) k64 rfl rfl (tq (y_move rfl) (tq (y_move rfl) (tr_e (e_call Tryz.call68 rfl (F.xbd_ok H)) rfl rfl ?_)));rintro _ h65 ⟨rfl, H⟩;refine tr_nil (tr_thenN ?_);exact tr_join [(0, (.pointer x0)), (1, (.int .i64 x1)), (5, (.pointer (some x5))), (9, (.pointer r60)), (11, (.bool x11))] ⟨rfl, rfl, rfl, rfl, rfl, trivial⟩ ⟨_, _, _, _, _, rfl, H⟩
      ·replace H := H.2 g58;refine tr_skip (tr_thenN ?_);exact tr_join [(0, (.pointer x0)), (1, (.int .i64 x1)), (5, (.pointer (some x5))), (9, (.pointer x9)), (11, (.bool x11))] ⟨rfl, rfl, rfl, rfl, rfl, trivial⟩ ⟨_, _, _, _, _, rfl, H⟩
   ·refine tr_seq (tr_region (tq (y_move rfl) (tr_nil (tr_thenN ?_))));refine tr_cond rfl (fun g66 => ?_) (fun g66 => ?_)
    ·replace H := H.1 g66;refine tr_seq (tr_region (tq (y_assign rfl) (tr_nil (tr_thenN (tr_seq (tr_region (tq (y_move rfl) (tr_e (e_call Tryz.call65 rfl (F.xbr_ok H)) rfl rfl ?_))))))));rintro _ h67 ⟨r68, r69, r70, rfl, H⟩;refine tq (y_move rfl) (tq (y_ext rfl rfl) (tq (y_ext rfl rfl) (tq (y_ext rfl rfl) (tq (y_assign rfl) (tq (y_assign rfl) (tr_nil (tr_thenN (tr_seq (tr_region (tq (y_move rfl) (tq (y_move rfl) (tq (y_gtr rfl rfl) (tr_nil ?_)))))))))))));refine tr_thenN ?_;refine tr_cond rfl (fun g71 => ?_) (fun g71 => ?_)
     ·replace H := H.1 g71;refine tr_seq (tr_region (tq (y_assign rfl) (tr_nil (tr_thenN (tr_ret (tr_thenR ?_))))));exact tr_ret1 rfl rfl ⟨_, rfl, H⟩
     ·replace H := H.2 g71;refine tr_skip (tr_thenN ?_);exact tr_join [(0, (.pointer x0)), (1, (.int .i64 x1)), (5, (.pointer (some x5))), (7, (.string x7)), (9, (.pointer r14)), (10, (.bool r15)), (11, (.bool r70))] ⟨rfl, rfl, rfl, rfl, rfl, rfl, rfl, trivial⟩ ⟨_, _, _, _, _, _, _, rfl, H⟩
    ·replace H := H.2 g66;refine tr_skip (tr_thenN ?_);exact tr_join [(0, (.pointer x0)), (1, (.int .i64 x1)), (5, (.pointer (some x5))), (7, (.string x7)), (9, (.pointer r14)), (10, (.bool r15)), (11, (.bool false))] ⟨rfl, rfl, rfl, rfl, rfl, rfl, rfl, trivial⟩ ⟨_, _, _, _, _, _, _, rfl, H⟩
  ·refine tr_seq_j (fun L' h => ∃ (x0 : Option Addr) (x1 : Int) (x5 : Addr) (x7 : ByteArray) (x41 : Bool), L' = [(0, (.pointer x0)), (1, (.int .i64 x1)), (5, (.pointer (some x5))), (7, (.string x7)), (41, (.bool x41))] ∧ F.xae.j4 Q x0 x1 x5 x7 x41 h) ?_ ?_
   ·rintro L' h ⟨x0, x1, x5, x7, x41, rfl, H⟩;unfold F.xae.j4 at H;refine tr_cond rfl (fun g72 => ?_) (fun g72 => ?_)
    ·replace H := H.1 g72;refine tr_seq (tr_region (tq (y_assign rfl) (tr_nil (tr_thenN (tr_ret (tr_thenR ?_))))));exact tr_ret1 rfl rfl ⟨_, rfl, H⟩
    ·replace H := H.2 g72;refine tr_skip (tr_thenN ?_);exact tr_join [(0, (.pointer x0)), (1, (.int .i64 x1)), (5, (.pointer (some x5))), (7, (.string x7))] ⟨rfl, rfl, rfl, rfl, trivial⟩ ⟨_, _, _, _, rfl, H⟩
   ·refine tr_region (tq (y_move rfl) (tq (y_lss rfl rfl) (tq (y_move rfl) ?_)));refine tr_split (t := 26) rfl (fun g73 => ?_) (fun g73 => ?_)
    ·replace H := H.1 g73;refine ts (ts (tq (y_pick_t rfl rfl) (tq (y_move rfl) (ts (ts (ts (ts (tq (y_pick_t rfl rfl) (tq (y_move rfl) (ts (ts (ts (ts ?_)))))))))))));refine tq (y_pick_t rfl rfl) (tr_nil (tr_thenN ?_));exact tr_join [(0, (.pointer p0)), (1, (.int .i64 p1)), (5, (.pointer (some a2))), (7, (.string r6)), (41, (.bool true))] ⟨rfl, rfl, rfl, rfl, rfl, trivial⟩ ⟨_, _, _, _, _, rfl, H⟩
    ·replace H := H.2 g73;refine tq (y_move rfl) (tq (y_gtr rfl rfl) (tq (y_pick_f rfl rfl) (tq (y_move rfl) ?_)));refine tr_split (t := 30) rfl (fun g74 => ?_) (fun g74 => ?_)
     ·replace H := H.1 g74;refine ts (ts (ts (ts (tq (y_pick_t rfl rfl) (tq (y_move rfl) (ts (ts (ts (ts (tq (y_pick_t rfl rfl) (tr_nil (tr_thenN ?_))))))))))));exact tr_join [(0, (.pointer p0)), (1, (.int .i64 p1)), (5, (.pointer (some a2))), (7, (.string r6)), (41, (.bool true))] ⟨rfl, rfl, rfl, rfl, rfl, trivial⟩ ⟨_, _, _, _, _, rfl, H⟩
     ·replace H := H.2 g74;refine tq (y_fa (off := 3) Tryz.runUnderlying49 fo_49_1 rfl) (tq (y_fa (off := 0) Tryz.runUnderlying40 fo_40_0 rfl) ?_);obtain ⟨y75, k76, H⟩ := H;refine tr_h (y_ld Tryz.isAgg2 rfl) k76 rfl rfl (tq (y_eql rfl rfl) (tq (y_pick_f rfl rfl) (tq (y_move rfl) ?_)));refine tr_split (t := 36) rfl (fun g77 => ?_) (fun g77 => ?_)
      ·replace H := H.1 g77;refine ts (ts (ts (ts (tq (y_pick_t rfl rfl) (tr_nil (tr_thenN ?_))))));exact tr_join [(0, (.pointer p0)), (1, (.int .i64 p1)), (5, (.pointer (some a2))), (7, (.string r6)), (41, (.bool true))] ⟨rfl, rfl, rfl, rfl, rfl, trivial⟩ ⟨_, _, _, _, _, rfl, H⟩
      ·replace H := H.2 g77;refine tq (y_fa (off := 3) Tryz.runUnderlying49 fo_49_1 rfl) ?_;obtain ⟨y78, k79, H⟩ := H;refine tr_h (y_ldS Tryz.isAgg40 Tryz.sizeOf40 rfl rfl) k79 rfl rfl (tr_e (e_call Tryz.call63 rfl (F.xbj_ok H)) rfl rfl ?_);rintro _ h80 ⟨r81, rfl, H⟩;refine tq (y_not rfl) (tq (y_pick_f rfl rfl) (tr_nil (tr_thenN ?_)));exact tr_join [(0, (.pointer p0)), (1, (.int .i64 p1)), (5, (.pointer (some a2))), (7, (.string r6)), (41, (.bool (!r81)))] ⟨rfl, rfl, rfl, rfl, rfl, trivial⟩ ⟨_, _, _, _, _, rfl, H⟩
def F.xbv (p0 : Option Addr) (p1 : Int) (p2 : S_api_Row) (h : H) (Q : Int -> H -> Prop) : Prop :=
  new h p2.cells.toArray ty_49 fun a2 h1 =>
  ld_S_api_Cell h1 (a2.add 0) fun y3 =>
  ld_S_api_Row h1 a2 fun y5 =>
  F.xbz p0 y3 h1 fun r8 h7 =>
  Cells h7 a2 y5.cells ∧
  F.xae r8 p1 y5 h7 fun r11 h10 =>
  Q r11 h10
theorem F.xbv_ok {p0 : Option Addr} {p1 : Int} {p2 : S_api_Row} {h : H} {Q : Int -> H -> Prop} (H : F.xbv p0 p1 p2 h Q) : Fn PP 14 ([(.pointer p0), (.int .i64 p1), (.agg p2.cells.toArray)] : List Value).toArray h fun r h' => ∃ r0, r = (.int .i64 r0) ∧ Q r0 h' := by
 unfold F.xbv at H;refine fn_of Tryz.func14 Tryz.ntmps14 rfl rfl fun w0 => (tr_sub [(0, (.pointer p0)), (1, (.int .i64 p1)), (2, (.agg p2.cells.toArray))] ⟨rfl, rfl, rfl, trivial⟩ (tr_seq (tr_region (tr_e (f_box (cs := p2.cells.toArray) rfl rfl H) rfl rfl ?_))));rintro _ h1 ⟨a2, rfl, H⟩;refine tq (y_assign rfl) (tr_nil (tr_thenN (tr_seq (tr_draw mixed [0, 0, 2, 7, 0, 0, 63, 127] (by kernel_rfl) (g_p 0 1 rfl (by kernel_rfl) (y_move rfl) rfl rfl (g_p 1 3 rfl (by kernel_rfl) (y_fa (off := 0) Tryz.runUnderlying49 fo_49_0 rfl) rfl rfl ?_))))));obtain ⟨y3, k4, H⟩ := H;refine g_h 2 7 rfl (by kernel_rfl) (y_ldS Tryz.isAgg35 Tryz.sizeOf35 rfl rfl) k4 rfl rfl (g_p 4 23 rfl (by kernel_rfl) (y_move rfl) rfl rfl ?_);obtain ⟨y5, k6, H⟩ := H;refine g_h 5 55 rfl (by kernel_rfl) (y_ldS Tryz.isAgg49 Tryz.sizeOf49 rfl rfl) k6 rfl rfl (g_e 3 63 [(5, fun h => Cells h a2 y5.cells)] (by kernel_rfl) rfl (by kernel_rfl) (e_call Tryz.call46 rfl (F.xbz_ok H)) rfl rfl ?_);rintro _ h7 ⟨r8, rfl, H⟩;obtain ⟨k9, H⟩ := H;refine ⟨And.intro k9 trivial, ?_⟩;refine g_e 6 127 [] (by kernel_rfl) rfl (by kernel_rfl) (e_call Tryz.call30 rfl (F.xae_ok H)) rfl rfl ?_;rintro _ h10 ⟨r11, rfl, H⟩;refine ⟨trivial, ?_⟩;refine g_p 7 255 rfl (by kernel_rfl) (y_assign rfl) rfl rfl (g_d (by kernel_rfl) (tr_thenN (tr_ret ?_)));exact tr_ret1 rfl rfl ⟨_, rfl, H⟩
def F.xaz (p0 : Int) (h : H) (Q : Bool -> H -> Prop) : Prop :=
  Q ((p0 != p0)) h
theorem F.xaz_ok {p0 : Int} {h : H} {Q : Bool -> H -> Prop} (H : F.xaz p0 h Q) : Fn PP 89 ([(.int .i64 p0)] : List Value).toArray h fun r h' => ∃ r0, r = (.bool r0) ∧ Q r0 h' := by
 unfold F.xaz at H;refine fn_of Tryz.func89 Tryz.ntmps89 rfl rfl fun w0 => (tr_sub [(0, (.int .i64 p0))] ⟨rfl, trivial⟩ (tr_seq (tr_region (tq (y_assign rfl) (tr_nil (tr_thenN (tr_seq (tr_region (tq (y_move rfl) (tq (y_move rfl) (tq (y_neq rfl rfl) (tq (y_assign rfl) (tr_nil ?_)))))))))))));refine tr_thenN (tr_ret ?_);exact tr_ret1 rfl rfl ⟨_, rfl, H⟩
def F.xba (p0 : Int) (p1 : Int) (h : H) (Q : Int -> H -> Prop) : Prop :=
  F.xaz p0 h fun r2 h1 =>
  F.xaz p1 h1 fun r4 h3 =>
  (r2 = true ->
  (r4 = true ->
  Q 0 h3) ∧
  (r4 = false ->
  Q (-1) h3)) ∧
  (r2 = false ->
  (r4 = true ->
  Q 1 h3) ∧
  (r4 = false ->
  ((decide (p0 < p1)) = true ->
  Q (-1) h3) ∧
  ((decide (p0 < p1)) = false ->
  ((decide (p0 > p1)) = true ->
  Q 1 h3) ∧
  ((decide (p0 > p1)) = false ->
  Q 0 h3))))
theorem F.xba_ok {p0 : Int} {p1 : Int} {h : H} {Q : Int -> H -> Prop} (H : F.xba p0 p1 h Q) : Fn PP 48 ([(.int .i64 p0), (.int .i64 p1)] : List Value).toArray h fun r h' => ∃ r0, r = (.int .i64 r0) ∧ Q r0 h' := by
 unfold F.xba at H;refine fn_of Tryz.func48 Tryz.ntmps48 rfl rfl fun w0 => (tr_sub [(0, (.int .i64 p0)), (1, (.int .i64 p1))] ⟨rfl, rfl, trivial⟩ (tr_seq (tr_region (tq (y_assign rfl) (tr_nil (tr_thenN (tr_seq (tr_region (tq (y_move rfl) (tr_e (e_call Tryz.call89 rfl (F.xaz_ok H)) rfl rfl ?_))))))))));rintro _ h1 ⟨r2, rfl, H⟩;refine tq (y_assign rfl) (tr_nil (tr_thenN (tr_seq (tr_region (tq (y_move rfl) (tr_e (e_call Tryz.call89 rfl (F.xaz_ok H)) rfl rfl ?_))))));rintro _ h3 ⟨r4, rfl, H⟩;refine tq (y_assign rfl) (tr_nil (tr_thenN (tr_seq (tr_seq (tr_region (tq (y_move rfl) (tr_nil (tr_thenN ?_))))))));refine tr_cond rfl (fun g5 => ?_) (fun g5 => ?_)
 ·replace H := H.1 g5;refine tr_seq (tr_seq (tr_region (tq (y_move rfl) (tr_nil (tr_thenN ?_)))));refine tr_cond rfl (fun g6 => ?_) (fun g6 => ?_)
  ·replace H := H.1 g6;refine tr_seq (tr_region (tq (y_assign rfl) (tr_nil (tr_thenN (tr_ret (tr_thenR (tr_thenR ?_)))))));exact tr_ret1 rfl rfl ⟨_, rfl, H⟩
  ·replace H := H.2 g6;refine tr_skip (tr_thenN (tr_seq (tr_region (tq (y_assign rfl) (tr_nil (tr_thenN (tr_ret (tr_thenR ?_))))))));exact tr_ret1 rfl rfl ⟨_, rfl, H⟩
 ·replace H := H.2 g5;refine tr_skip (tr_thenN (tr_seq (tr_seq (tr_region (tq (y_move rfl) (tr_nil (tr_thenN ?_)))))));refine tr_cond rfl (fun g7 => ?_) (fun g7 => ?_)
  ·replace H := H.1 g7;refine tr_seq (tr_region (tq (y_assign rfl) (tr_nil (tr_thenN (tr_ret (tr_thenR ?_))))));exact tr_ret1 rfl rfl ⟨_, rfl, H⟩
  ·replace H := H.2 g7;refine tr_skip (tr_thenN (tr_seq (tr_seq (tr_region (tq (y_move rfl) (tq (y_move rfl) (tq (y_lss rfl rfl) (tr_nil (tr_thenN ?_)))))))));refine tr_cond rfl (fun g8 => ?_) (fun g8 => ?_)
   ·replace H := H.1 g8;refine tr_seq (tr_region (tq (y_assign rfl) (tr_nil (tr_thenN (tr_ret (tr_thenR ?_))))));exact tr_ret1 rfl rfl ⟨_, rfl, H⟩
   ·replace H := H.2 g8;refine tr_skip (tr_thenN (tr_seq (tr_seq (tr_region (tq (y_move rfl) (tq (y_move rfl) (tq (y_gtr rfl rfl) (tr_nil (tr_thenN ?_)))))))));refine tr_cond rfl (fun g9 => ?_) (fun g9 => ?_)
    ·replace H := H.1 g9;refine tr_seq (tr_region (tq (y_assign rfl) (tr_nil (tr_thenN (tr_ret (tr_thenR ?_))))));exact tr_ret1 rfl rfl ⟨_, rfl, H⟩
    ·replace H := H.2 g9;refine tr_skip (tr_thenN (tr_seq (tr_region (tq (y_assign rfl) (tr_nil (tr_thenN (tr_ret ?_)))))));exact tr_ret1 rfl rfl ⟨_, rfl, H⟩
def F.xcu (p0 : ByteArray) (p1 : ByteArray) (h : H) (Q : Int -> H -> Prop) : Prop :=
  Q (cmpM p0 p1) h
theorem F.xcu_ok {p0 : ByteArray} {p1 : ByteArray} {h : H} {Q : Int -> H -> Prop} (H : F.xcu p0 p1 h Q) : Fn PP 90 ([(.string p0), (.string p1)] : List Value).toArray h fun r h' => ∃ r0, r = (.int .i64 r0) ∧ Q r0 h' := by
 unfold F.xcu at H;refine fn_of Tryz.func90 Tryz.ntmps90 rfl rfl fun w0 => (tr_sub [(0, (.string p0)), (1, (.string p1))] ⟨rfl, rfl, trivial⟩ (tr_seq (tr_region (tq (y_assign rfl) (tr_nil (tr_thenN (tr_seq (tr_region (tq (y_move rfl) (tq (y_move rfl) (tq (y_cmpS cmpS_122 rfl) (tq (y_assign rfl) (tr_nil ?_)))))))))))));refine tr_thenN (tr_ret ?_);exact tr_ret1 rfl rfl ⟨_, rfl, H⟩
end Go.Proofs.YtjjchpaomgmmdaaGreat.V
