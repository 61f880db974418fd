/- Parts of the proof of MergeMany; no condition. -/
import Derived.ChangeSlices
import Derived.OpenShut
import Derived.Test.YtidpbnbjpglhfaaQMergeMany1
namespace Go.Proofs.Ytidpbnbjpglhfaa.V
open Go
set_option linter.unusedVariables false
set_option maxRecDepth 100000
def F.spateref8_Rows.j1 (Q : Sl → H → Prop) (x5 : Sl) (h : H) : Prop :=
  Q x5 h
def F.spateref8_Rows.j4 (Q : Sl → H → Prop) (C1 : Int → Sl → Sl → Sl → H → Prop) (C2 : Int → Sl → Sl → Sl → Int → Int → H → Prop) (x0 : Int) (x1 : Sl) (x5 : Sl) (x6 : Sl) (x7 : Int) (x8 : Int) (h : H) : Prop :=
  C2 x0 x1 x5 x6 x7 (IntKind.wrap .i64 (x8 + 1)) h
def F.spateref8_Rows.j5 (Q : Sl → H → Prop) (C1 : Int → Sl → Sl → Sl → H → Prop) (C2 : Int → Sl → Sl → Sl → Int → Int → H → Prop) (x0 : Int) (x1 : Sl) (x5 : Sl) (x6 : Sl) (x7 : Int) (x8 : Int) (x61 : Bool) (h : H) : Prop :=
  (x61 = true →
  F.spateref8_Rows.j4 Q C1 C2 x0 x1 x5 x6 x8 x8 h) ∧
  (x61 = false →
  F.spateref8_Rows.j4 Q C1 C2 x0 x1 x5 x6 x7 x8 h)
def F.spateref8_Rows.l3 (Q : Sl → H → Prop) (C1 : Int → Sl → Sl → Sl → H → Prop) : Nat → Int → Sl → Sl → Sl → Int → Int → H → Prop
  | 0, _, _, _, _, _, _, _ => False
  | q3 + 1, x0, x1, x5, x6, x7, x8, h =>
    ((decide (x8 < (x1.len : Int))) = true →
    idxA x6 x8 1 fun a6 =>
    ldI .i64 h a6 fun y8 =>
    idxA x1 x8 1 fun a10 =>
    ldL h a10 fun y12 =>
    ((decide (y8 < (y12.len : Int))) = true →
    ((decide (x7 < 0)) = true →
    F.spateref8_Rows.j5 Q C1 (F.spateref8_Rows.l3 Q C1 q3) x0 x1 x5 x6 x7 x8 true h) ∧
    ((decide (x7 < 0)) = false →
    idxA x1 x8 1 fun a16 =>
    ldL h a16 fun y18 =>
    idxA x6 x8 1 fun a20 =>
    ldI .i64 h a20 fun y22 =>
    idxA y18 y22 7 fun a24 =>
    ld_S_api_Cell h (a24.add 0) fun y26 =>
    idxA x1 x7 1 fun a28 =>
    ldL h a28 fun y30 =>
    idxA x6 x7 1 fun a32 =>
    ldI .i64 h a32 fun y34 =>
    idxA y30 y34 7 fun a36 =>
    ld_S_api_Cell h (a36.add 0) fun y38 =>
    F.spateref8_Compare y26 y38 h fun r41 h40 =>
    F.spateref8_Rows.j5 Q C1 (F.spateref8_Rows.l3 Q C1 q3) x0 x1 x5 x6 x7 x8 (decide (r41 < 0)) h40)) ∧
    ((decide (y8 < (y12.len : Int))) = false →
    F.spateref8_Rows.j5 Q C1 (F.spateref8_Rows.l3 Q C1 q3) x0 x1 x5 x6 x7 x8 false h)) ∧
    ((decide (x8 < (x1.len : Int))) = false →
    ((decide (x7 < 0)) = true →
    F.spateref8_Rows.j1 Q x5 h) ∧
    ((decide (x7 < 0)) = false →
    idxA x1 x7 1 fun a43 =>
    ldL h a43 fun y45 =>
    idxA x6 x7 1 fun a47 =>
    ldI .i64 h a47 fun y49 =>
    idxA y45 y49 7 fun a51 =>
    ld_S_api_Row h a51 fun y53 =>
    newL h ((y53.cells).toArray) ty_66 1 fun s56 h55 =>
    runL PP (Builtin.append_ #[51, 51] 51 #[x5.enc, s56.enc]) h55 fun s58 h57 =>
    idxA x6 x7 1 fun a59 =>
    ldI .i64 h57 a59 fun y61 =>
    idxA x6 x7 1 fun a63 =>
    stH h57 a63 [(.int .i64 (IntKind.wrap .i64 (y61 + 1)))] fun h65 =>
    C1 x0 x1 s58 x6 h65))
def F.spateref8_Rows.l2 (Q : Sl → H → Prop) : Nat → Int → Sl → Sl → Sl → H → Prop
  | 0, _, _, _, _, _ => False
  | q2 + 1, x0, x1, x5, x6, h =>
    ((decide ((x5.len : Int) < x0)) = true →
    ∃ m, F.spateref8_Rows.l3 Q (F.spateref8_Rows.l2 Q q2) m x0 x1 x5 x6 (-1) 0 h) ∧
    ((decide ((x5.len : Int) < x0)) = false →
    F.spateref8_Rows.j1 Q x5 h)
/-- spate/spateref8.Rows -/
def F.spateref8_Rows (p0 : Int) (p1 : Sl) (h : H) (Q : Sl → H → Prop) : Prop :=
  runL PP (Instr.makeSlice 23 (.int .i64 (p1.len : Int)) (.int .i64 (p1.len : Int))) h fun s2 h1 =>
  ∃ m, F.spateref8_Rows.l2 Q m p0 p1 (⟨none, 0, 0⟩ : Sl) s2 h1
theorem F.spateref8_Rows_ok {p0 : Int} {p1 : Sl} {h : H} {Q : Sl → H → Prop} (H : F.spateref8_Rows p0 p1 h Q) : Fn PP 33 ([(.int .i64 p0), p1.enc] : List Value).toArray h fun r h' => ∃ r0, r = r0.enc ∧ Q r0 h' := by
  unfold F.spateref8_Rows at H
  refine fn_of Try.func33 Try.ntmps33 rfl rfl fun w0 => ?_
  refine tr_sub [(0, (.int .i64 p0)), (1, p1.enc)] ⟨rfl, rfl, trivial⟩ ?_
  refine tr_seq ?_
  refine tr_region ?_
  refine tr_p (y_assign rfl) rfl rfl ?_
  refine tr_nil ?_
  refine tr_thenN ?_
  refine tr_seq ?_
  refine tr_region ?_
  refine tr_p (y_assign rfl) rfl rfl ?_
  refine tr_nil ?_
  refine tr_thenN ?_
  refine tr_seq ?_
  refine tr_region ?_
  refine tr_p (y_move rfl) rfl rfl ?_
  refine tr_p (y_len (ts := #[]) Try.runUnderlying53 (o := p1.ptr) (n := p1.len) (cap := p1.cap) rfl) rfl rfl ?_
  refine tr_e (f_make rfl rfl H) rfl rfl ?_
  rintro _ h1 ⟨s2, rfl, H⟩
  refine tr_p (y_assign rfl) rfl rfl ?_
  refine tr_nil ?_
  refine tr_thenN ?_
  refine tr_seq_j (fun L' h => ∃ (x5 : Sl), L' = [(5, x5.enc)] ∧ F.spateref8_Rows.j1 Q x5 h) ?_ ?_
  · rintro L' h ⟨x5, rfl, H⟩
    unfold F.spateref8_Rows.j1 at H
    refine tr_seq ?_
    refine tr_region ?_
    refine tr_p (y_move rfl) rfl rfl ?_
    refine tr_p (y_assign rfl) rfl rfl ?_
    refine tr_nil ?_
    refine tr_thenN ?_
    refine tr_ret ?_
    exact tr_ret1 rfl rfl ⟨_, rfl, H⟩
  · refine tr_block ?_
    obtain ⟨m67, H⟩ := H
    refine tr_sub [(0, (.int .i64 p0)), (1, p1.enc), (5, (⟨none, 0, 0⟩ : Sl).enc), (6, s2.enc)] ⟨rfl, rfl, rfl, rfl, trivial⟩ ?_
    refine tr_loop_j (fun m L' h => ∃ (x0 : Int) (x1 : Sl) (x5 : Sl) (x6 : Sl), L' = [(0, (.int .i64 x0)), (1, x1.enc), (5, x5.enc), (6, x6.enc)] ∧ F.spateref8_Rows.l2 Q m x0 x1 x5 x6 h) ?_ ?_ m67 ⟨_, _, _, _, rfl, H⟩
    · rintro L' h ⟨_, _, _, _, _, H⟩; exact H
    · rintro q2 L' h ⟨x0, x1, x5, x6, rfl, H⟩
      unfold F.spateref8_Rows.l2 at H
      refine tr_seq ?_
      refine tr_seq ?_
      refine tr_region ?_
      refine tr_p (y_move rfl) rfl rfl ?_
      refine tr_p (y_len (ts := #[]) Try.runUnderlying51 (o := x5.ptr) (n := x5.len) (cap := x5.cap) rfl) rfl rfl ?_
      refine tr_p (y_move rfl) rfl rfl ?_
      refine tr_p (y_lss rfl rfl) rfl rfl ?_
      refine tr_nil ?_
      refine tr_thenN ?_
      refine tr_cond rfl (fun g3 => ?_) (fun g3 => ?_)
      · replace H := H.1 g3
        refine tr_skip ?_
        refine tr_thenN ?_
        refine tr_block ?_
        refine tr_seq ?_
        refine tr_region ?_
        refine tr_p (y_assign rfl) rfl rfl ?_
        refine tr_nil ?_
        refine tr_thenN ?_
        refine tr_seq ?_
        refine tr_seq ?_
        refine tr_region ?_
        refine tr_p (y_assign rfl) rfl rfl ?_
        refine tr_nil ?_
        refine tr_thenN ?_
        refine tr_block ?_
        obtain ⟨m66, H⟩ := H
        refine tr_sub [(0, (.int .i64 x0)), (1, x1.enc), (5, x5.enc), (6, x6.enc), (7, (.int .i64 (-1))), (8, (.int .i64 0))] ⟨rfl, rfl, rfl, rfl, rfl, rfl, trivial⟩ ?_
        refine tr_loop_j (fun m L' h => ∃ (x0 : Int) (x1 : Sl) (x5 : Sl) (x6 : Sl) (x7 : Int) (x8 : Int), L' = [(0, (.int .i64 x0)), (1, x1.enc), (5, x5.enc), (6, x6.enc), (7, (.int .i64 x7)), (8, (.int .i64 x8))] ∧ F.spateref8_Rows.l3 Q (F.spateref8_Rows.l2 Q q2) m x0 x1 x5 x6 x7 x8 h) ?_ ?_ m66 ⟨_, _, _, _, _, _, rfl, H⟩
        · rintro L' h ⟨_, _, _, _, _, _, _, H⟩; exact H
        · rintro q3 L' h ⟨x0, x1, x5, x6, x7, x8, rfl, H⟩
          unfold F.spateref8_Rows.l3 at H
          refine tr_seq ?_
          refine tr_seq ?_
          refine tr_region ?_
          refine tr_p (y_move rfl) rfl rfl ?_
          refine tr_p (y_move rfl) rfl rfl ?_
          refine tr_p (y_len (ts := #[]) Try.runUnderlying53 (o := x1.ptr) (n := x1.len) (cap := x1.cap) rfl) rfl rfl ?_
          refine tr_p (y_lss rfl rfl) rfl rfl ?_
          refine tr_nil ?_
          refine tr_thenN ?_
          refine tr_cond rfl (fun g4 => ?_) (fun g4 => ?_)
          · replace H := H.1 g4
            refine tr_skip ?_
            refine tr_thenN ?_
            refine tr_seq_j (fun L' h => ∃ (x0 : Int) (x1 : Sl) (x5 : Sl) (x6 : Sl) (x7 : Int) (x8 : Int), L' = [(0, (.int .i64 x0)), (1, x1.enc), (5, x5.enc), (6, x6.enc), (7, (.int .i64 x7)), (8, (.int .i64 x8))] ∧ F.spateref8_Rows.j4 Q (F.spateref8_Rows.l2 Q q2) (F.spateref8_Rows.l3 Q (F.spateref8_Rows.l2 Q q2) q3) x0 x1 x5 x6 x7 x8 h) ?_ ?_
            · rintro L' h ⟨x0, x1, x5, x6, x7, x8, rfl, H⟩
              unfold F.spateref8_Rows.j4 at H
              refine tr_region ?_
              refine tr_p (y_move rfl) rfl rfl ?_
              refine tr_p (y_add rfl rfl) rfl rfl ?_
              refine tr_p (y_assign rfl) rfl rfl ?_
              refine tr_nil ?_
              refine tr_thenN ?_
              exact tr_join [(0, (.int .i64 x0)), (1, x1.enc), (5, x5.enc), (6, x6.enc), (7, (.int .i64 x7)), (8, (.int .i64 (IntKind.wrap .i64 (x8 + 1))))] ⟨rfl, rfl, rfl, rfl, rfl, rfl, trivial⟩ ⟨_, _, _, _, _, _, rfl, H⟩
            · refine tr_block ?_
              refine tr_seq_j (fun L' h => ∃ (x0 : Int) (x1 : Sl) (x5 : Sl) (x6 : Sl) (x7 : Int) (x8 : Int) (x61 : Bool), L' = [(0, (.int .i64 x0)), (1, x1.enc), (5, x5.enc), (6, x6.enc), (7, (.int .i64 x7)), (8, (.int .i64 x8)), (61, (.bool x61))] ∧ F.spateref8_Rows.j5 Q (F.spateref8_Rows.l2 Q q2) (F.spateref8_Rows.l3 Q (F.spateref8_Rows.l2 Q q2) q3) x0 x1 x5 x6 x7 x8 x61 h) ?_ ?_
              · rintro L' h ⟨x0, x1, x5, x6, x7, x8, x61, rfl, H⟩
                unfold F.spateref8_Rows.j5 at H
                refine tr_cond rfl (fun g5 => ?_) (fun g5 => ?_)
                · replace H := H.1 g5
                  refine tr_region ?_
                  refine tr_p (y_move rfl) rfl rfl ?_
                  refine tr_p (y_assign rfl) rfl rfl ?_
                  refine tr_nil ?_
                  refine tr_blockN ?_
                  refine tr_thenN ?_
                  exact tr_join [(0, (.int .i64 x0)), (1, x1.enc), (5, x5.enc), (6, x6.enc), (7, (.int .i64 x8)), (8, (.int .i64 x8))] ⟨rfl, rfl, rfl, rfl, rfl, rfl, trivial⟩ ⟨_, _, _, _, _, _, rfl, H⟩
                · replace H := H.2 g5
                  refine tr_skip ?_
                  refine tr_blockN ?_
                  refine tr_thenN ?_
                  exact tr_join [(0, (.int .i64 x0)), (1, x1.enc), (5, x5.enc), (6, x6.enc), (7, (.int .i64 x7)), (8, (.int .i64 x8))] ⟨rfl, rfl, rfl, rfl, rfl, rfl, trivial⟩ ⟨_, _, _, _, _, _, rfl, H⟩
              · refine tr_draw mixed [0, 0, 3, 7, 0, 0, 48, 112, 240, 511, 1023, 2047, 4095, 8191, 16383, 16383, 65535, 131071, 16383, 16383, 802815, 1851391, 4194303, 8388607, 16777215, 16383, 16383, 100679679, 234897407, 16383, 16383, 1610629119, 3758112767, 8556396543, 17146331135, 34326200319, 68719476735, 137438953471, 274877906943, 549755813887] (by kernel_rfl) ?_
                refine g_p 0 1 rfl (by kernel_rfl) (y_move rfl) rfl rfl ?_
                refine g_p 1 3 rfl (by kernel_rfl) (y_move rfl) rfl rfl ?_
                obtain ⟨a6, e7, H⟩ := H
                refine g_p 2 7 rfl (by kernel_rfl) (f_idx (s := x6) Try.runUnderlying23 Try.sizeOf3 rfl rfl e7) rfl rfl ?_
                obtain ⟨y8, k9, H⟩ := H
                refine g_h 3 15 rfl (by kernel_rfl) (y_ld Try.isAgg3 rfl) k9 rfl rfl ?_
                refine g_p 4 31 rfl (by kernel_rfl) (y_move rfl) rfl rfl ?_
                refine g_p 5 63 rfl (by kernel_rfl) (y_move rfl) rfl rfl ?_
                obtain ⟨a10, e11, H⟩ := H
                refine g_p 6 127 rfl (by kernel_rfl) (f_idx (s := x1) Try.runUnderlying53 Try.sizeOf51 rfl rfl e11) rfl rfl ?_
                obtain ⟨y12, k13, H⟩ := H
                refine g_h 7 255 rfl (by kernel_rfl) (y_ld Try.isAgg51 rfl) k13 rfl rfl ?_
                refine g_p 8 511 rfl (by kernel_rfl) (y_len (ts := #[]) Try.runUnderlying51 (o := y12.ptr) (n := y12.len) (cap := y12.cap) rfl) rfl rfl ?_
                refine g_p 9 1023 rfl (by kernel_rfl) (y_lss rfl rfl) rfl rfl ?_
                refine g_p 10 2047 rfl (by kernel_rfl) (y_move rfl) rfl rfl ?_
                refine g_split (t := 32) rfl (fun g14 => ?_) (fun g14 => ?_)
                · replace H := H.1 g14
                  refine g_p 11 4095 rfl (by kernel_rfl) (y_move rfl) rfl rfl ?_
                  refine g_p 12 8191 rfl (by kernel_rfl) (y_lss rfl rfl) rfl rfl ?_
                  refine g_p 13 16383 rfl (by kernel_rfl) (y_move rfl) rfl rfl ?_
                  refine g_split (t := 35) rfl (fun g15 => ?_) (fun g15 => ?_)
                  · replace H := H.1 g15
                    refine g_s 14 32767 rfl (by kernel_rfl) rfl rfl ?_
                    refine g_s 15 65535 rfl (by kernel_rfl) rfl rfl ?_
                    refine g_s 16 131071 rfl (by kernel_rfl) rfl rfl ?_
                    refine g_s 17 262143 rfl (by kernel_rfl) rfl rfl ?_
                    refine g_s 18 524287 rfl (by kernel_rfl) rfl rfl ?_
                    refine g_s 19 1048575 rfl (by kernel_rfl) rfl rfl ?_
                    refine g_s 20 2097151 rfl (by kernel_rfl) rfl rfl ?_
                    refine g_s 21 4194303 rfl (by kernel_rfl) rfl rfl ?_
                    refine g_s 22 8388607 rfl (by kernel_rfl) rfl rfl ?_
                    refine g_s 23 16777215 rfl (by kernel_rfl) rfl rfl ?_
                    refine g_s 24 33554431 rfl (by kernel_rfl) rfl rfl ?_
                    refine g_s 25 67108863 rfl (by kernel_rfl) rfl rfl ?_
                    refine g_s 26 134217727 rfl (by kernel_rfl) rfl rfl ?_
                    refine g_s 27 268435455 rfl (by kernel_rfl) rfl rfl ?_
                    refine g_s 28 536870911 rfl (by kernel_rfl) rfl rfl ?_
                    refine g_s 29 1073741823 rfl (by kernel_rfl) rfl rfl ?_
                    refine g_s 30 2147483647 rfl (by kernel_rfl) rfl rfl ?_
                    refine g_s 31 4294967295 rfl (by kernel_rfl) rfl rfl ?_
                    refine g_s 32 8589934591 rfl (by kernel_rfl) rfl rfl ?_
                    refine g_s 33 17179869183 rfl (by kernel_rfl) rfl rfl ?_
                    refine g_s 34 34359738367 rfl (by kernel_rfl) rfl rfl ?_
                    refine g_s 35 68719476735 rfl (by kernel_rfl) rfl rfl ?_
                    refine g_s 36 137438953471 rfl (by kernel_rfl) rfl rfl ?_
                    refine g_s 37 274877906943 rfl (by kernel_rfl) rfl rfl ?_
                    refine g_p 38 549755813887 rfl (by kernel_rfl) (y_pick_t rfl rfl) rfl rfl ?_
                    refine g_p 39 1099511627775 rfl (by kernel_rfl) (y_pick_t rfl rfl) rfl rfl ?_
                    refine g_d (by kernel_rfl) ?_
                    refine tr_thenN ?_
                    exact tr_join [(0, (.int .i64 x0)), (1, x1.enc), (5, x5.enc), (6, x6.enc), (7, (.int .i64 x7)), (8, (.int .i64 x8)), (61, (.bool true))] ⟨rfl, rfl, rfl, rfl, rfl, rfl, rfl, trivial⟩ ⟨_, _, _, _, _, _, _, rfl, H⟩
                  · replace H := H.2 g15
                    refine g_p 14 32767 rfl (by kernel_rfl) (y_move rfl) rfl rfl ?_
                    refine g_p 15 65535 rfl (by kernel_rfl) (y_move rfl) rfl rfl ?_
                    obtain ⟨a16, e17, H⟩ := H
                    refine g_p 16 131071 rfl (by kernel_rfl) (f_idx (s := x1) Try.runUnderlying53 Try.sizeOf51 rfl rfl e17) rfl rfl ?_
                    obtain ⟨y18, k19, H⟩ := H
                    refine g_h 17 262143 rfl (by kernel_rfl) (y_ld Try.isAgg51 rfl) k19 rfl rfl ?_
                    refine g_p 18 524287 rfl (by kernel_rfl) (y_move rfl) rfl rfl ?_
                    refine g_p 19 1048575 rfl (by kernel_rfl) (y_move rfl) rfl rfl ?_
                    obtain ⟨a20, e21, H⟩ := H
                    refine g_p 20 2097151 rfl (by kernel_rfl) (f_idx (s := x6) Try.runUnderlying23 Try.sizeOf3 rfl rfl e21) rfl rfl ?_
                    obtain ⟨y22, k23, H⟩ := H
                    refine g_h 21 4194303 rfl (by kernel_rfl) (y_ld Try.isAgg3 rfl) k23 rfl rfl ?_
                    obtain ⟨a24, e25, H⟩ := H
                    refine g_p 22 8388607 rfl (by kernel_rfl) (f_idx (s := y18) Try.runUnderlying51 Try.sizeOf66 rfl rfl e25) rfl rfl ?_
                    refine g_p 23 16777215 rfl (by kernel_rfl) (y_fa (off := 0) Try.runUnderlying66 fo_66_0 rfl) rfl rfl ?_
                    obtain ⟨y26, k27, H⟩ := H
                    refine g_h 24 33554431 rfl (by kernel_rfl) (y_ldS Try.isAgg34 Try.sizeOf34 rfl rfl) k27 rfl rfl ?_
                    refine g_p 25 67108863 rfl (by kernel_rfl) (y_move rfl) rfl rfl ?_
                    refine g_p 26 134217727 rfl (by kernel_rfl) (y_move rfl) rfl rfl ?_
                    obtain ⟨a28, e29, H⟩ := H
                    refine g_p 27 268435455 rfl (by kernel_rfl) (f_idx (s := x1) Try.runUnderlying53 Try.sizeOf51 rfl rfl e29) rfl rfl ?_
                    obtain ⟨y30, k31, H⟩ := H
                    refine g_h 28 536870911 rfl (by kernel_rfl) (y_ld Try.isAgg51 rfl) k31 rfl rfl ?_
                    refine g_p 29 1073741823 rfl (by kernel_rfl) (y_move rfl) rfl rfl ?_
                    refine g_p 30 2147483647 rfl (by kernel_rfl) (y_move rfl) rfl rfl ?_
                    obtain ⟨a32, e33, H⟩ := H
                    refine g_p 31 4294967295 rfl (by kernel_rfl) (f_idx (s := x6) Try.runUnderlying23 Try.sizeOf3 rfl rfl e33) rfl rfl ?_
                    obtain ⟨y34, k35, H⟩ := H
                    refine g_h 32 8589934591 rfl (by kernel_rfl) (y_ld Try.isAgg3 rfl) k35 rfl rfl ?_
                    obtain ⟨a36, e37, H⟩ := H
                    refine g_p 33 17179869183 rfl (by kernel_rfl) (f_idx (s := y30) Try.runUnderlying51 Try.sizeOf66 rfl rfl e37) rfl rfl ?_
                    refine g_p 34 34359738367 rfl (by kernel_rfl) (y_fa (off := 0) Try.runUnderlying66 fo_66_0 rfl) rfl rfl ?_
                    obtain ⟨y38, k39, H⟩ := H
                    refine g_h 35 68719476735 rfl (by kernel_rfl) (y_ldS Try.isAgg34 Try.sizeOf34 rfl rfl) k39 rfl rfl ?_
                    refine g_e 36 137438953471 [] (by kernel_rfl) rfl (by kernel_rfl) (e_call Try.call27 rfl (F.spateref8_Compare_ok H)) rfl rfl ?_
                    rintro _ h40 ⟨r41, rfl, H⟩
                    refine ⟨trivial, ?_⟩
                    refine g_p 37 274877906943 rfl (by kernel_rfl) (y_lss rfl rfl) rfl rfl ?_
                    refine g_p 38 549755813887 rfl (by kernel_rfl) (y_pick_f rfl rfl) rfl rfl ?_
                    refine g_p 39 1099511627775 rfl (by kernel_rfl) (y_pick_t rfl rfl) rfl rfl ?_
                    refine g_d (by kernel_rfl) ?_
                    refine tr_thenN ?_
                    exact tr_join [(0, (.int .i64 x0)), (1, x1.enc), (5, x5.enc), (6, x6.enc), (7, (.int .i64 x7)), (8, (.int .i64 x8)), (61, (.bool (decide (r41 < 0))))] ⟨rfl, rfl, rfl, rfl, rfl, rfl, rfl, trivial⟩ ⟨_, _, _, _, _, _, _, rfl, H⟩
                · replace H := H.2 g14
                  refine g_s 11 4095 rfl (by kernel_rfl) rfl rfl ?_
                  refine g_s 12 8191 rfl (by kernel_rfl) rfl rfl ?_
                  refine g_s 13 16383 rfl (by kernel_rfl) rfl rfl ?_
                  refine g_s 14 32767 rfl (by kernel_rfl) rfl rfl ?_
                  refine g_s 15 65535 rfl (by kernel_rfl) rfl rfl ?_
                  refine g_s 16 131071 rfl (by kernel_rfl) rfl rfl ?_
                  refine g_s 17 262143 rfl (by kernel_rfl) rfl rfl ?_
                  refine g_s 18 524287 rfl (by kernel_rfl) rfl rfl ?_
                  refine g_s 19 1048575 rfl (by kernel_rfl) rfl rfl ?_
                  refine g_s 20 2097151 rfl (by kernel_rfl) rfl rfl ?_
                  refine g_s 21 4194303 rfl (by kernel_rfl) rfl rfl ?_
                  refine g_s 22 8388607 rfl (by kernel_rfl) rfl rfl ?_
                  refine g_s 23 16777215 rfl (by kernel_rfl) rfl rfl ?_
                  refine g_s 24 33554431 rfl (by kernel_rfl) rfl rfl ?_
                  refine g_s 25 67108863 rfl (by kernel_rfl) rfl rfl ?_
                  refine g_s 26 134217727 rfl (by kernel_rfl) rfl rfl ?_
                  refine g_s 27 268435455 rfl (by kernel_rfl) rfl rfl ?_
                  refine g_s 28 536870911 rfl (by kernel_rfl) rfl rfl ?_
                  refine g_s 29 1073741823 rfl (by kernel_rfl) rfl rfl ?_
                  refine g_s 30 2147483647 rfl (by kernel_rfl) rfl rfl ?_
                  refine g_s 31 4294967295 rfl (by kernel_rfl) rfl rfl ?_
                  refine g_s 32 8589934591 rfl (by kernel_rfl) rfl rfl ?_
                  refine g_s 33 17179869183 rfl (by kernel_rfl) rfl rfl ?_
                  refine g_s 34 34359738367 rfl (by kernel_rfl) rfl rfl ?_
                  refine g_s 35 68719476735 rfl (by kernel_rfl) rfl rfl ?_
                  refine g_s 36 137438953471 rfl (by kernel_rfl) rfl rfl ?_
                  refine g_s 37 274877906943 rfl (by kernel_rfl) rfl rfl ?_
                  refine g_s 38 549755813887 rfl (by kernel_rfl) rfl rfl ?_
                  refine g_p 39 1099511627775 rfl (by kernel_rfl) (y_pick_f rfl rfl) rfl rfl ?_
                  refine g_d (by kernel_rfl) ?_
                  refine tr_thenN ?_
                  exact tr_join [(0, (.int .i64 x0)), (1, x1.enc), (5, x5.enc), (6, x6.enc), (7, (.int .i64 x7)), (8, (.int .i64 x8)), (61, (.bool false))] ⟨rfl, rfl, rfl, rfl, rfl, rfl, rfl, trivial⟩ ⟨_, _, _, _, _, _, _, rfl, H⟩
          · replace H := H.2 g4
            refine tr_exit ?_
            refine tr_thenE ?_
            refine tr_thenE ?_
            refine tr_hit ?_
            refine tr_thenN ?_
            refine tr_seq ?_
            refine tr_seq ?_
            refine tr_region ?_
            refine tr_p (y_move rfl) rfl rfl ?_
            refine tr_p (y_lss rfl rfl) rfl rfl ?_
            refine tr_nil ?_
            refine tr_thenN ?_
            refine tr_cond rfl (fun g42 => ?_) (fun g42 => ?_)
            · replace H := H.1 g42
              refine tr_exit ?_
              refine tr_thenE ?_
              refine tr_miss rfl ?_
              refine tr_thenE ?_
              refine tr_hit ?_
              refine tr_thenN ?_
              exact tr_join [(5, x5.enc)] ⟨rfl, trivial⟩ ⟨_, rfl, H⟩
            · replace H := H.2 g42
              refine tr_skip ?_
              refine tr_thenN ?_
              refine tr_seq ?_
              refine tr_draw mixed [0, 0, 0, 6, 14, 0, 0, 96, 224, 510, 1022, 2046, 4095, 8191] (by kernel_rfl) ?_
              refine g_p 0 1 rfl (by kernel_rfl) (y_move rfl) rfl rfl ?_
              refine g_p 1 3 rfl (by kernel_rfl) (y_move rfl) rfl rfl ?_
              refine g_p 2 7 rfl (by kernel_rfl) (y_move rfl) rfl rfl ?_
              obtain ⟨a43, e44, H⟩ := H
              refine g_p 3 15 rfl (by kernel_rfl) (f_idx (s := x1) Try.runUnderlying53 Try.sizeOf51 rfl rfl e44) rfl rfl ?_
              obtain ⟨y45, k46, H⟩ := H
              refine g_h 4 31 rfl (by kernel_rfl) (y_ld Try.isAgg51 rfl) k46 rfl rfl ?_
              refine g_p 5 63 rfl (by kernel_rfl) (y_move rfl) rfl rfl ?_
              refine g_p 6 127 rfl (by kernel_rfl) (y_move rfl) rfl rfl ?_
              obtain ⟨a47, e48, H⟩ := H
              refine g_p 7 255 rfl (by kernel_rfl) (f_idx (s := x6) Try.runUnderlying23 Try.sizeOf3 rfl rfl e48) rfl rfl ?_
              obtain ⟨y49, k50, H⟩ := H
              refine g_h 8 511 rfl (by kernel_rfl) (y_ld Try.isAgg3 rfl) k50 rfl rfl ?_
              obtain ⟨a51, e52, H⟩ := H
              refine g_p 9 1023 rfl (by kernel_rfl) (f_idx (s := y45) Try.runUnderlying51 Try.sizeOf66 rfl rfl e52) rfl rfl ?_
              obtain ⟨y53, k54, H⟩ := H
              refine g_h 10 2047 rfl (by kernel_rfl) (y_ldS Try.isAgg66 Try.sizeOf66 rfl rfl) k54 rfl rfl ?_
              refine g_e 11 4095 [] (by kernel_rfl) rfl (by kernel_rfl) (f_buildL (cs := (y53.cells).toArray) rfl rfl (bl_51_1_0 y53) H) rfl rfl ?_
              rintro _ h55 ⟨s56, rfl, H⟩
              refine ⟨trivial, ?_⟩
              refine g_e 12 8191 [] (by kernel_rfl) rfl (by kernel_rfl) (f_app rfl H) rfl rfl ?_
              rintro _ h57 ⟨s58, rfl, H⟩
              refine ⟨trivial, ?_⟩
              refine g_e 13 16383 [] (by kernel_rfl) rfl (by kernel_rfl) (yp_ev (y_assign rfl)) rfl rfl ?_
              rintro _ _ ⟨rfl, rfl⟩
              refine ⟨trivial, ?_⟩
              refine g_d (by kernel_rfl) ?_
              refine tr_thenN ?_
              refine tr_region ?_
              refine tr_p (y_move rfl) rfl rfl ?_
              refine tr_p (y_move rfl) rfl rfl ?_
              obtain ⟨a59, e60, H⟩ := H
              refine tr_p (f_idx (s := x6) Try.runUnderlying23 Try.sizeOf3 rfl rfl e60) rfl rfl ?_
              obtain ⟨y61, k62, H⟩ := H
              refine tr_h (y_ld Try.isAgg3 rfl) k62 rfl rfl ?_
              refine tr_p (y_add rfl rfl) rfl rfl ?_
              obtain ⟨a63, e64, H⟩ := H
              refine tr_p (f_idx (s := x6) Try.runUnderlying23 Try.sizeOf3 rfl rfl e64) rfl rfl ?_
              refine tr_e (f_store (vs := [(.int .i64 (IntKind.wrap .i64 (y61 + 1)))]) Try.sizeOf3 rfl rfl rfl rfl (one1 rfl) H) rfl rfl ?_
              rintro _ h65 ⟨rfl, H⟩
              refine tr_nil ?_
              refine tr_blockN ?_
              refine tr_thenN ?_
              exact tr_join [(0, (.int .i64 x0)), (1, x1.enc), (5, s58.enc), (6, x6.enc)] ⟨rfl, rfl, rfl, rfl, trivial⟩ ⟨_, _, _, _, rfl, H⟩
      · replace H := H.2 g3
        refine tr_exit ?_
        refine tr_thenE ?_
        refine tr_thenE ?_
        refine tr_hit ?_
        refine tr_thenN ?_
        exact tr_join [(5, x5.enc)] ⟨rfl, trivial⟩ ⟨_, rfl, H⟩
def F.spatelaw2_SameRows.l1 (Q : Bool → H → Prop) : Nat → Sl → Sl → Int → H → Prop
  | 0, _, _, _, _ => False
  | q1 + 1, x0, x1, x5, h =>
    ((decide (x5 < (x0.len : Int))) = true →
    idxA x0 x5 7 fun a3 =>
    ld_S_api_Row h a3 fun y5 =>
    idxA x1 x5 7 fun a7 =>
    ld_S_api_Row h a7 fun y9 =>
    ((!((((y5.Cell.View == y9.Cell.View) && ((y5.Cell.Key.toList == y9.Cell.Key.toList) && ((y5.Cell.Start == y9.Cell.Start) && true)))) && ((((y5.Agg.Count == y9.Agg.Count) && ((y5.Agg.Sum == y9.Agg.Sum) && ((y5.Agg.Min == y9.Agg.Min) && ((y5.Agg.Max == y9.Agg.Max) && true))))) && true))) = true →
    Q false h) ∧
    ((!((((y5.Cell.View == y9.Cell.View) && ((y5.Cell.Key.toList == y9.Cell.Key.toList) && ((y5.Cell.Start == y9.Cell.Start) && true)))) && ((((y5.Agg.Count == y9.Agg.Count) && ((y5.Agg.Sum == y9.Agg.Sum) && ((y5.Agg.Min == y9.Agg.Min) && ((y5.Agg.Max == y9.Agg.Max) && true))))) && true))) = false →
    (F.spatelaw2_SameRows.l1 Q q1) x0 x1 (IntKind.wrap .i64 (x5 + 1)) h)) ∧
    ((decide (x5 < (x0.len : Int))) = false →
    Q true h)
/-- spate/spatelaw2.SameRows -/
def F.spatelaw2_SameRows (p0 : Sl) (p1 : Sl) (h : H) (Q : Bool → H → Prop) : Prop :=
  ((((p0.len : Int) != (p1.len : Int))) = true →
  Q false h) ∧
  ((((p0.len : Int) != (p1.len : Int))) = false →
  ∃ m, F.spatelaw2_SameRows.l1 Q m p0 p1 0 h)
theorem F.spatelaw2_SameRows_ok {p0 : Sl} {p1 : Sl} {h : H} {Q : Bool → H → Prop} (H : F.spatelaw2_SameRows p0 p1 h Q) : Fn PP 32 ([p0.enc, p1.enc] : List Value).toArray h fun r h' => ∃ r0, r = (.bool r0) ∧ Q r0 h' := by
  unfold F.spatelaw2_SameRows at H
  refine fn_of Try.func32 Try.ntmps32 rfl rfl fun w0 => ?_
  refine tr_sub [(0, p0.enc), (1, p1.enc)] ⟨rfl, rfl, trivial⟩ ?_
  refine tr_seq ?_
  refine tr_region ?_
  refine tr_p (y_assign rfl) rfl rfl ?_
  refine tr_nil ?_
  refine tr_thenN ?_
  refine tr_seq ?_
  refine tr_seq ?_
  refine tr_region ?_
  refine tr_p (y_move rfl) rfl rfl ?_
  refine tr_p (y_len (ts := #[]) Try.runUnderlying51 (o := p0.ptr) (n := p0.len) (cap := p0.cap) rfl) rfl rfl ?_
  refine tr_p (y_move rfl) rfl rfl ?_
  refine tr_p (y_len (ts := #[]) Try.runUnderlying51 (o := p1.ptr) (n := p1.len) (cap := p1.cap) rfl) rfl rfl ?_
  refine tr_p (y_neq rfl rfl) rfl rfl ?_
  refine tr_nil ?_
  refine tr_thenN ?_
  refine tr_cond rfl (fun g1 => ?_) (fun g1 => ?_)
  · replace H := H.1 g1
    refine tr_seq ?_
    refine tr_region ?_
    refine tr_p (y_assign rfl) rfl rfl ?_
    refine tr_nil ?_
    refine tr_thenN ?_
    refine tr_ret ?_
    refine tr_thenR ?_
    exact tr_ret1 rfl rfl ⟨_, rfl, H⟩
  · replace H := H.2 g1
    refine tr_skip ?_
    refine tr_thenN ?_
    refine tr_seq ?_
    refine tr_seq ?_
    refine tr_region ?_
    refine tr_p (y_assign rfl) rfl rfl ?_
    refine tr_nil ?_
    refine tr_thenN ?_
    refine tr_block ?_
    obtain ⟨m12, H⟩ := H
    refine tr_sub [(0, p0.enc), (1, p1.enc), (5, (.int .i64 0))] ⟨rfl, rfl, rfl, trivial⟩ ?_
    refine tr_loop_j (fun m L' h => ∃ (x0 : Sl) (x1 : Sl) (x5 : Int), L' = [(0, x0.enc), (1, x1.enc), (5, (.int .i64 x5))] ∧ F.spatelaw2_SameRows.l1 Q m x0 x1 x5 h) ?_ ?_ m12 ⟨_, _, _, rfl, H⟩
    · rintro L' h ⟨_, _, _, _, H⟩; exact H
    · rintro q1 L' h ⟨x0, x1, x5, rfl, H⟩
      unfold F.spatelaw2_SameRows.l1 at H
      refine tr_seq ?_
      refine tr_seq ?_
      refine tr_region ?_
      refine tr_p (y_move rfl) rfl rfl ?_
      refine tr_p (y_move rfl) rfl rfl ?_
      refine tr_p (y_len (ts := #[]) Try.runUnderlying51 (o := x0.ptr) (n := x0.len) (cap := x0.cap) rfl) rfl rfl ?_
      refine tr_p (y_lss rfl rfl) rfl rfl ?_
      refine tr_nil ?_
      refine tr_thenN ?_
      refine tr_cond rfl (fun g2 => ?_) (fun g2 => ?_)
      · replace H := H.1 g2
        refine tr_skip ?_
        refine tr_thenN ?_
        refine tr_seq ?_
        refine tr_block ?_
        refine tr_seq ?_
        refine tr_draw mixed [0, 0, 3, 7, 0, 0, 48, 112, 255] (by kernel_rfl) ?_
        refine g_p 0 1 rfl (by kernel_rfl) (y_move rfl) rfl rfl ?_
        refine g_p 1 3 rfl (by kernel_rfl) (y_move rfl) rfl rfl ?_
        obtain ⟨a3, e4, H⟩ := H
        refine g_p 2 7 rfl (by kernel_rfl) (f_idx (s := x0) Try.runUnderlying51 Try.sizeOf66 rfl rfl e4) rfl rfl ?_
        obtain ⟨y5, k6, H⟩ := H
        refine g_h 3 15 rfl (by kernel_rfl) (y_ldS Try.isAgg66 Try.sizeOf66 rfl rfl) k6 rfl rfl ?_
        refine g_p 4 31 rfl (by kernel_rfl) (y_move rfl) rfl rfl ?_
        refine g_p 5 63 rfl (by kernel_rfl) (y_move rfl) rfl rfl ?_
        obtain ⟨a7, e8, H⟩ := H
        refine g_p 6 127 rfl (by kernel_rfl) (f_idx (s := x1) Try.runUnderlying51 Try.sizeOf66 rfl rfl e8) rfl rfl ?_
        obtain ⟨y9, k10, H⟩ := H
        refine g_h 7 255 rfl (by kernel_rfl) (y_ldS Try.isAgg66 Try.sizeOf66 rfl rfl) k10 rfl rfl ?_
        refine g_p 8 511 rfl (by kernel_rfl) (st_neq (b := ((((y5.Cell.View == y9.Cell.View) && ((y5.Cell.Key.toList == y9.Cell.Key.toList) && ((y5.Cell.Start == y9.Cell.Start) && true)))) && ((((y5.Agg.Count == y9.Agg.Count) && ((y5.Agg.Sum == y9.Agg.Sum) && ((y5.Agg.Min == y9.Agg.Min) && ((y5.Agg.Max == y9.Agg.Max) && true))))) && true))) eqg_66 (fun w => eqst_66 y5 y9 9997 w) rfl rfl) rfl rfl ?_
        refine g_d (by kernel_rfl) ?_
        refine tr_thenN ?_
        refine tr_cond rfl (fun g11 => ?_) (fun g11 => ?_)
        · replace H := H.1 g11
          refine tr_seq ?_
          refine tr_region ?_
          refine tr_p (y_assign rfl) rfl rfl ?_
          refine tr_nil ?_
          refine tr_thenN ?_
          refine tr_ret ?_
          refine tr_blockR ?_
          refine tr_thenR ?_
          refine tr_thenR ?_
          refine tr_blockR ?_
          refine tr_thenR ?_
          exact tr_ret1 rfl rfl ⟨_, rfl, H⟩
        · replace H := H.2 g11
          refine tr_skip ?_
          refine tr_blockN ?_
          refine tr_thenN ?_
          refine tr_region ?_
          refine tr_p (y_move rfl) rfl rfl ?_
          refine tr_p (y_add rfl rfl) rfl rfl ?_
          refine tr_p (y_assign rfl) rfl rfl ?_
          refine tr_nil ?_
          refine tr_thenN ?_
          exact tr_join [(0, x0.enc), (1, x1.enc), (5, (.int .i64 (IntKind.wrap .i64 (x5 + 1))))] ⟨rfl, rfl, rfl, trivial⟩ ⟨_, _, _, rfl, H⟩
      · replace H := H.2 g2
        refine tr_exit ?_
        refine tr_thenE ?_
        refine tr_thenE ?_
        refine tr_hit ?_
        refine tr_thenN ?_
        refine tr_seq ?_
        refine tr_region ?_
        refine tr_p (y_assign rfl) rfl rfl ?_
        refine tr_nil ?_
        refine tr_thenN ?_
        refine tr_ret ?_
        exact tr_ret1 rfl rfl ⟨_, rfl, H⟩
def F.spatelaw8_MergeMany.j3 (Q : Bool → H → Prop) (C1 : Int → Sl → Sl → Sl → Int → H → Prop) (x0 : Int) (x1 : Sl) (x2 : Sl) (x7 : Sl) (x8 : Int) (h : H) : Prop :=
  C1 x0 x1 x2 x7 (IntKind.wrap .i64 (x8 + 1)) h
def F.spatelaw8_MergeMany.j4 (Q : Bool → H → Prop) (C1 : Int → Sl → Sl → Sl → Int → H → Prop) (x0 : Int) (x1 : Sl) (x2 : Sl) (x7 : Sl) (x8 : Int) (x9 : Sl) (h : H) : Prop :=
  newL h #[x9.enc] ty_51 1 fun s11 h10 =>
  runL PP (Builtin.append_ #[53, 53] 53 #[x7.enc, s11.enc]) h10 fun s13 h12 =>
  F.spatelaw8_MergeMany.j3 Q C1 x0 x1 x2 s13 x8 h12
def F.spatelaw8_MergeMany.j2 (Q : Bool → H → Prop) (C1 : Int → Sl → Sl → Sl → Int → H → Prop) (x0 : Int) (x1 : Sl) (x2 : Sl) (x7 : Sl) (x8 : Int) (h : H) : Prop :=
  idxA x1 x8 1 fun a4 =>
  ldL h a4 fun y6 =>
  F.spatelaw8_ordered y6 h fun r9 h8 =>
  ((decide ((r9.len : Int) > 30)) = true →
  cutL r9 0 30 7 fun s16 =>
  F.spatelaw8_MergeMany.j4 Q C1 x0 x1 x2 x7 x8 s16 h8) ∧
  ((decide ((r9.len : Int) > 30)) = false →
  F.spatelaw8_MergeMany.j4 Q C1 x0 x1 x2 x7 x8 r9 h8)
def F.spatelaw8_MergeMany.j8 (Q : Bool → H → Prop) (C1 : Int → Sl → Sl → Sl → Int → H → Prop) (x0 : Int) (x2 : Sl) (x7 : Sl) (x10 : Sl) (x11 : Int) (h : H) : Prop :=
  C1 x0 x2 x7 x10 (IntKind.wrap .i64 (x11 + 1)) h
def F.spatelaw8_MergeMany.j9 (Q : Bool → H → Prop) (C1 : Int → Sl → Sl → Sl → Int → H → Prop) (x0 : Int) (x2 : Sl) (x7 : Sl) (x10 : Sl) (x11 : Int) (x12 : Sl) (h : H) : Prop :=
  newL h #[x12.enc] ty_23 1 fun s25 h24 =>
  runL PP (Builtin.append_ #[25, 25] 25 #[x10.enc, s25.enc]) h24 fun s27 h26 =>
  F.spatelaw8_MergeMany.j8 Q C1 x0 x2 x7 s27 x11 h26
def F.spatelaw8_MergeMany.j7 (Q : Bool → H → Prop) (C1 : Int → Sl → Sl → Sl → Int → H → Prop) (x0 : Int) (x2 : Sl) (x7 : Sl) (x10 : Sl) (x11 : Int) (h : H) : Prop :=
  idxA x2 x11 1 fun a18 =>
  ldL h a18 fun y20 =>
  F.spatelaw8_rising y20 h fun r23 h22 =>
  ((decide ((r23.len : Int) > 30)) = true →
  cutL r23 0 30 1 fun s30 =>
  F.spatelaw8_MergeMany.j9 Q C1 x0 x2 x7 x10 x11 s30 h22) ∧
  ((decide ((r23.len : Int) > 30)) = false →
  F.spatelaw8_MergeMany.j9 Q C1 x0 x2 x7 x10 x11 r23 h22)
def F.spatelaw8_MergeMany.j10 (Q : Bool → H → Prop) (C1 : Int → Sl → Sl → Sl → Int → H → Prop) (x0 : Int) (x2 : Sl) (x7 : Sl) (x10 : Sl) (x11 : Int) (x46 : Bool) (h : H) : Prop :=
  (x46 = true →
  F.spatelaw8_MergeMany.j7 Q C1 x0 x2 x7 x10 x11 h) ∧
  (x46 = false →
  F.merge_Rows x0 x7 h fun r33 h32 =>
  F.spateref8_Rows x0 x7 h32 fun r35 h34 =>
  F.spatelaw2_SameRows r33 r35 h34 fun r37 h36 =>
  (r37 = true →
  F.merge_Lists_int x10 h36 fun r40 h39 =>
  F.spateref8_Lists x10 h39 fun r42 h41 =>
  F.spatelaw8_same r40 r42 h41 fun r44 h43 =>
  Q r44 h43) ∧
  (r37 = false →
  Q false h36))
def F.spatelaw8_MergeMany.l6 (Q : Bool → H → Prop) : Nat → Int → Sl → Sl → Sl → Int → H → Prop
  | 0, _, _, _, _, _, _ => False
  | q6 + 1, x0, x2, x7, x10, x11, h =>
    ((decide (x11 < (x2.len : Int))) = true →
    F.spatelaw8_MergeMany.j10 Q (F.spatelaw8_MergeMany.l6 Q q6) x0 x2 x7 x10 x11 (decide (x11 < 60)) h) ∧
    ((decide (x11 < (x2.len : Int))) = false →
    F.spatelaw8_MergeMany.j10 Q (F.spatelaw8_MergeMany.l6 Q q6) x0 x2 x7 x10 x11 false h)
def F.spatelaw8_MergeMany.j5 (Q : Bool → H → Prop) (C1 : Int → Sl → Sl → Sl → Int → H → Prop) (x0 : Int) (x1 : Sl) (x2 : Sl) (x7 : Sl) (x8 : Int) (x22 : Bool) (h : H) : Prop :=
  (x22 = true →
  F.spatelaw8_MergeMany.j2 Q C1 x0 x1 x2 x7 x8 h) ∧
  (x22 = false →
  ∃ m, F.spatelaw8_MergeMany.l6 Q m x0 x2 x7 (⟨none, 0, 0⟩ : Sl) 0 h)
def F.spatelaw8_MergeMany.l1 (Q : Bool → H → Prop) : Nat → Int → Sl → Sl → Sl → Int → H → Prop
  | 0, _, _, _, _, _, _ => False
  | q1 + 1, x0, x1, x2, x7, x8, h =>
    ((decide (x8 < (x1.len : Int))) = true →
    F.spatelaw8_MergeMany.j5 Q (F.spatelaw8_MergeMany.l1 Q q1) x0 x1 x2 x7 x8 (decide (x8 < 40)) h) ∧
    ((decide (x8 < (x1.len : Int))) = false →
    F.spatelaw8_MergeMany.j5 Q (F.spatelaw8_MergeMany.l1 Q q1) x0 x1 x2 x7 x8 false h)
/-- spate/spatelaw8.MergeMany -/
def F.spatelaw8_MergeMany (p0 : Int) (p1 : Sl) (p2 : Sl) (h : H) (Q : Bool → H → Prop) : Prop :=
  F.spatelaw8_known  h fun r2 h1 =>
  ((!r2) = true →
  Q false h1) ∧
  ((!r2) = false →
  ∃ m, F.spatelaw8_MergeMany.l1 Q m p0 p1 p2 (⟨none, 0, 0⟩ : Sl) 0 h1)
theorem F.spatelaw8_MergeMany_ok {p0 : Int} {p1 : Sl} {p2 : Sl} {h : H} {Q : Bool → H → Prop} (H : F.spatelaw8_MergeMany p0 p1 p2 h Q) : Fn PP 12 ([(.int .i64 p0), p1.enc, p2.enc] : List Value).toArray h fun r h' => ∃ r0, r = (.bool r0) ∧ Q r0 h' := by
  unfold F.spatelaw8_MergeMany at H
  refine fn_of Try.func12 Try.ntmps12 rfl rfl fun w0 => ?_
  refine tr_sub [(0, (.int .i64 p0)), (1, p1.enc), (2, p2.enc)] ⟨rfl, rfl, rfl, trivial⟩ ?_
  refine tr_seq ?_
  refine tr_region ?_
  refine tr_p (y_assign rfl) rfl rfl ?_
  refine tr_nil ?_
  refine tr_thenN ?_
  refine tr_seq ?_
  refine tr_seq ?_
  refine tr_region ?_
  refine tr_e (e_call Try.call15 rfl (F.spatelaw8_known_ok H)) rfl rfl ?_
  rintro _ h1 ⟨r2, rfl, H⟩
  refine tr_p (y_not rfl) rfl rfl ?_
  refine tr_nil ?_
  refine tr_thenN ?_
  refine tr_cond rfl (fun g3 => ?_) (fun g3 => ?_)
  · replace H := H.1 g3
    refine tr_seq ?_
    refine tr_region ?_
    refine tr_p (y_assign rfl) rfl rfl ?_
    refine tr_nil ?_
    refine tr_thenN ?_
    refine tr_ret ?_
    refine tr_thenR ?_
    exact tr_ret1 rfl rfl ⟨_, rfl, H⟩
  · replace H := H.2 g3
    refine tr_skip ?_
    refine tr_thenN ?_
    refine tr_seq ?_
    refine tr_region ?_
    refine tr_p (y_assign rfl) rfl rfl ?_
    refine tr_nil ?_
    refine tr_thenN ?_
    refine tr_seq ?_
    refine tr_seq ?_
    refine tr_region ?_
    refine tr_p (y_assign rfl) rfl rfl ?_
    refine tr_nil ?_
    refine tr_thenN ?_
    refine tr_block ?_
    obtain ⟨m48, H⟩ := H
    refine tr_sub [(0, (.int .i64 p0)), (1, p1.enc), (2, p2.enc), (7, (⟨none, 0, 0⟩ : Sl).enc), (8, (.int .i64 0))] ⟨rfl, rfl, rfl, rfl, rfl, trivial⟩ ?_
    refine tr_loop_j (fun m L' h => ∃ (x0 : Int) (x1 : Sl) (x2 : Sl) (x7 : Sl) (x8 : Int), L' = [(0, (.int .i64 x0)), (1, x1.enc), (2, x2.enc), (7, x7.enc), (8, (.int .i64 x8))] ∧ F.spatelaw8_MergeMany.l1 Q m x0 x1 x2 x7 x8 h) ?_ ?_ m48 ⟨_, _, _, _, _, rfl, H⟩
    · rintro L' h ⟨_, _, _, _, _, _, H⟩; exact H
    · rintro q1 L' h ⟨x0, x1, x2, x7, x8, rfl, H⟩
      unfold F.spatelaw8_MergeMany.l1 at H
      refine tr_seq_j (fun L' h => ∃ (x0 : Int) (x1 : Sl) (x2 : Sl) (x7 : Sl) (x8 : Int), L' = [(0, (.int .i64 x0)), (1, x1.enc), (2, x2.enc), (7, x7.enc), (8, (.int .i64 x8))] ∧ F.spatelaw8_MergeMany.j2 Q (F.spatelaw8_MergeMany.l1 Q q1) x0 x1 x2 x7 x8 h) ?_ ?_
      · rintro L' h ⟨x0, x1, x2, x7, x8, rfl, H⟩
        unfold F.spatelaw8_MergeMany.j2 at H
        refine tr_seq_j (fun L' h => ∃ (x0 : Int) (x1 : Sl) (x2 : Sl) (x7 : Sl) (x8 : Int), L' = [(0, (.int .i64 x0)), (1, x1.enc), (2, x2.enc), (7, x7.enc), (8, (.int .i64 x8))] ∧ F.spatelaw8_MergeMany.j3 Q (F.spatelaw8_MergeMany.l1 Q q1) x0 x1 x2 x7 x8 h) ?_ ?_
        · rintro L' h ⟨x0, x1, x2, x7, x8, rfl, H⟩
          unfold F.spatelaw8_MergeMany.j3 at H
          refine tr_region ?_
          refine tr_p (y_move rfl) rfl rfl ?_
          refine tr_p (y_add rfl rfl) rfl rfl ?_
          refine tr_p (y_assign rfl) rfl rfl ?_
          refine tr_nil ?_
          refine tr_thenN ?_
          exact tr_join [(0, (.int .i64 x0)), (1, x1.enc), (2, x2.enc), (7, x7.enc), (8, (.int .i64 (IntKind.wrap .i64 (x8 + 1))))] ⟨rfl, rfl, rfl, rfl, rfl, trivial⟩ ⟨_, _, _, _, _, rfl, H⟩
        · refine tr_block ?_
          refine tr_seq ?_
          refine tr_region ?_
          refine tr_p (y_move rfl) rfl rfl ?_
          refine tr_p (y_move rfl) rfl rfl ?_
          obtain ⟨a4, e5, H⟩ := H
          refine tr_p (f_idx (s := x1) Try.runUnderlying53 Try.sizeOf51 rfl rfl e5) rfl rfl ?_
          obtain ⟨y6, k7, H⟩ := H
          refine tr_h (y_ld Try.isAgg51 rfl) k7 rfl rfl ?_
          refine tr_e (e_call Try.call29 rfl (F.spatelaw8_ordered_ok H)) rfl rfl ?_
          rintro _ h8 ⟨r9, rfl, H⟩
          refine tr_p (y_assign rfl) rfl rfl ?_
          refine tr_nil ?_
          refine tr_thenN ?_
          refine tr_seq_j (fun L' h => ∃ (x0 : Int) (x1 : Sl) (x2 : Sl) (x7 : Sl) (x8 : Int) (x9 : Sl), L' = [(0, (.int .i64 x0)), (1, x1.enc), (2, x2.enc), (7, x7.enc), (8, (.int .i64 x8)), (9, x9.enc)] ∧ F.spatelaw8_MergeMany.j4 Q (F.spatelaw8_MergeMany.l1 Q q1) x0 x1 x2 x7 x8 x9 h) ?_ ?_
          · rintro L' h ⟨x0, x1, x2, x7, x8, x9, rfl, H⟩
            unfold F.spatelaw8_MergeMany.j4 at H
            refine tr_region ?_
            refine tr_p (y_move rfl) rfl rfl ?_
            refine tr_p (y_move rfl) rfl rfl ?_
            refine tr_e (f_buildL (cs := #[x9.enc]) rfl rfl (bl_53_1_0 x9) H) rfl rfl ?_
            rintro _ h10 ⟨s11, rfl, H⟩
            refine tr_e (f_app rfl H) rfl rfl ?_
            rintro _ h12 ⟨s13, rfl, H⟩
            refine tr_p (y_assign rfl) rfl rfl ?_
            refine tr_nil ?_
            refine tr_blockN ?_
            refine tr_thenN ?_
            exact tr_join [(0, (.int .i64 x0)), (1, x1.enc), (2, x2.enc), (7, s13.enc), (8, (.int .i64 x8))] ⟨rfl, rfl, rfl, rfl, rfl, trivial⟩ ⟨_, _, _, _, _, rfl, H⟩
          · refine tr_seq ?_
            refine tr_region ?_
            refine tr_p (y_move rfl) rfl rfl ?_
            refine tr_p (y_len (ts := #[]) Try.runUnderlying51 (o := r9.ptr) (n := r9.len) (cap := r9.cap) rfl) rfl rfl ?_
            refine tr_p (y_gtr rfl rfl) rfl rfl ?_
            refine tr_nil ?_
            refine tr_thenN ?_
            refine tr_cond rfl (fun g14 => ?_) (fun g14 => ?_)
            · replace H := H.1 g14
              refine tr_region ?_
              refine tr_p (y_move rfl) rfl rfl ?_
              obtain ⟨s16, e15, H⟩ := H
              refine tr_p (f_cutL (s := r9) none (some (.i64, 30)) Try.runUnderlying51 Try.sizeOf66 rfl rfl rfl e15) rfl rfl ?_
              refine tr_p (y_assign rfl) rfl rfl ?_
              refine tr_nil ?_
              refine tr_thenN ?_
              exact tr_join [(0, (.int .i64 x0)), (1, x1.enc), (2, x2.enc), (7, x7.enc), (8, (.int .i64 x8)), (9, s16.enc)] ⟨rfl, rfl, rfl, rfl, rfl, rfl, trivial⟩ ⟨_, _, _, _, _, _, rfl, H⟩
            · replace H := H.2 g14
              refine tr_skip ?_
              refine tr_thenN ?_
              exact tr_join [(0, (.int .i64 x0)), (1, x1.enc), (2, x2.enc), (7, x7.enc), (8, (.int .i64 x8)), (9, r9.enc)] ⟨rfl, rfl, rfl, rfl, rfl, rfl, trivial⟩ ⟨_, _, _, _, _, _, rfl, H⟩
      · refine tr_seq_j (fun L' h => ∃ (x0 : Int) (x1 : Sl) (x2 : Sl) (x7 : Sl) (x8 : Int) (x22 : Bool), L' = [(0, (.int .i64 x0)), (1, x1.enc), (2, x2.enc), (7, x7.enc), (8, (.int .i64 x8)), (22, (.bool x22))] ∧ F.spatelaw8_MergeMany.j5 Q (F.spatelaw8_MergeMany.l1 Q q1) x0 x1 x2 x7 x8 x22 h) ?_ ?_
        · rintro L' h ⟨x0, x1, x2, x7, x8, x22, rfl, H⟩
          unfold F.spatelaw8_MergeMany.j5 at H
          refine tr_cond rfl (fun g17 => ?_) (fun g17 => ?_)
          · replace H := H.1 g17
            refine tr_skip ?_
            refine tr_thenN ?_
            exact tr_join [(0, (.int .i64 x0)), (1, x1.enc), (2, x2.enc), (7, x7.enc), (8, (.int .i64 x8))] ⟨rfl, rfl, rfl, rfl, rfl, trivial⟩ ⟨_, _, _, _, _, rfl, H⟩
          · replace H := H.2 g17
            refine tr_exit ?_
            refine tr_thenE ?_
            refine tr_thenE ?_
            refine tr_hit ?_
            refine tr_thenN ?_
            refine tr_seq ?_
            refine tr_region ?_
            refine tr_p (y_assign rfl) rfl rfl ?_
            refine tr_nil ?_
            refine tr_thenN ?_
            refine tr_seq ?_
            refine tr_seq ?_
            refine tr_region ?_
            refine tr_p (y_assign rfl) rfl rfl ?_
            refine tr_nil ?_
            refine tr_thenN ?_
            refine tr_block ?_
            obtain ⟨m46, H⟩ := H
            refine tr_sub [(0, (.int .i64 x0)), (2, x2.enc), (7, x7.enc), (10, (⟨none, 0, 0⟩ : Sl).enc), (11, (.int .i64 0))] ⟨rfl, rfl, rfl, rfl, rfl, trivial⟩ ?_
            refine tr_loop_j (fun m L' h => ∃ (x0 : Int) (x2 : Sl) (x7 : Sl) (x10 : Sl) (x11 : Int), L' = [(0, (.int .i64 x0)), (2, x2.enc), (7, x7.enc), (10, x10.enc), (11, (.int .i64 x11))] ∧ F.spatelaw8_MergeMany.l6 Q m x0 x2 x7 x10 x11 h) ?_ ?_ m46 ⟨_, _, _, _, _, rfl, H⟩
            · rintro L' h ⟨_, _, _, _, _, _, H⟩; exact H
            · rintro q6 L' h ⟨x0, x2, x7, x10, x11, rfl, H⟩
              unfold F.spatelaw8_MergeMany.l6 at H
              refine tr_seq_j (fun L' h => ∃ (x0 : Int) (x2 : Sl) (x7 : Sl) (x10 : Sl) (x11 : Int), L' = [(0, (.int .i64 x0)), (2, x2.enc), (7, x7.enc), (10, x10.enc), (11, (.int .i64 x11))] ∧ F.spatelaw8_MergeMany.j7 Q (F.spatelaw8_MergeMany.l6 Q q6) x0 x2 x7 x10 x11 h) ?_ ?_
              · rintro L' h ⟨x0, x2, x7, x10, x11, rfl, H⟩
                unfold F.spatelaw8_MergeMany.j7 at H
                refine tr_seq_j (fun L' h => ∃ (x0 : Int) (x2 : Sl) (x7 : Sl) (x10 : Sl) (x11 : Int), L' = [(0, (.int .i64 x0)), (2, x2.enc), (7, x7.enc), (10, x10.enc), (11, (.int .i64 x11))] ∧ F.spatelaw8_MergeMany.j8 Q (F.spatelaw8_MergeMany.l6 Q q6) x0 x2 x7 x10 x11 h) ?_ ?_
                · rintro L' h ⟨x0, x2, x7, x10, x11, rfl, H⟩
                  unfold F.spatelaw8_MergeMany.j8 at H
                  refine tr_region ?_
                  refine tr_p (y_move rfl) rfl rfl ?_
                  refine tr_p (y_add rfl rfl) rfl rfl ?_
                  refine tr_p (y_assign rfl) rfl rfl ?_
                  refine tr_nil ?_
                  refine tr_thenN ?_
                  exact tr_join [(0, (.int .i64 x0)), (2, x2.enc), (7, x7.enc), (10, x10.enc), (11, (.int .i64 (IntKind.wrap .i64 (x11 + 1))))] ⟨rfl, rfl, rfl, rfl, rfl, trivial⟩ ⟨_, _, _, _, _, rfl, H⟩
                · refine tr_block ?_
                  refine tr_seq ?_
                  refine tr_region ?_
                  refine tr_p (y_move rfl) rfl rfl ?_
                  refine tr_p (y_move rfl) rfl rfl ?_
                  obtain ⟨a18, e19, H⟩ := H
                  refine tr_p (f_idx (s := x2) Try.runUnderlying25 Try.sizeOf23 rfl rfl e19) rfl rfl ?_
                  obtain ⟨y20, k21, H⟩ := H
                  refine tr_h (y_ld Try.isAgg23 rfl) k21 rfl rfl ?_
                  refine tr_e (e_call Try.call16 rfl (F.spatelaw8_rising_ok H)) rfl rfl ?_
                  rintro _ h22 ⟨r23, rfl, H⟩
                  refine tr_p (y_assign rfl) rfl rfl ?_
                  refine tr_nil ?_
                  refine tr_thenN ?_
                  refine tr_seq_j (fun L' h => ∃ (x0 : Int) (x2 : Sl) (x7 : Sl) (x10 : Sl) (x11 : Int) (x12 : Sl), L' = [(0, (.int .i64 x0)), (2, x2.enc), (7, x7.enc), (10, x10.enc), (11, (.int .i64 x11)), (12, x12.enc)] ∧ F.spatelaw8_MergeMany.j9 Q (F.spatelaw8_MergeMany.l6 Q q6) x0 x2 x7 x10 x11 x12 h) ?_ ?_
                  · rintro L' h ⟨x0, x2, x7, x10, x11, x12, rfl, H⟩
                    unfold F.spatelaw8_MergeMany.j9 at H
                    refine tr_region ?_
                    refine tr_p (y_move rfl) rfl rfl ?_
                    refine tr_p (y_move rfl) rfl rfl ?_
                    refine tr_e (f_buildL (cs := #[x12.enc]) rfl rfl (bl_25_1_0 x12) H) rfl rfl ?_
                    rintro _ h24 ⟨s25, rfl, H⟩
                    refine tr_e (f_app rfl H) rfl rfl ?_
                    rintro _ h26 ⟨s27, rfl, H⟩
                    refine tr_p (y_assign rfl) rfl rfl ?_
                    refine tr_nil ?_
                    refine tr_blockN ?_
                    refine tr_thenN ?_
                    exact tr_join [(0, (.int .i64 x0)), (2, x2.enc), (7, x7.enc), (10, s27.enc), (11, (.int .i64 x11))] ⟨rfl, rfl, rfl, rfl, rfl, trivial⟩ ⟨_, _, _, _, _, rfl, H⟩
                  · refine tr_seq ?_
                    refine tr_region ?_
                    refine tr_p (y_move rfl) rfl rfl ?_
                    refine tr_p (y_len (ts := #[]) Try.runUnderlying23 (o := r23.ptr) (n := r23.len) (cap := r23.cap) rfl) rfl rfl ?_
                    refine tr_p (y_gtr rfl rfl) rfl rfl ?_
                    refine tr_nil ?_
                    refine tr_thenN ?_
                    refine tr_cond rfl (fun g28 => ?_) (fun g28 => ?_)
                    · replace H := H.1 g28
                      refine tr_region ?_
                      refine tr_p (y_move rfl) rfl rfl ?_
                      obtain ⟨s30, e29, H⟩ := H
                      refine tr_p (f_cutL (s := r23) none (some (.i64, 30)) Try.runUnderlying23 Try.sizeOf3 rfl rfl rfl e29) rfl rfl ?_
                      refine tr_p (y_assign rfl) rfl rfl ?_
                      refine tr_nil ?_
                      refine tr_thenN ?_
                      exact tr_join [(0, (.int .i64 x0)), (2, x2.enc), (7, x7.enc), (10, x10.enc), (11, (.int .i64 x11)), (12, s30.enc)] ⟨rfl, rfl, rfl, rfl, rfl, rfl, trivial⟩ ⟨_, _, _, _, _, _, rfl, H⟩
                    · replace H := H.2 g28
                      refine tr_skip ?_
                      refine tr_thenN ?_
                      exact tr_join [(0, (.int .i64 x0)), (2, x2.enc), (7, x7.enc), (10, x10.enc), (11, (.int .i64 x11)), (12, r23.enc)] ⟨rfl, rfl, rfl, rfl, rfl, rfl, trivial⟩ ⟨_, _, _, _, _, _, rfl, H⟩
              · refine tr_seq_j (fun L' h => ∃ (x0 : Int) (x2 : Sl) (x7 : Sl) (x10 : Sl) (x11 : Int) (x46 : Bool), L' = [(0, (.int .i64 x0)), (2, x2.enc), (7, x7.enc), (10, x10.enc), (11, (.int .i64 x11)), (46, (.bool x46))] ∧ F.spatelaw8_MergeMany.j10 Q (F.spatelaw8_MergeMany.l6 Q q6) x0 x2 x7 x10 x11 x46 h) ?_ ?_
                · rintro L' h ⟨x0, x2, x7, x10, x11, x46, rfl, H⟩
                  unfold F.spatelaw8_MergeMany.j10 at H
                  refine tr_cond rfl (fun g31 => ?_) (fun g31 => ?_)
                  · replace H := H.1 g31
                    refine tr_skip ?_
                    refine tr_thenN ?_
                    exact tr_join [(0, (.int .i64 x0)), (2, x2.enc), (7, x7.enc), (10, x10.enc), (11, (.int .i64 x11))] ⟨rfl, rfl, rfl, rfl, rfl, trivial⟩ ⟨_, _, _, _, _, rfl, H⟩
                  · replace H := H.2 g31
                    refine tr_exit ?_
                    refine tr_thenE ?_
                    refine tr_thenE ?_
                    refine tr_hit ?_
                    refine tr_thenN ?_
                    refine tr_seq ?_
                    refine tr_region ?_
                    refine tr_p (y_move rfl) rfl rfl ?_
                    refine tr_p (y_move rfl) rfl rfl ?_
                    refine tr_e (e_call Try.call31 rfl (F.merge_Rows_ok H)) rfl rfl ?_
                    rintro _ h32 ⟨r33, rfl, H⟩
                    refine tr_p (y_move rfl) rfl rfl ?_
                    refine tr_p (y_move rfl) rfl rfl ?_
                    refine tr_e (e_call Try.call33 rfl (F.spateref8_Rows_ok H)) rfl rfl ?_
                    rintro _ h34 ⟨r35, rfl, H⟩
                    refine tr_e (e_call Try.call32 rfl (F.spatelaw2_SameRows_ok H)) rfl rfl ?_
                    rintro _ h36 ⟨r37, rfl, H⟩
                    refine tr_p (y_move rfl) rfl rfl ?_
                    refine tr_split (t := 70) rfl (fun g38 => ?_) (fun g38 => ?_)
                    · replace H := H.1 g38
                      refine tr_p (y_move rfl) rfl rfl ?_
                      refine tr_e (e_call Try.call18 rfl (F.merge_Lists_int_ok H)) rfl rfl ?_
                      rintro _ h39 ⟨r40, rfl, H⟩
                      refine tr_p (y_move rfl) rfl rfl ?_
                      refine tr_e (e_call Try.call17 rfl (F.spateref8_Lists_ok H)) rfl rfl ?_
                      rintro _ h41 ⟨r42, rfl, H⟩
                      refine tr_e (e_call Try.call19 rfl (F.spatelaw8_same_ok H)) rfl rfl ?_
                      rintro _ h43 ⟨r44, rfl, H⟩
                      refine tr_p (y_pick_t rfl rfl) rfl rfl ?_
                      refine tr_p (y_assign rfl) rfl rfl ?_
                      refine tr_nil ?_
                      refine tr_thenN ?_
                      refine tr_ret ?_
                      exact tr_ret1 rfl rfl ⟨_, rfl, H⟩
                    · replace H := H.2 g38
                      refine tr_s rfl rfl ?_
                      refine tr_s rfl rfl ?_
                      refine tr_s rfl rfl ?_
                      refine tr_s rfl rfl ?_
                      refine tr_s rfl rfl ?_
                      refine tr_p (y_pick_f rfl rfl) rfl rfl ?_
                      refine tr_p (y_assign rfl) rfl rfl ?_
                      refine tr_nil ?_
                      refine tr_thenN ?_
                      refine tr_ret ?_
                      exact tr_ret1 rfl rfl ⟨_, rfl, H⟩
                · refine tr_region ?_
                  refine tr_p (y_move rfl) rfl rfl ?_
                  refine tr_p (y_move rfl) rfl rfl ?_
                  refine tr_p (y_len (ts := #[]) Try.runUnderlying25 (o := x2.ptr) (n := x2.len) (cap := x2.cap) rfl) rfl rfl ?_
                  refine tr_p (y_lss rfl rfl) rfl rfl ?_
                  refine tr_p (y_move rfl) rfl rfl ?_
                  refine tr_split (t := 43) rfl (fun g45 => ?_) (fun g45 => ?_)
                  · replace H := H.1 g45
                    refine tr_p (y_move rfl) rfl rfl ?_
                    refine tr_p (y_lss rfl rfl) rfl rfl ?_
                    refine tr_p (y_pick_t rfl rfl) rfl rfl ?_
                    refine tr_nil ?_
                    refine tr_thenN ?_
                    exact tr_join [(0, (.int .i64 x0)), (2, x2.enc), (7, x7.enc), (10, x10.enc), (11, (.int .i64 x11)), (46, (.bool (decide (x11 < 60))))] ⟨rfl, rfl, rfl, rfl, rfl, rfl, trivial⟩ ⟨_, _, _, _, _, _, rfl, H⟩
                  · replace H := H.2 g45
                    refine tr_s rfl rfl ?_
                    refine tr_s rfl rfl ?_
                    refine tr_p (y_pick_f rfl rfl) rfl rfl ?_
                    refine tr_nil ?_
                    refine tr_thenN ?_
                    exact tr_join [(0, (.int .i64 x0)), (2, x2.enc), (7, x7.enc), (10, x10.enc), (11, (.int .i64 x11)), (46, (.bool false))] ⟨rfl, rfl, rfl, rfl, rfl, rfl, trivial⟩ ⟨_, _, _, _, _, _, rfl, H⟩
        · refine tr_region ?_
          refine tr_p (y_move rfl) rfl rfl ?_
          refine tr_p (y_move rfl) rfl rfl ?_
          refine tr_p (y_len (ts := #[]) Try.runUnderlying53 (o := x1.ptr) (n := x1.len) (cap := x1.cap) rfl) rfl rfl ?_
          refine tr_p (y_lss rfl rfl) rfl rfl ?_
          refine tr_p (y_move rfl) rfl rfl ?_
          refine tr_split (t := 19) rfl (fun g47 => ?_) (fun g47 => ?_)
          · replace H := H.1 g47
            refine tr_p (y_move rfl) rfl rfl ?_
            refine tr_p (y_lss rfl rfl) rfl rfl ?_
            refine tr_p (y_pick_t rfl rfl) rfl rfl ?_
            refine tr_nil ?_
            refine tr_thenN ?_
            exact tr_join [(0, (.int .i64 x0)), (1, x1.enc), (2, x2.enc), (7, x7.enc), (8, (.int .i64 x8)), (22, (.bool (decide (x8 < 40))))] ⟨rfl, rfl, rfl, rfl, rfl, rfl, trivial⟩ ⟨_, _, _, _, _, _, rfl, H⟩
          · replace H := H.2 g47
            refine tr_s rfl rfl ?_
            refine tr_s rfl rfl ?_
            refine tr_p (y_pick_f rfl rfl) rfl rfl ?_
            refine tr_nil ?_
            refine tr_thenN ?_
            exact tr_join [(0, (.int .i64 x0)), (1, x1.enc), (2, x2.enc), (7, x7.enc), (8, (.int .i64 x8)), (22, (.bool false))] ⟨rfl, rfl, rfl, rfl, rfl, rfl, trivial⟩ ⟨_, _, _, _, _, _, rfl, H⟩
end Go.Proofs.Ytidpbnbjpglhfaa.V
namespace Go.Proofs.Ytidpbnbjpglhfaa.V
open Go
set_option linter.unusedVariables false
set_option linter.unusedSimpArgs false
abbrev Cel := S_api_Cell
theorem elU : El PP 47 5 1 1 (.int .u8 0) := ⟨Try.underlying47, ⟨Try.t5, by kernel_rfl, by kernel_rfl, by kernel_rfl, by kernel_rfl⟩, rfl, by omega, by omega⟩
theorem cU_one (b : UInt8) : ∀ v ∈ cU b, v.oneCell' = true := one1 rfl
theorem Blk.cells3 {h : H} {n : Nat} {c : Cel} {e : TypeId} (k : Blk h n c.cells.toArray e) : Cells h ⟨n, 0, none⟩ c.cells := fun j v hv => by rw [add_lit, Nat.zero_add]; exact k.cell (by simpa using hv)
def mayC (c : Cel) : Int := if c.View < 0 ∨ c.View > 4 then 23 else if (c.Key.size : Int) > 32 then 21 else if c.Start < -2305843009213693952 ∨ c.Start > 2305843009213693952 then 22 else 0
theorem mayC_spec {h : H} {c : Cel} {Q : Int → H → Prop} (k : ∀ h', Ext h h' → Q (mayC c) h') : F.merge_may c h Q := by
  unfold F.merge_may
  refine new_of fun n h1 e1 e2 e3 e4 => ?_
  have k := k h1 e3
  unfold mayC at k
  simp only [F.merge_may.j1, F.merge_may.j2, add_lit, Nat.zero_add, ldI_iff (e2.cell (i := 0) (v := .int .i64 c.View) rfl), ldS_iff (e2.cell (i := 1) (v := .string c.Key) rfl), ldI_iff (e2.cell (i := 2) (v := .int .i64 c.Start) rfl), decide_eq_true_eq, decide_eq_false_iff_not]
  have hb : ¬ (c.View < 0 ∨ c.View > 4) → ((c.Key.size : Int) > 32 → Q 21 h1) ∧ (¬ (c.Key.size : Int) > 32 → (c.Start < -2305843009213693952 → (True → Q 22 h1) ∧ (true = false → Q 0 h1)) ∧ (¬ c.Start < -2305843009213693952 → (c.Start > 2305843009213693952 → Q 22 h1) ∧ (¬ c.Start > 2305843009213693952 → Q 0 h1))) := fun g => by
    rw [if_neg g] at k
    refine ⟨fun g1 => by rw [if_pos g1] at k; exact k, fun g1 => ?_⟩
    rw [if_neg g1] at k
    refine ⟨fun g2 => ⟨fun _ => by rw [if_pos (.inl g2)] at k; exact k, fun h => by cases h⟩, fun g2 => ⟨fun g3 => by rw [if_pos (.inr g3)] at k; exact k, fun g3 => by rw [if_neg (by omega)] at k; exact k⟩⟩
  refine ⟨fun g => ⟨fun _ => by rw [if_pos (.inl g)] at k; exact k, fun h => by cases h⟩, fun g => ⟨fun g2 => by rw [if_pos (.inr g2)] at k; exact k, fun g2 => hb (by omega)⟩⟩
def escL : List UInt8 → List UInt8
  | [] => []
  | b :: r => if b = 0 then 0 :: 255 :: escL r else b :: escL r
theorem escL_snoc (b : UInt8) : ∀ l, escL (l ++ [b]) = escL l ++ (if b = 0 then [0, 255] else [b])
  | [] => by by_cases h : b = 0 <;> simp [escL, h]
  | x :: r => by simp only [List.cons_append, escL, escL_snoc b r]; split <;> simp
theorem escL_len : ∀ l : List UInt8, (escL l).length ≤ 2 * l.length
  | [] => by simp [escL]
  | b :: r => by have := escL_len r; simp only [escL]; split <;> simp <;> omega
def beT (u : Nat) : Nat → List UInt8
  | 0 => []
  | j + 1 => UInt8.ofNat (u / 2 ^ (8 * j)) :: beT u j
theorem beT_len (u : Nat) : ∀ j, (beT u j).length = j
  | 0 => rfl
  | j + 1 => by simp [beT, beT_len u j]
def upU (n : Int) : Nat := (IntKind.wrap .u64 (IntKind.wrap .u64 n + 9223372036854775808)).toNat
def keyL (c : Cel) : List UInt8 := UInt8.ofNat c.View.toNat :: (escL c.Key.data.toList ++ [0, 1] ++ beT (upU c.Start) 8)
theorem wrap_u64 (n : Int) : IntKind.wrap .u64 n = n % 18446744073709551616 := by
  unfold IntKind.wrap; simp [IntKind.bits, IntKind.signed]
theorem wrap_u8 (n : Int) : IntKind.wrap .u8 n = n % 256 := by
  unfold IntKind.wrap; simp [IntKind.bits, IntKind.signed]
theorem upU_eq (n : Int) : ((upU n : Nat) : Int) = IntKind.wrap .u64 (IntKind.wrap .u64 n + 9223372036854775808) := by
  unfold upU
  rw [Int.toNat_of_nonneg]
  rw [wrap_u64]; omega
theorem fdiv_pow (u i : Nat) : Int.fdiv (u : Int) (2 ^ i : Int) = ((u / 2 ^ i : Nat) : Int) := by
  have e : (2 ^ i : Int) = ((2 ^ i : Nat) : Int) := by simp
  rw [e, Int.ofNat_fdiv]
theorem u8_of (n : Nat) : ((UInt8.ofNat n).toNat : Int) = IntKind.wrap .u8 (n : Int) := by
  rw [wrap_u8]; simp
theorem key_tail {h0 : H} {u : Nat} {Q : ByteArray → Int → H → Prop} {L0 : List UInt8} (hL0 : L0.length ≤ 1000) (k : ∀ h', Ext h0 h' → Q ⟨(L0 ++ beT u 8).toArray⟩ 0 h') :
    ∀ (j m : Nat) (h : H) (s : Sl) (L : List UInt8), j ≤ 8 → j < m → Ext h0 h → Owns h s 5 1 (L.flatMap cU) → Mine h0 s → L ++ beT u j = L0 ++ beT u 8 → F.merge_Key.l2 Q m s (u : Int) (8 * (j : Int) - 8) h
  | j, 0, h, s, L, _, hm, _, _, _, _ => by omega
  | j, m + 1, h, s, L, hj, hm, e0, ow, mi, hL => by
    unfold F.merge_Key.l2
    simp only [decide_eq_true_eq, decide_eq_false_iff_not]
    have hlen : L.length + j = L0.length + 8 := by have := congrArg List.length hL; simpa [beT_len] using this
    refine ⟨fun g => ⟨g, ?_⟩, fun g => ?_⟩
    · obtain ⟨i, rfl⟩ : ∃ i, j = i + 1 := ⟨j - 1, by omega⟩
      have hb : IntKind.wrap .u8 (Int.fdiv (u : Int) (2 ^ (min (8 * ((i + 1 : Nat) : Int) - 8).toNat (IntKind.bits .u64)) : Int)) = ((UInt8.ofNat (u / 2 ^ (8 * i))).toNat : Int) := by
        rw [u8_of, show (8 * ((i + 1 : Nat) : Int) - 8).toNat = 8 * i from by omega, show min (8 * i) (IntKind.bits .u64) = 8 * i from by simp [IntKind.bits]; omega]
        rw [fdiv_pow]
      rw [hb]
      refine push_mine (f := cU) (UInt8.ofNat (u / 2 ^ (8 * i))) e0 mi cU_len (by omega) elU ow cU_one (by omega) fun r h1 q1 q2 q3 q4 q5 => ?_
      rw [w64 (by omega) (by omega), show 8 * ((i + 1 : Nat) : Int) - 8 - 8 = 8 * (i : Int) - 8 from by omega]
      refine key_tail hL0 k i m h1 r _ (by omega) (by omega) q2 q1 q3 ?_
      rw [← hL]; simp [beT]
    · have : j = 0 := by omega
      subst this
      refine cvtT_of (l := L) Try.underlying47 Try.underlying5 Try.underlying9 ow.reads ?_
      have : L = L0 ++ beT u 8 := by simpa [beT] using hL
      rw [this]; exact k h e0
theorem key_loop {h0 : H} {c : Cel} {n : Nat} {Q : ByteArray → Int → H → Prop} {pre : UInt8} (hk : c.Key.size ≤ 32) (k : ∀ h', Ext h0 h' → Q ⟨(pre :: (escL c.Key.data.toList ++ [0, 1] ++ beT (upU c.Start) 8)).toArray⟩ 0 h') (hn : h0.size ≤ n) :
    ∀ (m i : Nat) (h : H) (s : Sl), i ≤ c.Key.size → c.Key.size - i < m → Ext h0 h → Blk h n c.cells.toArray 34 → n < h.size → Owns h s 5 1 ((pre :: escL (c.Key.data.toList.take i)).flatMap cU) → Mine h0 s → s.blk ≠ some n →
    F.merge_Key.l1 Q m ⟨n, 0, none⟩ s (c.Key.size : Int) (i : Int) h
  | 0, i, h, s, _, hm, _, _, _, _, _, _ => by omega
  | m + 1, i, h, s, hi, hm, e0, bl, hnl, ow, mi, hne => by
    unfold F.merge_Key.l1
    simp only [decide_eq_true_eq, decide_eq_false_iff_not, add_lit, Nat.zero_add]
    have hel := escL_len (c.Key.data.toList.take i)
    rw [List.length_take, ← size_data] at hel
    refine ⟨fun g => ?_, fun g => ?_⟩
    · rw [ldS_iff (bl.cell (i := 1) (v := .string c.Key) rfl)]
      obtain ⟨b, hb⟩ : ∃ b, c.Key.data.toList[i]? = some b := ⟨_, List.getElem?_eq_getElem (by rw [← size_data]; omega)⟩
      refine idxS_of hb rfl ?_
      have htk : escL (c.Key.data.toList.take (i + 1)) = escL (c.Key.data.toList.take i) ++ (if b = 0 then [0, 255] else [b]) := by rw [List.take_add_one, hb]; exact escL_snoc b _
      refine push_mine (f := cU) b e0 mi cU_len (by omega) elU ow cU_one (by simp; omega) fun r h1 q1 q2 q3 q4 q5 => ?_
      have bl1 : Blk h1 n c.cells.toArray 34 := q4.block bl hne
      have hg1 := q4.size
      have hne1 : r.blk ≠ some n := by
        rcases q5 with q5 | ⟨x, q5, q6⟩
        · rw [q5]; exact hne
        · rw [q5]; intro e; cases e; omega
      rw [ldS_iff (bl1.cell (i := 1) (v := .string c.Key) rfl)]
      refine idxS_of hb rfl ?_
      have hw : IntKind.wrap .i64 ((i : Int) + 1) = ((i + 1 : Nat) : Int) := by rw [w64 (by omega) (by omega)]; omega
      rw [hw, beq_iff_eq, beq_eq_false_iff_ne]
      have hb0 : (b.toNat : Int) = 0 ↔ b = 0 := by
        constructor
        · intro h; exact UInt8.toNat_inj.1 (by simpa using (by omega : b.toNat = 0))
        · intro h; subst h; rfl
      rw [hb0, Ne, hb0]
      refine ⟨fun g2 => ?_, fun g2 => ?_⟩
      · refine push_mine (f := cU) 255 q2 q3 cU_len (by omega) elU q1 cU_one (by simp; omega) fun r2 h2 p1 p2 p3 p4 p5 => ?_
        have hne2 : r2.blk ≠ some n := by
          rcases p5 with p5 | ⟨x, p5, p6⟩
          · rw [p5]; exact hne1
          · rw [p5]; intro e; cases e; omega
        refine key_loop hk k hn m (i + 1) h2 r2 (by omega) (by omega) p2 (p4.block bl1 hne1) (by have := p4.size; omega) ?_ p3 hne2
        rw [htk, if_pos g2]; subst g2; simpa using p1
      · refine key_loop hk k hn m (i + 1) h1 r (by omega) (by omega) q2 bl1 (by omega) ?_ q3 hne1
        rw [htk, if_neg g2]; simpa using q1
    · have hii : i = c.Key.size := by omega
      subst hii
      refine newL_of fun x h1 e1 e2 e3 e4 => ?_
      refine app_mine (f := cU) (M := [0, 1]) (e0.trans e3) mi cU_len (by omega) elU (ow.ext e3) (blk_reads (show Blk h1 x (([0, 1] : List UInt8).flatMap cU).toArray 5 from e2) rfl) cU_one (by simp; omega) fun r h2 q1 q2 q3 q4 q5 => ?_
      have bl1 : Blk h2 n c.cells.toArray 34 := q4.block (e3.block bl (fun f => f)) hne
      rw [ldI_iff (bl1.cell (i := 2) (v := .int .i64 c.Start) rfl), ← upU_eq]
      refine ⟨9, ?_⟩
      have ht : c.Key.data.toList.take c.Key.size = c.Key.data.toList := List.take_of_length_le (by rw [← size_data]; omega)
      rw [ht] at q1
      have hl2 := escL_len c.Key.data.toList
      rw [← size_data] at hl2
      refine key_tail (L0 := pre :: (escL c.Key.data.toList ++ [0, 1])) (by simp; omega) (by simpa using k) 8 9 h2 r _ (by omega) (by omega) q2 q1 q3 (by simp)
theorem Key_spec {h : H} {c : Cel} {Q : ByteArray → Int → H → Prop} (k0 : mayC c ≠ 0 → ∀ h', Ext h h' → Q ⟨#[]⟩ (mayC c) h') (k1 : mayC c = 0 → ∀ h', Ext h h' → Q ⟨(keyL c).toArray⟩ 0 h') : F.merge_Key c h Q := by
  unfold F.merge_Key
  refine new_of fun n h1 e1 e2 e3 e4 => ?_
  refine ⟨c, e2.cells3, mayC_spec fun h2 f1 => ?_⟩
  have e5 := e3.trans f1
  have bl : Blk h2 n c.cells.toArray 34 := f1.block e2 (fun f => f)
  refine ⟨fun g => k0 (by simpa using g) h2 e5, fun g => ?_⟩
  have hm : mayC c = 0 := by simpa using g
  simp only [add_lit, Nat.zero_add]
  rw [ldI_iff (bl.cell (i := 0) (v := .int .i64 c.View) rfl)]
  have hv : 0 ≤ c.View ∧ c.View ≤ 4 ∧ c.Key.size ≤ 32 := by
    unfold mayC at hm
    split at hm
    · omega
    · split at hm
      · omega
      · omega
  have hw : IntKind.wrap .u8 c.View = ((UInt8.ofNat c.View.toNat).toNat : Int) := by rw [u8_of, Int.toNat_of_nonneg hv.1]
  rw [hw]
  refine newL_of fun x h3 g1 g2 g3 g4 => ?_
  have bl3 : Blk h3 n c.cells.toArray 34 := g3.block bl (fun f => f)
  rw [ldS_iff (bl3.cell (i := 1) (v := .string c.Key) rfl)]
  have hs := e5.size
  have hs3 := e3.size
  have hf1 := f1.size
  refine ⟨c.Key.size + 1, ?_⟩
  refine key_loop (h0 := h) (pre := UInt8.ofNat c.View.toNat) hv.2.2 (fun h' e => k1 hm h' e) (by omega) _ 0 h3 _ (by omega) (by omega) (e5.trans g3) bl3 (by omega) (show Owns h3 ⟨some ⟨x, 0, none⟩, 1, 1⟩ 5 1 [.int .u8 ((UInt8.ofNat c.View.toNat).toNat : Int)] from blk_owns (m := 1) g2 rfl (by simp [maxLen])) (fun b hb => by simp [Sl.blk] at hb; omega) (by simp [Sl.blk]; omega)
end Go.Proofs.Ytidpbnbjpglhfaa.V
namespace Go.Proofs.Ytidpbnbjpglhfaa.V
open Go
set_option linter.unusedVariables false
set_option linter.unusedSimpArgs false
/-- The key's letters, and what lies behind them; or the error. -/
def unesc : List UInt8 → Except Int (List UInt8 × List UInt8)
  | [] => .error 11
  | b :: r => if b ≠ 0 then (match unesc r with | .ok p => .ok (b :: p.1, p.2) | .error e => .error e) else
    match r with
    | [] => .error 11
    | x :: r' => if x = 1 then .ok ([], r') else if x ≠ 255 then .error 12 else (match unesc r' with | .ok p => .ok (0 :: p.1, p.2) | .error e => .error e)
def beV : Nat → List UInt8 → Nat
  | u, [] => u
  | u, b :: r => beV (u * 256 + b.toNat) r
def zeroC : Cel := ⟨0, ⟨#[]⟩, 0⟩
def startOf (u : Nat) : Int := IntKind.wrap .i64 (IntKind.wrap .u64 ((u : Int) - 9223372036854775808))
def finC (v : UInt8) (key t : List UInt8) : Cel × Int :=
  if t.length < 8 then (zeroC, 11) else if t.length > 8 then (zeroC, 13) else
  if mayC ⟨(v.toNat : Int), ⟨key.toArray⟩, startOf (beV 0 t)⟩ ≠ 0 then (zeroC, mayC ⟨(v.toNat : Int), ⟨key.toArray⟩, startOf (beV 0 t)⟩) else (⟨(v.toNat : Int), ⟨key.toArray⟩, startOf (beV 0 t)⟩, 0)
def cellM : List UInt8 → Cel × Int
  | [] => (zeroC, 11)
  | v :: r => match unesc r with
    | .error e => (zeroC, e)
    | .ok p => finC v p.1 p.2
theorem unesc_ne {b : UInt8} {r : List UInt8} (h : b ≠ 0) : unesc (b :: r) = (match unesc r with | .ok p => .ok (b :: p.1, p.2) | .error e => .error e) := by
  rw [unesc.eq_def]; simp only [if_pos h]
theorem cellM_cons (v : UInt8) (r : List UInt8) : cellM (v :: r) = (match unesc r with | .error e => (zeroC, e) | .ok p => finC v p.1 p.2) := rfl
theorem or_byte {u : Nat} {b : UInt8} (hu : u < 72057594037927936) : bitsOf .or .u64 (IntKind.wrap .u64 ((u : Int) * (2 ^ (min (8 : Int).toNat (IntKind.bits .u64)) : Int))) (IntKind.wrap .u64 (b.toNat : Int)) = ((u * 256 + b.toNat : Nat) : Int) := by
  have hb : b.toNat < 256 := b.toNat_lt
  have e1 : IntKind.wrap .u64 ((u : Int) * (2 ^ (min (8 : Int).toNat (IntKind.bits .u64)) : Int)) = ((u * 256 : Nat) : Int) := by
    rw [show (2 ^ (min (8 : Int).toNat (IntKind.bits .u64)) : Int) = 256 from by simp [IntKind.bits], wrap_u64]; omega
  have e2 : IntKind.wrap .u64 (b.toNat : Int) = ((b.toNat : Nat) : Int) := by rw [wrap_u64]; omega
  rw [e1, e2]
  simp only [bitsOf]
  rw [BitVec.ofInt_natCast, BitVec.ofInt_natCast, BitVec.toNat_or, BitVec.toNat_ofNat, BitVec.toNat_ofNat, wrap_u64]
  have e3 : u * 256 % 2 ^ (IntKind.bits .u64) = u * 256 := Nat.mod_eq_of_lt (by simp [IntKind.bits]; omega)
  have e4 : b.toNat % 2 ^ (IntKind.bits .u64) = b.toNat := Nat.mod_eq_of_lt (by simp [IntKind.bits]; omega)
  rw [e3, e4]
  have e5 : u * 256 ||| b.toNat = u * 256 + b.toNat := by
    have := Nat.two_pow_add_eq_or_of_lt (i := 8) hb u
    rw [show (2 : Nat) ^ 8 * u = u * 256 from by omega] at this
    exact this.symm
  rw [e5]; omega
theorem st_cell {h : H} {n : Nat} {c d : Cel} {K : H → Prop} (b : Blk h n c.cells.toArray 34) (k : ∀ h', Blk h' n d.cells.toArray 34 → Only (· = n) h h' → h'.size = h.size → K h') : stH h ⟨n, 0, none⟩ d.cells K :=
  stH_of b (by simp [S_api_Cell.cells]) fun h' q1 q2 q3 => k h' (by rw [writeA_all (by simp [S_api_Cell.cells])] at q1; exact q1) q2 q3
theorem st_key {h : H} {n : Nat} {c : Cel} {s : ByteArray} {K : H → Prop} (b : Blk h n c.cells.toArray 34) (k : ∀ h', Blk h' n (⟨c.View, s, c.Start⟩ : Cel).cells.toArray 34 → Only (· = n) h h' → h'.size = h.size → K h') : stH h ⟨n, 1, none⟩ [.string s] K :=
  stH_of b (by simp [S_api_Cell.cells]) fun h' q1 q2 q3 => k h' (by
    have : writeA (S_api_Cell.cells c).toArray 1 [.string s] = (⟨c.View, s, c.Start⟩ : Cel).cells.toArray := by simp [writeA, S_api_Cell.cells]
    rw [this] at q1; exact q1) q2 q3
theorem st_start {h : H} {n : Nat} {c : Cel} {u : Int} {K : H → Prop} (b : Blk h n c.cells.toArray 34) (k : ∀ h', Blk h' n (⟨c.View, c.Key, u⟩ : Cel).cells.toArray 34 → Only (· = n) h h' → h'.size = h.size → K h') : stH h ⟨n, 2, none⟩ [.int .i64 u] K :=
  stH_of b (by simp [S_api_Cell.cells]) fun h' q1 q2 q3 => k h' (by
    have : writeA (S_api_Cell.cells c).toArray 2 [.int .i64 u] = (⟨c.View, c.Key, u⟩ : Cel).cells.toArray := by simp [writeA, S_api_Cell.cells]
    rw [this] at q1; exact q1) q2 q3
/-- An error is told. -/
theorem told_err {h0 h : H} {n : Nat} {c : Cel} {e : Int} {Q : Cel → Int → H → Prop} (k : ∀ h', Ext h0 h' → Q zeroC e h') (e0 : Ext h0 h) (hn : h0.size ≤ n) (b : Blk h n c.cells.toArray 34) :
    stH h ⟨n, 0, none⟩ ((⟨0, (⟨#[]⟩ : ByteArray), 0⟩ : S_api_Cell).cells) fun h13 => ld_S_api_Cell h13 ⟨n, 0, none⟩ fun y14 => Q y14 e h13 :=
  st_cell b fun h' q1 q2 q3 => ⟨zeroC, q1.cells3, k h' (e0.step q2 fun m hm e => by omega)⟩
theorem cell_tail {h0 : H} {str : ByteArray} {n2 n4 : Nat} {Q : Cel → Int → H → Prop} {v : UInt8} {key : List UInt8} (hs : str.size < 1000000000000000000) (hn2 : h0.size ≤ n2) (hn4 : h0.size ≤ n4) (hne : n2 ≠ n4) {U : Nat}
    (k : ∀ h', Ext h0 h' → Q (if mayC ⟨(v.toNat : Int), ⟨key.toArray⟩, startOf U⟩ ≠ 0 then (zeroC, mayC ⟨(v.toNat : Int), ⟨key.toArray⟩, startOf U⟩) else (⟨(v.toNat : Int), ⟨key.toArray⟩, startOf U⟩, 0)).1 (if mayC ⟨(v.toNat : Int), ⟨key.toArray⟩, startOf U⟩ ≠ 0 then (zeroC, mayC ⟨(v.toNat : Int), ⟨key.toArray⟩, startOf U⟩) else ((⟨(v.toNat : Int), ⟨key.toArray⟩, startOf U⟩ : Cel), 0)).2 h') :
    ∀ (m i u : Nat) (h : H) (s : Sl) (c2 : Cel), Ext h0 h → i ≤ str.size → str.size ≤ i + 8 → u < 256 ^ (i + 8 - str.size) → beV u (str.data.toList.drop i) = U → str.size - i < m → Blk h n2 c2.cells.toArray 34 → Blk h n4 (⟨(v.toNat : Int), ⟨#[]⟩, 0⟩ : Cel).cells.toArray 34 → Reads h s 1 (key.flatMap cU) →
    F.merge_Cell.l2 Q m str ⟨n2, 0, none⟩ ⟨n4, 0, none⟩ (i : Int) s (u : Int) h
  | 0, i, u, h, s, c2, _, _, _, _, _, hm, _, _, _ => by omega
  | m + 1, i, u, h, s, c2, e0, hi, hi8, hu, hU, hm, b2, b4, rd => by
    unfold F.merge_Cell.l2
    simp only [decide_eq_true_eq, decide_eq_false_iff_not]
    refine ⟨fun g => ⟨by omega, ?_⟩, fun g => ?_⟩
    · obtain ⟨b, hb⟩ : ∃ b, str.data.toList[i]? = some b := ⟨_, List.getElem?_eq_getElem (by rw [← size_data]; omega)⟩
      refine idxS_of hb rfl ?_
      have hd : str.data.toList.drop i = b :: str.data.toList.drop (i + 1) := by
        obtain ⟨hh, rfl⟩ := List.getElem?_eq_some_iff.1 hb
        exact List.drop_eq_getElem_cons hh
      rw [hd, beV] at hU
      have hp : 256 ^ (i + 8 - str.size) ≤ 256 ^ 7 := Nat.pow_le_pow_right (by omega) (by omega)
      rw [or_byte (by have : (256 : Nat) ^ 7 = 72057594037927936 := by decide
                      omega), show IntKind.wrap .i64 ((i : Int) + 1) = ((i + 1 : Nat) : Int) from by rw [w64 (by omega) (by omega)]; omega]
      have hbl := b.toNat_lt
      refine cell_tail hs hn2 hn4 hne k m (i + 1) _ h s c2 e0 (by omega) (by omega) ?_ hU (by omega) b2 b4 rd
      rw [show i + 1 + 8 - str.size = (i + 8 - str.size) + 1 from by omega, Nat.pow_succ]
      have : (u + 1) * 256 ≤ 256 ^ (i + 8 - str.size) * 256 := Nat.mul_le_mul_right _ hu
      omega
    · have hii : i = str.size := by omega
      subst hii
      have hd : str.data.toList.drop str.size = [] := List.drop_eq_nil_of_le (by rw [← size_data]; omega)
      rw [hd, beV] at hU
      subst hU
      refine cvtT_of (l := key) Try.underlying47 Try.underlying5 Try.underlying9 rd ?_
      simp only [add_lit, Nat.zero_add]
      refine st_key b4 fun h1 p1 p2 p3 => st_start p1 fun h2 p4 p5 p6 => ?_
      have e2 : Ext h0 h2 := (e0.step p2 fun m hm e => by omega).step p5 fun m hm e => by omega
      have b22 : Blk h2 n2 c2.cells.toArray 34 := p5.block (p2.block b2 hne) hne
      refine ⟨_, p4.cells3, mayC_spec fun h3 f1 => ?_⟩
      have b23 : Blk h3 n2 c2.cells.toArray 34 := f1.block b22 (fun f => f)
      have e3 := e2.trans f1
      refine ⟨fun g2 => ?_, fun g2 => ?_⟩
      · have g2 : mayC ⟨(v.toNat : Int), ⟨key.toArray⟩, startOf u⟩ ≠ 0 := by simpa [startOf] using g2
        simp only [if_pos g2] at k
        exact told_err k e3 hn2 b23
      · have g2 : ¬ mayC ⟨(v.toNat : Int), ⟨key.toArray⟩, startOf u⟩ ≠ 0 := by simpa [startOf] using g2
        simp only [if_neg g2] at k
        refine ⟨_, Blk.cells3 (c := ⟨(v.toNat : Int), ⟨key.toArray⟩, startOf u⟩) (f1.block p4 (fun f => f)), ?_⟩
        exact st_cell b23 fun h4 q1 q2 q3 => ⟨_, q1.cells3, k h4 (e3.step q2 fun m hm e => by omega)⟩
theorem cell_loop {h0 : H} {str : ByteArray} {n2 n4 : Nat} {Q : Cel → Int → H → Prop} {v : UInt8} (hs : str.size < 140737488355328) (hn2 : h0.size ≤ n2) (hn4 : h0.size ≤ n4) (hne : n2 ≠ n4) :
    ∀ (m i : Nat) (h : H) (s : Sl) (acc : List UInt8), (∀ h', Ext h0 h' → Q (match unesc (str.data.toList.drop i) with | .error e => (zeroC, e) | .ok p => finC v (acc ++ p.1) p.2).1 (match unesc (str.data.toList.drop i) with | .error e => (zeroC, e) | .ok p => finC v (acc ++ p.1) p.2).2 h') →
    Ext h0 h → i ≤ str.size → acc.length ≤ i → str.size - i < m → Blk h n2 zeroC.cells.toArray 34 → Blk h n4 (⟨(v.toNat : Int), ⟨#[]⟩, 0⟩ : Cel).cells.toArray 34 → Owns h s 5 1 (acc.flatMap cU) → Mine h0 s → s.blk ≠ some n2 → s.blk ≠ some n4 → n2 < h.size → n4 < h.size →
    F.merge_Cell.l1 Q m str ⟨n2, 0, none⟩ ⟨n4, 0, none⟩ (i : Int) s h
  | 0, i, h, s, acc, _, _, _, _, hm, _, _, _, _, _, _, _, _ => by omega
  | m + 1, i, h, s, acc, k, e0, hi, hacc, hm, b2, b4, ow, mi, hne2, hne4, hl2, hl4 => by
    unfold F.merge_Cell.l1
    rw [beq_iff_eq, beq_eq_false_iff_ne]
    refine ⟨fun g => ?_, fun g => ?_⟩
    · have hd : str.data.toList.drop i = [] := List.drop_eq_nil_of_le (by rw [← size_data]; omega)
      rw [hd] at k
      exact told_err k e0 hn2 b2
    · obtain ⟨b, hb⟩ : ∃ b, str.data.toList[i]? = some b := ⟨_, List.getElem?_eq_getElem (by rw [← size_data]; omega)⟩
      have hd : str.data.toList.drop i = b :: str.data.toList.drop (i + 1) := by
        obtain ⟨hh, rfl⟩ := List.getElem?_eq_some_iff.1 hb
        exact List.drop_eq_getElem_cons hh
      have hb0 : (b.toNat : Int) = 0 ↔ b = 0 := by
        constructor
        · intro h; exact UInt8.toNat_inj.1 (by simpa using (by omega : b.toNat = 0))
        · intro h; subst h; rfl
      rw [hd] at k
      refine idxS_of hb rfl ?_
      rw [bne_iff_ne, bne_eq_false_iff_eq, Ne, hb0]
      refine ⟨fun g1 => idxS_of hb rfl ?_, fun g1 => ?_⟩
      · refine push_mine (f := cU) b e0 mi cU_len (by omega) elU ow cU_one (by omega) fun r h1 q1 q2 q3 q4 q5 => ?_
        have hrr : ∀ x, x < h.size → s.blk ≠ some x → r.blk ≠ some x := fun x hx hsx => by
          rcases q5 with q5 | ⟨y, q5, q6⟩
          · rw [q5]; exact hsx
          · rw [q5]; intro e; cases e; omega
        rw [show IntKind.wrap .i64 ((i : Int) + 1) = ((i + 1 : Nat) : Int) from by rw [w64 (by omega) (by omega)]; omega]
        refine cell_loop hs hn2 hn4 hne m (i + 1) h1 r (acc ++ [b]) (fun h' e => ?_) q2 (by omega) (by simp; omega) (by omega) (q4.block b2 hne2) (q4.block b4 hne4) q1 q3 (hrr n2 hl2 hne2) (hrr n4 hl4 hne4) (by have := q4.size; omega) (by have := q4.size; omega)
        have k := k h' e
        rw [unesc_ne g1] at k
        cases hu : unesc (str.data.toList.drop (i + 1)) with
        | error x => rw [hu] at k; exact k
        | ok p => rw [hu] at k; simpa using k
      · have g1 : b = 0 := Classical.not_not.1 (by simpa using g1)
        subst g1
        rw [w64 (n := (i : Int) + 1) (by omega) (by omega), w64 (n := (i : Int) + 2) (by omega) (by omega), beq_iff_eq, beq_eq_false_iff_ne]
        refine ⟨fun g2 => ?_, fun g2 => ?_⟩
        · have hd1 : str.data.toList.drop (i + 1) = [] := List.drop_eq_nil_of_le (by rw [← size_data]; omega)
          rw [hd1] at k
          exact told_err k e0 hn2 b2
        · obtain ⟨x, hx⟩ : ∃ b, str.data.toList[i + 1]? = some b := ⟨_, List.getElem?_eq_getElem (by rw [← size_data]; omega)⟩
          have hd1 : str.data.toList.drop (i + 1) = x :: str.data.toList.drop (i + 2) := by
            obtain ⟨hh, rfl⟩ := List.getElem?_eq_some_iff.1 hx
            exact List.drop_eq_getElem_cons hh
          have hx1 : (x.toNat : Int) = 1 ↔ x = 1 := by
            constructor
            · intro h; exact UInt8.toNat_inj.1 (by simpa using (by omega : x.toNat = 1))
            · intro h; subst h; rfl
          have hx2 : (x.toNat : Int) = 255 ↔ x = 255 := by
            constructor
            · intro h; exact UInt8.toNat_inj.1 (by simpa using (by omega : x.toNat = 255))
            · intro h; subst h; rfl
          rw [hd1] at k
          have hun : unesc (0 :: x :: str.data.toList.drop (i + 2)) = if x = 1 then .ok ([], str.data.toList.drop (i + 2)) else if x ≠ 255 then .error 12 else (match unesc (str.data.toList.drop (i + 2)) with | .ok p => .ok (0 :: p.1, p.2) | .error e => .error e) := by
            rw [unesc]; simp
          rw [hun] at k
          have hlen : (str.data.toList.drop (i + 2)).length = str.size - (i + 2) := by rw [List.length_drop, ← size_data]
          refine idxS_of hx (by rw [w64 (by omega) (by omega)]; omega) ?_
          rw [beq_iff_eq, beq_eq_false_iff_ne, Ne, hx1]
          refine ⟨fun g3 => ?_, fun g3 => ?_⟩
          · rw [if_pos g3] at k
            simp only [List.append_nil] at k
            unfold finC at k
            rw [hlen] at k
            rw [w64 (by omega) (by omega)]
            simp only [decide_eq_true_eq, decide_eq_false_iff_not]
            refine ⟨fun g4 => ?_, fun g4 => ⟨fun g5 => ?_, fun g5 => ⟨str.size + 1, ?_⟩⟩⟩
            · rw [if_pos (by omega)] at k; exact told_err k e0 hn2 b2
            · rw [if_neg (by omega), if_pos (by omega)] at k; exact told_err k e0 hn2 b2
            · rw [if_neg (by omega), if_neg (by omega)] at k
              rw [show (i : Int) + 2 = ((i + 2 : Nat) : Int) from by omega]
              exact cell_tail (by omega) hn2 hn4 hne k (str.size + 1) (i + 2) 0 h s zeroC e0 (by omega) (by omega) (Nat.pos_of_ne_zero (by exact Nat.pos_iff_ne_zero.1 (Nat.pow_pos (by omega)))) rfl (by omega) b2 b4 ow.reads
          · rw [if_neg g3] at k
            refine idxS_of hx (by rw [w64 (by omega) (by omega)]; omega) ?_
            rw [bne_iff_ne, bne_eq_false_iff_eq, Ne, hx2]
            refine ⟨fun g4 => ?_, fun g4 => ?_⟩
            · rw [if_pos g4] at k; exact told_err k e0 hn2 b2
            · have g4 : x = 255 := Classical.not_not.1 (by simpa using g4)
              rw [if_neg (by simpa using g4)] at k
              refine push_mine (f := cU) 0 e0 mi cU_len (by omega) elU ow cU_one (by omega) fun r h1 q1 q2 q3 q4 q5 => ?_
              have hrr : ∀ x, x < h.size → s.blk ≠ some x → r.blk ≠ some x := fun x hx hsx => by
                rcases q5 with q5 | ⟨y, q5, q6⟩
                · rw [q5]; exact hsx
                · rw [q5]; intro e; cases e; omega
              rw [show (i : Int) + 2 = ((i + 2 : Nat) : Int) from by omega]
              refine cell_loop hs hn2 hn4 hne m (i + 2) h1 r (acc ++ [0]) (fun h' e => ?_) q2 (by omega) (by simp; omega) (by omega) (q4.block b2 hne2) (q4.block b4 hne4) q1 q3 (hrr n2 hl2 hne2) (hrr n4 hl4 hne4) (by have := q4.size; omega) (by have := q4.size; omega)
              have k := k h' e
              cases hu : unesc (str.data.toList.drop (i + 2)) with
              | error x => rw [hu] at k; exact k
              | ok p => rw [hu] at k; simpa using k
theorem Cell_spec {h : H} {str : ByteArray} {Q : Cel → Int → H → Prop} (hs : str.size < 140737488355328) (k : ∀ h', Ext h h' → Q (cellM str.data.toList).1 (cellM str.data.toList).2 h') : F.merge_Cell str h Q := by
  unfold F.merge_Cell
  refine new_of fun n h1 e1 e2 e3 e4 => ?_
  have hs1 := e3.size
  rw [beq_iff_eq, beq_eq_false_iff_ne, toList_data, toList_data]
  refine ⟨fun g => ?_, fun g => ?_⟩
  · have g : str.data.toList = [] := g
    rw [g] at k
    exact told_err k e3 (by omega) (c := zeroC) e2
  · obtain ⟨v, r, hv⟩ : ∃ v r, str.data.toList = v :: r := by
      cases hh : str.data.toList with
      | nil => exact absurd hh g
      | cons v r => exact ⟨v, r, rfl⟩
    have hsz : 0 < str.size := by rw [size_data, hv]; simp
    refine idxS_of (i := 0) (b := v) (by rw [hv]; rfl) rfl ?_
    refine new_of fun n4 h2 f1 f2 f3 f4 => ?_
    have hs2 := f3.size
    refine st_cell (c := zeroC) (d := ⟨IntKind.wrap .i64 (v.toNat : Int), ⟨#[]⟩, 0⟩) f2 fun h3 q1 q2 q3 => ?_
    have hbl := v.toNat_lt
    rw [w64 (by omega) (by omega)] at q1
    refine ⟨str.size + 1, ?_⟩
    refine cell_loop (v := v) hs (n2 := n) (n4 := n4) (h0 := h) (by omega) (by omega) (by omega) _ 1 h3 _ [] (fun h' e => ?_) ((e3.trans f3).step q2 fun m hm e => by omega) (by omega) (by simp) (by omega) (q2.block (f3.block e2 (fun f => f)) (by omega)) q1 (Owns.nil _ _ _) (Mine.nil _ _ _) (by simp [Sl.blk]) (by simp [Sl.blk]) (by omega) (by omega)
    have k := k h' e
    rw [hv, cellM_cons] at k
    rw [show str.data.toList.drop 1 = r from by rw [hv]; rfl]
    cases hu : unesc r with
    | error x => rw [hu] at k; exact k
    | ok p => rw [hu] at k; simpa using k
end Go.Proofs.Ytidpbnbjpglhfaa.V
namespace Go.Proofs.Ytidpbnbjpglhfaa.V
open Go
set_option linter.unusedVariables false
set_option linter.unusedSimpArgs false
section
variable {α : Type} [DecidableEq α]
def addM (out : List α) (x : α) : List α := if out.getLast? = some x then out else out ++ [x]
def twoM (le : α → α → Bool) : Nat → List α → List α → List α → List α
  | 0, out, _, _ => out
  | n + 1, out, [], [] => out
  | n + 1, out, x :: a, [] => twoM le n (addM out x) a []
  | n + 1, out, [], y :: b => twoM le n (addM out y) [] b
  | n + 1, out, x :: a, y :: b => if le x y then twoM le n (addM out x) a (y :: b) else twoM le n (addM out y) (x :: a) b
def listsM (le : α → α → Bool) : Nat → List (List α) → List α
  | 0, _ => []
  | n + 1, [] => []
  | n + 1, [a] => twoM le a.length [] a []
  | n + 1, a :: b :: r => let l := listsM le n ((a :: b :: r).take ((a :: b :: r).length / 2)); let k := listsM le n ((a :: b :: r).drop ((a :: b :: r).length / 2)); twoM le (l.length + k.length) [] l k
theorem listsM_fuel (le : α → α → Bool) : ∀ (n m : Nat) (LL : List (List α)), LL.length < n → LL.length < m → listsM le n LL = listsM le m LL
  | 0, m, LL, hn, _ => by omega
  | n, 0, LL, _, hm => by omega
  | n + 1, m + 1, [], _, _ => rfl
  | n + 1, m + 1, [a], _, _ => rfl
  | n + 1, m + 1, a :: b :: r, hn, hm => by
    simp only [List.length_cons] at hn hm
    have h1 := listsM_fuel le n m ((a :: b :: r).take ((a :: b :: r).length / 2)) (by simp; omega) (by simp; omega)
    have h2 := listsM_fuel le n m ((a :: b :: r).drop ((a :: b :: r).length / 2)) (by simp; omega) (by simp; omega)
    simp only [listsM, h1, h2]
theorem addM_len (out : List α) (x : α) : (addM out x).length ≤ out.length + 1 := by unfold addM; split <;> simp
theorem twoM_len (le : α → α → Bool) : ∀ (n : Nat) (out a b : List α), (twoM le n out a b).length ≤ out.length + n
  | 0, out, _, _ => by simp [twoM]
  | n + 1, out, [], [] => by simp [twoM]
  | n + 1, out, x :: a, [] => by have := twoM_len le n (addM out x) a []; have := addM_len out x; simp only [twoM]; omega
  | n + 1, out, [], y :: b => by have := twoM_len le n (addM out y) [] b; have := addM_len out y; simp only [twoM]; omega
  | n + 1, out, x :: a, y :: b => by
    have := twoM_len le n (addM out x) a (y :: b); have := addM_len out x
    have := twoM_len le n (addM out y) (x :: a) b; have := addM_len out y
    simp only [twoM]; split <;> omega
end
abbrev cS (s : Sl) : List Value := [s.enc]
theorem cS_len (s : Sl) : (cS s).length = 1 := rfl
abbrev leI (x y : Int) : Bool := decide (x ≤ y)
theorem elI : El PP 23 3 1 8 (.int .i64 0) := ⟨Try.underlying23, ⟨Try.t3, by kernel_rfl, by kernel_rfl, by kernel_rfl, by kernel_rfl⟩, rfl, by omega, by omega⟩
theorem drop1 {β : Type} (x : β) (r : List β) : ((x :: r).drop 1).take ((x :: r).length - 1) = r := by simp
/-- A slice that reads asL a list, and is asL long asL it may be cut. -/
def Lst {α : Type} (h : H) (s : Sl) (f : α → List Value) (A : List α) : Prop := Reads h s 1 (A.flatMap f) ∧ s.len ≤ s.cap
theorem Lst.ext {α : Type} {h h' : H} {s : Sl} {f : α → List Value} {A : List α} (l : Lst h s f A) (e : Ext h h') : Lst h' s f A := ⟨l.1.ext e, l.2⟩
theorem Lst.only {α : Type} {S : Nat → Prop} {h h' : H} {s : Sl} {f : α → List Value} {A : List α} (l : Lst h s f A) (e : Only S h h') (hn : ∀ b, s.blk = some b → ¬ S b) : Lst h' s f A := ⟨l.1.only e hn, l.2⟩
theorem Lst.len {α : Type} {h : H} {s : Sl} {f : α → List Value} {A : List α} (hf : ∀ x, (f x).length = 1) (l : Lst h s f A) : s.len = A.length := rd_len hf (by omega) l.1
/-- The first thing of a list, and the list behind it. -/
theorem Lst.head {α : Type} {h : H} {s : Sl} {f : α → List Value} {x : α} {r : List α} {K : Addr → Prop} (hf : ∀ x, (f x).length = 1) (l : Lst h s f (x :: r)) (k : ∀ a, Cells h a (f x) → K a) : idxA s 0 1 K := by
  obtain ⟨p, q1, q2, q3⟩ := rd_at hf (by omega) l.1 (i := 0) (x := x) rfl
  refine idxR_of (i := 0) q1 (by rw [l.len hf]; simp) rfl (k _ ?_)
  simpa using q3
theorem Lst.tail {α : Type} {h : H} {s : Sl} {f : α → List Value} {x : α} {r : List α} {K : Sl → Prop} (hf : ∀ x, (f x).length = 1) (l : Lst h s f (x :: r)) (k : ∀ t, Lst h t f r → t.blk = s.blk → K t) : cutL s 1 (s.len : Int) 1 K := by
  have hl := l.len hf
  have hl' : s.len = r.length + 1 := by simpa using hl
  refine cutL_of (lo := 1) (hi := s.len) rfl rfl (by omega) l.2 (k _ ⟨?_, ?_⟩ slcut_blk)
  · have := cut_reads hf (by omega) l.1 (lo := 1) (hi := s.len) (by omega) (by omega) l.2
    rw [hl, drop1] at this
    rw [hl]; exact this
  · have := l.2; simp only [slcut]; omega
theorem Lst.get {α : Type} {h : H} {s : Sl} {f : α → List Value} {A : List α} {i : Nat} {x : α} {n : Int} {K : Addr → Prop} (hf : ∀ x, (f x).length = 1) (l : Lst h s f A) (hx : A[i]? = some x) (hn : n = (i : Int)) (k : ∀ a, Cells h a (f x) → K a) : idxA s n 1 K := by
  obtain ⟨p, q1, q2, q3⟩ := rd_at hf (by omega) l.1 hx
  have := (List.getElem?_eq_some_iff.1 hx).1
  exact idxR_of (i := i) q1 (by rw [l.len hf]; omega) hn (k _ q3)
theorem Owns.lst {α : Type} {h : H} {s : Sl} {e : TypeId} {f : α → List Value} {A : List α} (o : Owns h s e 1 (A.flatMap f)) : Lst h s f A := ⟨o.reads, o.le_cap⟩
theorem two_int_loop {h0 : H} {Q : Sl → H → Prop} : ∀ (n m : Nat) (h : H) (s t u : Sl) (A B out : List Int), (∀ r h', Owns h' r 3 1 ((twoM leI n out A B).flatMap cI) → Ext h0 h' → Mine h0 r → Q r h') →
    Ext h0 h → Lst h s cI A → Lst h t cI B → Owns h u 3 1 (out.flatMap cI) → Mine h0 u → (∀ b, s.blk = some b → b < h0.size) → (∀ b, t.blk = some b → b < h0.size) → A.length + B.length ≤ n → out.length + n < 1000000000000 → n < m →
    F.merge_two_int.l1 Q m s t u h
  | n, 0, h, s, t, u, A, B, out, _, _, _, _, _, _, _, _, _, _, hm => by omega
  | n, m + 1, h, s, t, u, A, B, out, k, e0, ls, lt, ou, mu, hs, ht, hn, ho, hm => by
    have hsl := ls.len cI_len
    have htl := lt.len cI_len
    have hul := own_len cI_len (by omega) ou
    -- one thing is laid
    have hadd : ∀ (n' : Nat) (x : Int) (s' t' : Sl) (A' B' : List Int), n = n' + 1 → twoM leI n out A B = twoM leI n' (addM out x) A' B' → Lst h s' cI A' → Lst h t' cI B' → s'.blk = s.blk → t'.blk = t.blk → A'.length + B'.length ≤ n' → F.merge_two_int.j3 Q (F.merge_two_int.l1 Q m) s' t' u x h := by
      intro n' x s' t' A' B' hn' htw ls' lt' hsb htb hl'
      subst hn'
      rw [htw] at k
      have hlay : out.getLast? ≠ some x → newL h #[.int .i64 x] ty_3 1 fun s3 h2 => runL PP (Builtin.append_ #[23, 23] 23 #[u.enc, s3.enc]) h2 fun s5 h4 => (F.merge_two_int.l1 Q m) s' t' s5 h4 := fun hne => by
        refine push_mine (f := cI) x e0 mu cI_len (by omega) elI ou (fun x => one1 rfl) (by omega) fun r h1 q1 q2 q3 q4 q5 => ?_
        have hadd : addM out x = out ++ [x] := by unfold addM; rw [if_neg hne]
        have al := addM_len out x
        refine two_int_loop n' m h1 s' t' r A' B' (addM out x) k q2 (ls'.only q4 fun b hb e => by have := hs b (by rw [← hsb]; exact hb); have := mu b e; omega) (lt'.only q4 fun b hb e => by have := ht b (by rw [← htb]; exact hb); have := mu b e; omega) (by rw [hadd]; exact q1) q3 (by rw [hsb]; exact hs) (by rw [htb]; exact ht) hl' (by omega) (by omega)
      have hskip : out.getLast? = some x → (F.merge_two_int.l1 Q m) s' t' u h := fun he => by
        have hadd : addM out x = out := by unfold addM; rw [if_pos he]
        rw [hadd] at k
        exact two_int_loop n' m h s' t' u A' B' out k e0 ls' lt' ou mu (by rw [hsb]; exact hs) (by rw [htb]; exact ht) hl' (by omega) (by omega)
      unfold F.merge_two_int.j3 F.merge_two_int.j4
      rw [hul, beq_iff_eq, beq_eq_false_iff_ne]
      refine ⟨fun g => ⟨fun _ => hlay fun he => ?_, fun h => by cases h⟩, fun g => ?_⟩
      · have : out = [] := List.eq_nil_of_length_eq_zero (by omega)
        subst this; simp at he
      · have hne : out ≠ [] := fun e => by subst e; simp at g
        have hpos : 0 < out.length := List.length_pos_iff.2 hne
        obtain ⟨b, a1, a2⟩ := own_at cI_len (by omega) ou (i := out.length - 1) (x := out.getLast hne) (by rw [← List.getLast?_eq_getElem?, List.getLast?_eq_some_getLast hne])
        refine idxA_of (i := out.length - 1) a1 (by omega) (by rw [w64 (by omega) (by omega)]; omega) ?_
        rw [ldI_iff a2.one]
        have hlast := List.getLast?_eq_some_getLast hne
        rw [bne_iff_ne, bne_eq_false_iff_eq]
        refine ⟨fun g2 => hlay fun he => ?_, fun g2 => hskip ?_⟩
        · rw [hlast] at he; simp at he; simp [he] at g2
        · rw [hlast]; simpa using g2
    have htake1 : ∀ x r, A = x :: r → (∀ y r', B = y :: r' → leI x y = true) → F.merge_two_int.j5 Q (F.merge_two_int.l1 Q m) s t u true h := fun x r hA hB => by
      subst hA
      unfold F.merge_two_int.j5
      refine ⟨fun _ => ls.head cI_len fun a ha => ?_, fun h => by cases h⟩
      rw [ldI_iff ha.one]
      refine ls.tail cI_len fun s' ls' hb => ?_
      simp only [List.length_cons] at hn
      obtain ⟨n', rfl⟩ : ∃ n', n = n' + 1 := ⟨n - 1, by omega⟩
      refine hadd n' x s' t r B rfl ?_ ls' lt hb rfl (by omega)
      cases B with
      | nil => rfl
      | cons y r' => simp only [twoM]; rw [if_pos (hB y r' rfl)]
    have htake2 : ∀ y r, B = y :: r → (∀ x r', A = x :: r' → leI x y = false) → F.merge_two_int.j5 Q (F.merge_two_int.l1 Q m) s t u false h := fun y r hB hA => by
      subst hB
      unfold F.merge_two_int.j5
      refine ⟨(fun h => by cases h), fun _ => lt.head cI_len fun a ha => ?_⟩
      rw [ldI_iff ha.one]
      refine lt.tail cI_len fun t' lt' hb => ?_
      simp only [List.length_cons] at hn
      obtain ⟨n', rfl⟩ : ∃ n', n = n' + 1 := ⟨n - 1, by omega⟩
      refine hadd n' y s t' A r rfl ?_ ls lt' rfl hb (by omega)
      cases A with
      | nil => rfl
      | cons x r' => simp only [twoM]; rw [if_neg (by rw [hA x r' rfl]; simp)]
    unfold F.merge_two_int.l1 F.merge_two_int.j6 F.merge_two_int.j2
    rw [hsl, htl, beq_iff_eq, beq_eq_false_iff_ne]
    simp only [decide_eq_true_eq, decide_eq_false_iff_not]
    cases A with
    | nil =>
      refine ⟨fun g => by simp at g, fun _ => ⟨fun g => ⟨fun g2 => by omega, fun _ => ⟨fun g => by simp at g, fun _ => ?_⟩⟩, fun g => ?_⟩⟩
      · cases B with
        | nil => simp at g
        | cons y r => exact htake2 y r rfl fun x r' h => by cases h
      · have : B = [] := List.eq_nil_of_length_eq_zero (by omega)
        subst this
        have htw : twoM leI n out [] [] = out := by cases n <;> rfl
        rw [htw] at k
        exact k u h ou e0 mu
    | cons x r =>
      refine ⟨fun _ => ⟨fun _ => ⟨fun g => htake1 x r rfl fun y r' h => by subst h; exfalso; simp at g <;> omega, fun g => ⟨fun _ => ?_, fun g2 => by simp at g2 <;> omega⟩⟩, fun h => by cases h⟩, fun g => by simp at g <;> omega⟩
      cases B with
      | nil => simp at g
      | cons y r' =>
        refine ls.head cI_len fun a ha => ?_
        rw [ldI_iff ha.one]
        refine lt.head cI_len fun a hb => ?_
        rw [ldI_iff hb.one]
        show F.merge_two_int.j5 Q (F.merge_two_int.l1 Q m) s t u (leI x y) h
        cases hle : leI x y with
        | true => exact htake1 x r rfl fun y' r'' h => by cases h; exact hle
        | false => exact htake2 y r' rfl fun x' r'' h => by cases h; exact hle
theorem two_int_spec {h : H} {Q : Sl → H → Prop} {s t : Sl} {A B : List Int} (ls : Lst h s cI A) (lt : Lst h t cI B) (hlen : A.length + B.length < 100000000000) (hs : ∀ b, s.blk = some b → b < h.size) (ht : ∀ b, t.blk = some b → b < h.size)
    (k : ∀ r h', Owns h' r 3 1 ((twoM leI (A.length + B.length) [] A B).flatMap cI) → Ext h h' → Mine h r → Q r h') : F.merge_two_int s t h Q := by
  unfold F.merge_two_int
  exact ⟨_, two_int_loop _ _ h s t _ A B [] k (.refl _) ls lt (Owns.nil _ _ _) (Mine.nil _ _ _) hs ht (Nat.le_refl _) (by simp; omega) (Nat.lt_succ_self _)⟩
/-- Lists whose slices lie in a slice. -/
def Lsts_int (h : H) (SL : List Sl) (LL : List (List Int)) : Prop := SL.length = LL.length ∧ ∀ (i : Nat) (s : Sl) (A : List Int), SL[i]? = some s → LL[i]? = some A → Lst h s cI A ∧ ∀ b, s.blk = some b → b < h.size
theorem Lsts_int.ext {h h' : H} {SL : List Sl} {LL : List (List Int)} (l : Lsts_int h SL LL) (e : Ext h h') : Lsts_int h' SL LL := ⟨l.1, fun i s A h1 h2 => ⟨(l.2 i s A h1 h2).1.ext e, fun b hb => Nat.lt_of_lt_of_le ((l.2 i s A h1 h2).2 b hb) e.size⟩⟩
theorem Lsts_int.take {h : H} {SL : List Sl} {LL : List (List Int)} (l : Lsts_int h SL LL) (n : Nat) : Lsts_int h (SL.take n) (LL.take n) := ⟨by simp [l.1], fun i s A h1 h2 => by
  rw [List.getElem?_take] at h1 h2
  split at h1
  · rename_i hi; rw [if_pos hi] at h2; exact l.2 i s A h1 h2
  · cases h1⟩
theorem Lsts_int.drop {h : H} {SL : List Sl} {LL : List (List Int)} (l : Lsts_int h SL LL) (n : Nat) : Lsts_int h (SL.drop n) (LL.drop n) := ⟨by simp [l.1], fun i s A h1 h2 => by
  rw [List.getElem?_drop] at h1 h2
  exact l.2 _ s A h1 h2⟩
theorem listsM_int_len (le : Int → Int → Bool) : ∀ (n : Nat) (LL : List (List Int)), (listsM le n LL).length ≤ LL.flatten.length
  | 0, LL => by simp [listsM]
  | n + 1, [] => by simp [listsM]
  | n + 1, [a] => by have := twoM_len le a.length [] a []; simp only [listsM]; simp at this ⊢; omega
  | n + 1, a :: b :: r => by
    simp only [listsM]
    have h1 := listsM_int_len le n ((a :: b :: r).take ((a :: b :: r).length / 2))
    have h2 := listsM_int_len le n ((a :: b :: r).drop ((a :: b :: r).length / 2))
    have h3 := twoM_len le ((listsM le n ((a :: b :: r).take ((a :: b :: r).length / 2))).length + (listsM le n ((a :: b :: r).drop ((a :: b :: r).length / 2))).length) [] (listsM le n ((a :: b :: r).take ((a :: b :: r).length / 2))) (listsM le n ((a :: b :: r).drop ((a :: b :: r).length / 2)))
    have h4 : ((a :: b :: r).take ((a :: b :: r).length / 2)).flatten.length + ((a :: b :: r).drop ((a :: b :: r).length / 2)).flatten.length = (a :: b :: r).flatten.length := by
      rw [← List.length_append, ← List.flatten_append, List.take_append_drop]
    simp only [List.length_nil, Nat.zero_add] at h3
    exact Nat.le_trans h3 (by omega)
theorem Lists_int_fu : ∀ (m : Nat) (h : H) (p : Sl) (SL : List Sl) (LL : List (List Int)) (Q : Sl → H → Prop), Lst h p cS SL → Lsts_int h SL LL → LL.flatten.length < 10000000000 → LL.length < 10000000000 → LL.length < m → (∀ b, p.blk = some b → b < h.size) →
    (∀ r h', Owns h' r 3 1 ((listsM leI (LL.length + 1) LL).flatMap cI) → Ext h h' → Mine h r → Q r h') → ∀ n, LL.length + 1 = n → F.merge_Lists_int.fu m p h Q
  | 0, h, p, SL, LL, Q, _, _, _, _, hm, _, _ => by omega
  | m + 1, h, p, SL, LL, Q, lp, ll, hf, hll, hm, hp, k => fun n hn => by
    subst hn
    have hpl := lp.len cS_len
    have hl := ll.1
    unfold F.merge_Lists_int.fu
    rw [hpl, hl, beq_iff_eq, beq_eq_false_iff_ne, beq_iff_eq, beq_eq_false_iff_ne]
    match LL, SL, hl with
    | [], [], _ => exact ⟨fun _ => k _ h (Owns.nil _ _ _) (.refl _) (Mine.nil _ _ _), fun g => by simp at g⟩
    | [A], [s], _ =>
      refine ⟨fun g => by simp at g, fun _ => ⟨fun _ => ?_, fun g => by simp at g⟩⟩
      obtain ⟨l1, l2⟩ := ll.2 0 s A rfl rfl
      refine lp.head cS_len fun a ha => ?_
      rw [ldL_iff ha.one]
      refine two_int_spec (B := []) l1 ⟨(Owns.nil h 3 1).reads, Nat.le_refl _⟩ (by simp at hf ⊢; omega) l2 (fun b hb => by simp [Sl.blk] at hb) fun r h' q1 q2 q3 => k r h' (by simpa [listsM] using q1) q2 q3
    | A :: B :: r, s :: t :: r', hl =>
      generalize hLL : A :: B :: r = LL at *
      generalize hSL : s :: t :: r' = SL at *
      have h2 : 2 ≤ LL.length := by rw [← hLL]; simp
      refine ⟨fun g => by omega, fun _ => ⟨fun g => by omega, fun _ => ⟨by omega, ?_⟩⟩⟩
      have hq : Int.tdiv (LL.length : Int) 2 = ((LL.length / 2 : Nat) : Int) := Int.ofNat_tdiv _ 2
      rw [hq, w64 (by omega) (by omega)]
      have hcap := lp.2
      refine cutL_of (lo := 0) (hi := LL.length / 2) rfl rfl (by omega) (by omega) ?_
      refine cutL_of (lo := LL.length / 2) (hi := LL.length) rfl rfl (by omega) (by omega) ?_
      have hsl : SL.length = LL.length := ll.1
      have c1 : Lst h (slcut p 0 (LL.length / 2) 1) cS (SL.take (LL.length / 2)) := ⟨by
        have := cut_reads cS_len (by omega) lp.1 (lo := 0) (hi := LL.length / 2) (by omega) (by omega) hcap
        simpa using this, by simp only [slcut]; omega⟩
      have c2 : Lst h (slcut p (LL.length / 2) LL.length 1) cS (SL.drop (LL.length / 2)) := ⟨by
        have := cut_reads cS_len (by omega) lp.1 (lo := LL.length / 2) (hi := LL.length) (by omega) (by omega) hcap
        rw [List.take_of_length_le (by simp; omega)] at this
        exact this, by simp only [slcut]; omega⟩
      have f1 : (LL.take (LL.length / 2)).flatten.length + (LL.drop (LL.length / 2)).flatten.length = LL.flatten.length := by rw [← List.length_append, ← List.flatten_append, List.take_append_drop]
      have t1 : (LL.take (LL.length / 2)).length = LL.length / 2 := by rw [List.length_take]; omega
      have t2 : (LL.drop (LL.length / 2)).length = LL.length - LL.length / 2 := by rw [List.length_drop]
      refine Lists_int_fu m h _ _ _ _ c1 (ll.take _) (by omega) (by omega) (by omega) (by rw [slcut_blk]; exact hp) (fun r1 h1 q1 q2 q3 => ?_) _ rfl
      refine Lists_int_fu m h1 _ _ _ _ (c2.ext q2) ((ll.drop _).ext q2) (by omega) (by omega) (by omega) (by rw [slcut_blk]; exact fun b hb => Nat.lt_of_lt_of_le (hp b hb) q2.size) (fun r2 h2' p1 p2 p3 => ?_) _ rfl
      have n1 := listsM_int_len leI ((LL.take (LL.length / 2)).length + 1) (LL.take (LL.length / 2))
      have n2 := listsM_int_len leI ((LL.drop (LL.length / 2)).length + 1) (LL.drop (LL.length / 2))
      refine two_int_spec (q1.ext p2).lst p1.lst (by omega) (fun b hb => (q1.ext p2).blk_lt hb) (fun b hb => p1.blk_lt hb) fun r3 h3 u1 u2 u3 => k r3 h3 ?_ ((q2.trans p2).trans u2) (u3.older (q2.trans p2))
      have e1 : listsM leI (LL.length + 1) LL = twoM leI ((listsM leI LL.length (LL.take (LL.length / 2))).length + (listsM leI LL.length (LL.drop (LL.length / 2))).length) [] (listsM leI LL.length (LL.take (LL.length / 2))) (listsM leI LL.length (LL.drop (LL.length / 2))) := by
        rw [← hLL]; rfl
      have e2 : listsM leI ((LL.take (LL.length / 2)).length + 1) (LL.take (LL.length / 2)) = listsM leI LL.length (LL.take (LL.length / 2)) := listsM_fuel _ _ _ _ (by omega) (by omega)
      have e3 : listsM leI ((LL.drop (LL.length / 2)).length + 1) (LL.drop (LL.length / 2)) = listsM leI LL.length (LL.drop (LL.length / 2)) := listsM_fuel _ _ _ _ (by omega) (by omega)
      rw [e1, ← e2, ← e3]
      exact u1
theorem Lists_int_spec {h : H} {p : Sl} {SL : List Sl} {LL : List (List Int)} {Q : Sl → H → Prop} (lp : Lst h p cS SL) (ll : Lsts_int h SL LL) (hf : LL.flatten.length < 10000000000) (hll : LL.length < 10000000000) (hp : ∀ b, p.blk = some b → b < h.size)
    (k : ∀ r h', Owns h' r 3 1 ((listsM leI (LL.length + 1) LL).flatMap cI) → Ext h h' → Mine h r → Q r h') : F.merge_Lists_int p h Q := ⟨LL.length + 1, Lists_int_fu _ h p SL LL Q lp ll hf hll (Nat.lt_succ_self _) hp k _ rfl⟩
end Go.Proofs.Ytidpbnbjpglhfaa.V
namespace Go.Proofs.Ytidpbnbjpglhfaa.V
open Go
set_option linter.unusedVariables false
set_option linter.unusedSimpArgs false
theorem known8_spec {h : H} {Q : Bool → H → Prop} (k : ∀ h', Ext h h' → Q true h') : F.spatelaw8_known h Q := by
  unfold F.spatelaw8_known
  have hm : mayC (⟨0, ⟨#[97]⟩, 0⟩ : Cel) = 0 := by decide
  refine Key_spec (fun g => absurd hm g) fun _ h1 e1 => ?_
  have hkey : keyL (⟨0, ⟨#[97]⟩, 0⟩ : Cel) = [0, 97, 0, 1, 128, 0, 0, 0, 0, 0, 0, 0] := by decide +kernel
  have hcel : cellM [0, 97, 0, 1, 128, 0, 0, 0, 0, 0, 0, 0] = (⟨0, ⟨#[97]⟩, 0⟩, 0) := by kernel_rfl
  refine Cell_spec (by decide) fun h2 e2 => ?_
  rw [show (⟨#[0, 97, 0, 1, 128, 0, 0, 0, 0, 0, 0, 0]⟩ : ByteArray).data.toList = [0, 97, 0, 1, 128, 0, 0, 0, 0, 0, 0, 0] from rfl, hcel, hkey]
  refine new_of fun n h3 a1 a2 a3 a4 => ?_
  refine st_cell (c := zeroC) a2 fun h4 b1 b2 b3 => ?_
  refine newL_of fun n5 h5 c1 c2 c3 c4 => ?_
  refine newL_of fun n6 h6 d1 d2 d3 d4 => ?_
  refine newL_of fun n7 h7 f1 f2 f3 f4 => ?_
  have x4 : Ext h h4 := ((e1.trans e2).trans a3).step b2 fun m hm e => by have := (e1.trans e2).size; omega
  have x7 : Ext h4 h7 := (c3.trans d3).trans f3
  have l1 : Lst h7 ⟨some ⟨n5, 0, none⟩, 3, 3⟩ cI [1, 3, 3] := ⟨(blk_reads (size := 1) (m := 3) (show Blk h5 n5 (([1, 3, 3] : List Int).flatMap cI).toArray 3 from c2) rfl).ext (d3.trans f3), Nat.le_refl _⟩
  have l2 : Lst h7 ⟨some ⟨n6, 0, none⟩, 2, 2⟩ cI [2, 3] := ⟨(blk_reads (size := 1) (m := 2) (show Blk h6 n6 (([2, 3] : List Int).flatMap cI).toArray 3 from d2) rfl).ext f3, Nat.le_refl _⟩
  have l3 : Lst h7 ⟨some ⟨n7, 0, none⟩, 2, 2⟩ cS [⟨some ⟨n5, 0, none⟩, 3, 3⟩, ⟨some ⟨n6, 0, none⟩, 2, 2⟩] := ⟨blk_reads (size := 1) (m := 2) (show Blk h7 n7 (([⟨some ⟨n5, 0, none⟩, 3, 3⟩, ⟨some ⟨n6, 0, none⟩, 2, 2⟩] : List Sl).flatMap cS).toArray 23 from f2) rfl, Nat.le_refl _⟩
  refine Lists_int_spec (LL := [[1, 3, 3], [2, 3]]) l3 ⟨rfl, fun i s A g1 g2 => ?_⟩ (by decide) (by decide) (fun b hb => by simp [Sl.blk] at hb; omega) fun r h8 q1 q2 q3 => ?_
  · match i, g1, g2 with
    | 0, g1, g2 => simp at g1 g2; subst g1; subst g2; exact ⟨l1, fun b hb => by simp [Sl.blk] at hb; omega⟩
    | 1, g1, g2 => simp at g1 g2; subst g1; subst g2; exact ⟨l2, fun b hb => by simp [Sl.blk] at hb; omega⟩
    | i + 2, g1, g2 => simp at g1
  · have hres : listsM leI (([[1, 3, 3], [2, 3]] : List (List Int)).length + 1) [[1, 3, 3], [2, 3]] = [1, 2, 3] := by decide +kernel
    rw [hres] at q1
    have lr := q1.lst
    have hrl := lr.len cI_len
    have bl8 : Blk h8 n (⟨0, ⟨#[97]⟩, 0⟩ : Cel).cells.toArray 34 := (x7.trans q2).block b1 (fun f => f)
    have hend := k h8 ((x4.trans x7).trans q2)
    refine ⟨fun _ => ⟨fun _ => ⟨fun _ => ⟨_, bl8.cells3, fun _ => ⟨fun _ => ?_, fun g => ?_⟩, fun g => ?_⟩, fun g => ?_⟩, fun g => by cases g⟩, fun g => by cases g⟩
    · refine lr.get cI_len (i := 0) (x := 1) rfl rfl fun a ha => ?_
      rw [ldI_iff ha.one]
      refine ⟨fun _ => ?_, fun g => by cases g⟩
      refine lr.get cI_len (i := 1) (x := 2) rfl rfl fun a ha => ?_
      rw [ldI_iff ha.one]
      refine ⟨fun _ => ?_, fun g => by cases g⟩
      refine lr.get cI_len (i := 2) (x := 3) rfl rfl fun a ha => ?_
      rw [ldI_iff ha.one]
      exact hend
    · rw [hrl] at g; cases g
    · exact absurd g (by decide +kernel)
    · exact absurd g (by decide +kernel)
end Go.Proofs.Ytidpbnbjpglhfaa.V
namespace Go.Proofs.Ytidpbnbjpglhfaa.V
open Go
set_option linter.unusedVariables false
set_option linter.unusedSimpArgs false
theorem i64_of {n : Int} (h : (Lit.int .i64 n).wf = true) : -9223372036854775808 ≤ n ∧ n < 9223372036854775808 := by
  simp [Lit.wf, IntKind.min, IntKind.max, IntKind.bits, IntKind.signed] at h
  omega
end Go.Proofs.Ytidpbnbjpglhfaa.V
namespace Go.Proofs.Ytidpbnbjpglhfaa.V
open Go
set_option linter.unusedVariables false
set_option linter.unusedSimpArgs false
theorem cmpB_eq : ∀ (a b : List UInt8), Lib.compareBytes a b = if a = b then 0 else if Op.bytesLess a b then -1 else 1
  | [], [] => rfl
  | [], _ :: _ => rfl
  | _ :: _, [] => rfl
  | a :: ra, b :: rb => by
    rw [Lib.compareBytes, cmpB_eq ra rb, Op.bytesLess]
    by_cases h1 : a < b
    · have : a ≠ b := fun e => by subst e; exact absurd h1 (by simp)
      simp [h1, this]
    · by_cases h2 : b < a
      · have : a ≠ b := fun e => by subst e; exact absurd h2 (by simp)
        simp [h1, h2, this]
      · have : a = b := UInt8.le_antisymm (UInt8.not_lt.1 h2) (UInt8.not_lt.1 h1)
        subst this
        simp
def cmpI (x y : Int) : Int := if x < y then -1 else if x > y then 1 else 0
def cmpC (a b : Cel) : Int := if cmpI a.View b.View ≠ 0 then cmpI a.View b.View else if cmpM a.Key b.Key ≠ 0 then cmpM a.Key b.Key else cmpI a.Start b.Start
theorem cmpInt_spec {x y : Int} {h : H} {Q : Int → H → Prop} (k : Q (cmpI x y) h) : F.cmp_Compare_int x y h Q := by
  unfold F.cmp_Compare_int F.cmp_isNaN_int
  unfold cmpI at k
  simp only [bne_self_eq_false, Bool.false_eq_true, false_implies, true_implies, true_and, decide_eq_true_eq, decide_eq_false_iff_not]
  by_cases h1 : x < y
  · simp only [h1, if_true] at k; exact ⟨fun _ => k, fun g => absurd h1 g⟩
  · simp only [h1, if_false] at k
    by_cases h2 : x > y
    · simp only [h2, if_true] at k; exact ⟨fun g => absurd g h1, fun _ => ⟨fun _ => k, fun g => absurd h2 g⟩⟩
    · simp only [h2, if_false] at k; exact ⟨fun g => absurd g h1, fun _ => ⟨fun g => absurd g h2, fun _ => k⟩⟩
theorem cmpInt64_spec {x y : Int} {h : H} {Q : Int → H → Prop} (k : Q (cmpI x y) h) : F.cmp_Compare_int64 x y h Q := by
  unfold F.cmp_Compare_int64 F.cmp_isNaN_int64
  unfold cmpI at k
  simp only [bne_self_eq_false, Bool.false_eq_true, false_implies, true_implies, true_and, decide_eq_true_eq, decide_eq_false_iff_not]
  by_cases h1 : x < y
  · simp only [h1, if_true] at k; exact ⟨fun _ => k, fun g => absurd h1 g⟩
  · simp only [h1, if_false] at k
    by_cases h2 : x > y
    · simp only [h2, if_true] at k; exact ⟨fun g => absurd g h1, fun _ => ⟨fun _ => k, fun g => absurd h2 g⟩⟩
    · simp only [h2, if_false] at k; exact ⟨fun g => absurd g h1, fun _ => ⟨fun g => absurd g h2, fun _ => k⟩⟩
theorem or3_spec {n : Nat} {a b c : Int} {h : H} {Q : Int → H → Prop} (bl : Blk h n #[.int .i64 a, .int .i64 b, .int .i64 c] 3) (k : Q (if a ≠ 0 then a else if b ≠ 0 then b else c) h) : F.cmp_Or_int ⟨some ⟨n, 0, none⟩, 3, 3⟩ h Q := by
  unfold F.cmp_Or_int
  refine ⟨4, ?_⟩
  have c0 : cellH h ⟨n, 0, none⟩ = some (.int .i64 a) := bl.cell rfl
  have c1 : cellH h ⟨n, 1, none⟩ = some (.int .i64 b) := bl.cell rfl
  have c2 : cellH h ⟨n, 2, none⟩ = some (.int .i64 c) := bl.cell rfl
  unfold F.cmp_Or_int.l1
  refine ⟨fun _ => ?_, fun g => by simp at g⟩
  refine idxA_of (i := 0) rfl (by simp) rfl ?_
  rw [Nat.zero_mul, ldI_iff c0, bne_iff_ne, bne_eq_false_iff_eq]
  refine ⟨fun g => by rw [if_pos g] at k; exact k, fun g => ?_⟩
  rw [if_neg (by simpa using g)] at k
  rw [show IntKind.wrap .i64 (0 + 1) = ((1 : Nat) : Int) from by decide]
  unfold F.cmp_Or_int.l1
  refine ⟨fun _ => ?_, fun g => by simp at g⟩
  refine idxA_of (i := 1) rfl (by simp) rfl ?_
  rw [Nat.one_mul, ldI_iff c1, bne_iff_ne, bne_eq_false_iff_eq]
  refine ⟨fun g => by rw [if_pos g] at k; exact k, fun g => ?_⟩
  rw [if_neg (by simpa using g)] at k
  rw [show IntKind.wrap .i64 (((1 : Nat) : Int) + 1) = ((2 : Nat) : Int) from by decide]
  unfold F.cmp_Or_int.l1
  refine ⟨fun _ => ?_, fun g => by simp at g⟩
  refine idxA_of (i := 2) rfl (by simp) rfl ?_
  rw [show 2 * 1 = 2 from rfl, ldI_iff c2, bne_iff_ne, bne_eq_false_iff_eq]
  refine ⟨fun g => k, fun g => ?_⟩
  rw [show IntKind.wrap .i64 (((2 : Nat) : Int) + 1) = ((3 : Nat) : Int) from by decide]
  unfold F.cmp_Or_int.l1
  refine ⟨fun g => by simp at g, fun _ => ?_⟩
  rw [g] at k; exact k
theorem Compare_spec {a b : Cel} {h : H} {Q : Int → H → Prop} (k : ∀ h', Ext h h' → Q (cmpC a b) h') : F.merge_Compare a b h Q := by
  unfold F.merge_Compare
  refine new_of fun n h1 e1 e2 e3 e4 => new_of fun m h3 f1 f2 f3 f4 => ?_
  have b1 : Blk h3 n a.cells.toArray 34 := f3.block e2 (fun f => f)
  have b2 : Blk h3 m b.cells.toArray 34 := f2
  have a0 : cellH h3 ⟨n, 0, none⟩ = some (.int .i64 a.View) := b1.cell rfl
  have a1 : cellH h3 ⟨n, 1, none⟩ = some (.string a.Key) := b1.cell rfl
  have a2 : cellH h3 ⟨n, 2, none⟩ = some (.int .i64 a.Start) := b1.cell rfl
  have c0 : cellH h3 ⟨m, 0, none⟩ = some (.int .i64 b.View) := b2.cell rfl
  have c1 : cellH h3 ⟨m, 1, none⟩ = some (.string b.Key) := b2.cell rfl
  have c2 : cellH h3 ⟨m, 2, none⟩ = some (.int .i64 b.Start) := b2.cell rfl
  simp only [add_lit, Nat.zero_add, ldI_iff a0, ldI_iff c0, ldS_iff a1, ldS_iff c1, ldI_iff a2, ldI_iff c2]
  refine cmpInt_spec ⟨c2, a2, c1, a1, ?_⟩
  unfold F.strings_Compare F.internal_bytealg_CompareString
  refine ⟨c2, a2, cmpInt64_spec ?_⟩
  refine newL_of fun q h5 g1 g2 g3 g4 => ?_
  exact or3_spec g2 (k h5 ((e3.trans f3).trans g3))
def cmpR8 (a b : Cel) : Int := if a.View ≠ b.View then (if a.View < b.View then -1 else 1) else if a.Key.toList ≠ b.Key.toList then (if Op.bytesLess a.Key.toList b.Key.toList then -1 else 1) else if a.Start ≠ b.Start then (if a.Start < b.Start then -1 else 1) else 0
theorem cmpR8_eq (a b : Cel) : cmpR8 a b = cmpC a b := by
  unfold cmpR8 cmpC cmpI cmpM
  rw [cmpB_eq, toList_data, toList_data]
  by_cases h1 : a.View = b.View
  · rw [h1]
    simp only [ne_eq, not_true_eq_false, if_false, Int.lt_irrefl, gt_iff_lt]
    by_cases h2 : a.Key.data.toList = b.Key.data.toList
    · rw [h2]
      simp only [not_true_eq_false, if_false, if_true]
      by_cases h3 : a.Start = b.Start
      · rw [h3]; simp
      · rw [if_pos h3]
        by_cases h4 : a.Start < b.Start
        · rw [if_pos h4, if_pos h4]
        · rw [if_neg h4, if_neg h4, if_pos (by omega)]
    · rw [if_pos h2]
      by_cases h4 : Op.bytesLess a.Key.data.toList b.Key.data.toList
      · simp [h2, h4]
      · simp [h2, h4]
  · rw [if_pos h1]
    by_cases h4 : a.View < b.View
    · simp [h4]
    · rw [if_neg h4, if_neg h4, if_pos (show a.View > b.View by omega)]; simp
theorem sign_spec {b : Bool} {h : H} {Q : Int → H → Prop} (k : Q (if b then -1 else 1) h) : F.spateref8_sign b h Q := by
  unfold F.spateref8_sign
  cases b with
  | true => exact ⟨fun _ => k, fun h => by cases h⟩
  | false => exact ⟨(fun h => by cases h), fun _ => k⟩
theorem CompareR_spec {a b : Cel} {h : H} {Q : Int → H → Prop} (k : ∀ h', Ext h h' → Q (cmpC a b) h') : F.spateref8_Compare a b h Q := by
  unfold F.spateref8_Compare
  refine new_of fun n h1 e1 e2 e3 e4 => new_of fun m h3 f1 f2 f3 f4 => ?_
  have b1 : Blk h3 n a.cells.toArray 34 := f3.block e2 (fun f => f)
  have b2 : Blk h3 m b.cells.toArray 34 := f2
  have a0 : cellH h3 ⟨n, 0, none⟩ = some (.int .i64 a.View) := b1.cell rfl
  have a1 : cellH h3 ⟨n, 1, none⟩ = some (.string a.Key) := b1.cell rfl
  have a2 : cellH h3 ⟨n, 2, none⟩ = some (.int .i64 a.Start) := b1.cell rfl
  have c0 : cellH h3 ⟨m, 0, none⟩ = some (.int .i64 b.View) := b2.cell rfl
  have c1 : cellH h3 ⟨m, 1, none⟩ = some (.string b.Key) := b2.cell rfl
  have c2 : cellH h3 ⟨m, 2, none⟩ = some (.int .i64 b.Start) := b2.cell rfl
  have k := k h3 (e3.trans f3)
  rw [← cmpR8_eq] at k
  unfold cmpR8 at k
  simp only [add_lit, Nat.zero_add, ldI_iff a0, ldI_iff c0, ldS_iff a1, ldS_iff c1, ldI_iff a2, ldI_iff c2, bne_iff_ne, bne_eq_false_iff_eq]
  refine ⟨fun g => sign_spec ?_, fun g => ⟨fun g2 => sign_spec ?_, fun g2 => ⟨fun g3 => sign_spec ?_, fun g3 => ?_⟩⟩⟩
  · rw [if_pos g] at k; simpa using k
  · rw [if_neg (by simpa using g), if_pos (by simpa using g2)] at k; simpa using k
  · rw [if_neg (by simpa using g), if_neg (by simpa using g2), if_pos g3] at k; simpa using k
  · rw [if_neg (by simpa using g), if_neg (by simpa using g2), if_neg (by simpa using g3)] at k; exact k
theorem cmpC_self (a : Cel) : cmpC a a = 0 := by
  unfold cmpC cmpI cmpM
  rw [cmpB_eq]; simp
end Go.Proofs.Ytidpbnbjpglhfaa.V
namespace Go.Proofs.Ytidpbnbjpglhfaa.V
open Go
set_option linter.unusedVariables false
set_option linter.unusedSimpArgs false
theorem cB_zero {x y : List UInt8} : Lib.compareBytes x y = 0 ↔ x = y := by
  rw [cmpB_eq]
  split
  · rename_i h; simp [h]
  · rename_i h; split <;> simp [h]
theorem u8_tri (a b : UInt8) : a < b ∨ a = b ∨ b < a := by
  by_cases h1 : a < b
  · exact .inl h1
  · by_cases h2 : b < a
    · exact .inr (.inr h2)
    · exact .inr (.inl (UInt8.le_antisymm (UInt8.not_lt.1 h2) (UInt8.not_lt.1 h1)))
theorem u8_asym {a b : UInt8} (h : a < b) : ¬ b < a := fun h2 => by
  rw [UInt8.lt_iff_toNat_lt] at h h2; omega
theorem u8_irr (a : UInt8) : ¬ a < a := fun h => by
  rw [UInt8.lt_iff_toNat_lt] at h; omega
theorem cB_anti : ∀ (x y : List UInt8), Lib.compareBytes x y = - Lib.compareBytes y x
  | [], [] => rfl
  | [], _ :: _ => rfl
  | _ :: _, [] => rfl
  | a :: x, b :: y => by
    have ih := cB_anti x y
    simp only [Lib.compareBytes]
    rcases u8_tri a b with h | h | h
    · simp [h, u8_asym h]
    · subst h; simp [u8_irr, ih]
    · simp [h, u8_asym h]
theorem cB_range (x y : List UInt8) : Lib.compareBytes x y = -1 ∨ Lib.compareBytes x y = 0 ∨ Lib.compareBytes x y = 1 := by
  rw [cmpB_eq]; split
  · simp
  · split <;> simp
theorem cB_trans : ∀ (x y z : List UInt8), Lib.compareBytes x y = -1 → Lib.compareBytes y z = -1 → Lib.compareBytes x z = -1
  | [], [], z, h, _ => by simp [Lib.compareBytes] at h
  | [], b :: y, [], _, h => by simp [Lib.compareBytes] at h
  | [], b :: y, c :: z, _, _ => rfl
  | a :: x, [], z, h, _ => by simp [Lib.compareBytes] at h
  | a :: x, b :: y, [], _, h => by simp [Lib.compareBytes] at h
  | a :: x, b :: y, c :: z, h1, h2 => by
    simp only [Lib.compareBytes] at h1 h2 ⊢
    rcases u8_tri a b with g | g | g
    · rcases u8_tri b c with g2 | g2 | g2
      · have : a < c := by rw [UInt8.lt_iff_toNat_lt] at *; omega
        simp [this]
      · subst g2; simp [g]
      · simp [g2, u8_asym g2] at h2
    · subst g
      simp only [u8_irr, if_false] at h1
      rcases u8_tri a c with g2 | g2 | g2
      · simp [g2]
      · subst g2
        simp only [u8_irr, if_false] at h2 ⊢
        exact cB_trans x y z h1 h2
      · simp [g2, u8_asym g2] at h2
    · simp [g, u8_asym g] at h1
theorem cI_anti (x y : Int) : cmpI x y = - cmpI y x := by
  unfold cmpI
  rcases Int.lt_trichotomy x y with h | h | h
  · rw [if_pos h, if_neg (by omega), if_pos (by omega)]
  · subst h; simp
  · rw [if_neg (by omega), if_pos (by omega), if_pos (by omega)]; rfl
theorem cI_zero {x y : Int} : cmpI x y = 0 ↔ x = y := by
  unfold cmpI
  split
  · constructor <;> intro <;> omega
  · split
    · constructor <;> intro <;> omega
    · constructor <;> intro <;> omega
theorem cI_range (x y : Int) : cmpI x y = -1 ∨ cmpI x y = 0 ∨ cmpI x y = 1 := by
  unfold cmpI; split
  · simp
  · split <;> simp
theorem cI_lt {x y : Int} : cmpI x y = -1 ↔ x < y := by
  unfold cmpI
  split
  · constructor <;> intro <;> omega
  · split
    · constructor <;> intro <;> omega
    · constructor <;> intro <;> omega
theorem cC_anti (a b : Cel) : cmpC a b = - cmpC b a := by
  unfold cmpC cmpM
  rw [cI_anti a.View b.View, cB_anti a.Key.data.toList b.Key.data.toList, cI_anti a.Start b.Start]
  split <;> split <;> simp_all <;> omega
theorem cC_range (a b : Cel) : cmpC a b = -1 ∨ cmpC a b = 0 ∨ cmpC a b = 1 := by
  unfold cmpC cmpM
  split
  · exact cI_range _ _
  · split
    · exact cB_range _ _
    · exact cI_range _ _
theorem key_ext {a b : ByteArray} (h : a.data.toList = b.data.toList) : a = b := by
  obtain ⟨x⟩ := a
  obtain ⟨y⟩ := b
  congr 1
  exact Array.toList_inj.1 h
theorem cC_zero {a b : Cel} : cmpC a b = 0 ↔ a = b := by
  constructor
  · intro h
    unfold cmpC cmpM at h
    split at h
    · rename_i g; exact absurd h g
    · rename_i g
      split at h
      · rename_i g2; exact absurd h g2
      · rename_i g2
        have h1 := cI_zero.1 (Classical.not_not.1 g)
        have h2 := key_ext (cB_zero.1 (Classical.not_not.1 g2))
        have h3 := cI_zero.1 h
        obtain ⟨v, k, s⟩ := a
        obtain ⟨v', k', s'⟩ := b
        simp only at h1 h2 h3
        rw [h1, h2, h3]
  · rintro rfl; exact cmpC_self a
theorem cC_lt {a b : Cel} : cmpC a b = -1 ↔ cmpI a.View b.View = -1 ∨ (a.View = b.View ∧ (Lib.compareBytes a.Key.data.toList b.Key.data.toList = -1 ∨ (a.Key.data.toList = b.Key.data.toList ∧ a.Start < b.Start))) := by
  unfold cmpC cmpM
  have r1 := cI_range a.View b.View
  have r2 := cB_range a.Key.data.toList b.Key.data.toList
  have z1 := cI_zero (x := a.View) (y := b.View)
  have z2 := cB_zero (x := a.Key.data.toList) (y := b.Key.data.toList)
  have l3 := cI_lt (x := a.Start) (y := b.Start)
  by_cases h1 : cmpI a.View b.View = 0
  · rw [if_neg (by simp [h1])]
    have e1 := z1.1 h1
    by_cases h2 : Lib.compareBytes a.Key.data.toList b.Key.data.toList = 0
    · rw [if_neg (by simp [h2])]
      have e2 := z2.1 h2
      rw [l3]
      constructor
      · intro h; exact .inr ⟨e1, .inr ⟨e2, h⟩⟩
      · intro h
        rcases h with h | ⟨_, h | h⟩
        · omega
        · omega
        · exact h.2
    · rw [if_pos h2]
      constructor
      · intro h; exact .inr ⟨e1, .inl h⟩
      · intro h
        rcases h with h | ⟨_, h | h⟩
        · omega
        · exact h
        · exact absurd (z2.2 h.1) h2
  · rw [if_pos h1]
    constructor
    · intro h; exact .inl h
    · intro h
      rcases h with h | h
      · exact h
      · exact absurd (z1.2 h.1) h1
theorem cC_trans {a b c : Cel} (h1 : cmpC a b = -1) (h2 : cmpC b c = -1) : cmpC a c = -1 := by
  rw [cC_lt] at *
  rcases h1 with h1 | ⟨e1, h1⟩
  · rw [cI_lt] at h1
    rcases h2 with h2 | ⟨e2, _⟩
    · rw [cI_lt] at h2; exact .inl (cI_lt.2 (by omega))
    · exact .inl (cI_lt.2 (by omega))
  · rcases h2 with h2 | ⟨e2, h2⟩
    · rw [cI_lt] at h2; exact .inl (cI_lt.2 (by omega))
    · refine .inr ⟨by omega, ?_⟩
      rcases h1 with h1 | ⟨k1, h1⟩
      · rcases h2 with h2 | ⟨k2, h2⟩
        · exact .inl (cB_trans _ _ _ h1 h2)
        · rw [← k2]; exact .inl h1
      · rcases h2 with h2 | ⟨k2, h2⟩
        · rw [k1]; exact .inl h2
        · exact .inr ⟨k1.trans k2, by omega⟩
theorem cC_le_trans {a b c : Cel} (h1 : cmpC a b ≤ 0) (h2 : cmpC b c ≤ 0) : cmpC a c ≤ 0 := by
  rcases cC_range a b with r1 | r1 | r1
  · rcases cC_range b c with r2 | r2 | r2
    · rw [cC_trans r1 r2]; omega
    · rw [← cC_zero.1 r2, r1]; omega
    · omega
  · rw [cC_zero.1 r1]; exact h2
  · omega
section
variable {h0 h : H} {n m q : Nat} {a b c : Cel} {Q : Bool → H → Prop}
end
end Go.Proofs.Ytidpbnbjpglhfaa.V
namespace Go.Proofs.Ytidpbnbjpglhfaa.V
open Go
set_option linter.unusedVariables false
set_option linter.unusedSimpArgs false
section
variable {α : Type} (le : α → α → Bool)
/-- Lists asL one: the least head is told first, the first of them where several are. -/
def mAll (Ls : List (List α)) : List α := Ls.foldr (fun l m => List.merge l m le) []
variable {le}
theorem merge_nil (m : List α) : List.merge [] m le = m := by simp [List.merge]
theorem merge_nil' (l : List α) : List.merge l [] le = l := by cases l <;> simp [List.merge]
theorem merge_cons (x y : α) (l m : List α) : List.merge (x :: l) (y :: m) le = if le x y then x :: List.merge l (y :: m) le else y :: List.merge (x :: l) m le := by
  rw [List.merge]
theorem mAll_head : ∀ {Ls : List (List α)} {y : α} {r : List α}, mAll le Ls = y :: r → ∃ (j : Nat) (t : List α), Ls[j]? = some (y :: t)
  | [], y, r, h => by simp [mAll] at h
  | l :: Ls, y, r, h => by
    have hm : List.merge l (mAll le Ls) le = y :: r := h
    cases l with
    | nil =>
      rw [merge_nil] at hm
      obtain ⟨j, t, hj⟩ := mAll_head hm
      exact ⟨j + 1, t, by simpa using hj⟩
    | cons a l =>
      cases hq : mAll le Ls with
      | nil =>
        rw [hq, merge_nil'] at hm
        cases hm
        exact ⟨0, _, rfl⟩
      | cons b m =>
        rw [hq, merge_cons] at hm
        split at hm
        · cases hm; exact ⟨0, _, rfl⟩
        · cases hm
          obtain ⟨j, t, hj⟩ := mAll_head hq
          exact ⟨j + 1, t, by simpa using hj⟩
theorem mAll_none : ∀ {Ls : List (List α)}, (∀ l ∈ Ls, l = []) → mAll le Ls = []
  | [], _ => rfl
  | l :: Ls, h => by
    have h1 := h l (by simp)
    subst h1
    show List.merge [] (mAll le Ls) le = []
    rw [mAll_none fun l hl => h l (by simp [hl])]
    exact merge_nil _
/-- The head that is picked: no list ahead has one asL small, none behind a smaller one. -/
theorem mAll_pick : ∀ {Ls : List (List α)} {k : Nat} {x : α} {t : List α}, Ls[k]? = some (x :: t) → (∀ (j : Nat) y s, j < k → Ls[j]? = some (y :: s) → le y x = false) → (∀ (j : Nat) y s, k < j → Ls[j]? = some (y :: s) → le x y = true) →
    mAll le Ls = x :: mAll le (Ls.set k t)
  | [], k, x, t, h, _, _ => by simp at h
  | l :: Ls, 0, x, t, h, _, h2 => by
    simp at h
    subst h
    show List.merge (x :: t) (mAll le Ls) le = x :: List.merge t (mAll le Ls) le
    cases hq : mAll le Ls with
    | nil => rw [merge_nil', merge_nil']
    | cons y r =>
      obtain ⟨j, s, hj⟩ := mAll_head hq
      rw [merge_cons, if_pos (h2 (j + 1) y s (by omega) (by simpa using hj))]
  | l :: Ls, k + 1, x, t, h, h1, h2 => by
    have ih := mAll_pick (Ls := Ls) (k := k) (x := x) (t := t) (by simpa using h) (fun j y s hj hy => h1 (j + 1) y s (by omega) (by simpa using hy)) (fun j y s hj hy => h2 (j + 1) y s (by omega) (by simpa using hy))
    show List.merge l (mAll le Ls) le = x :: List.merge l (mAll le (Ls.set k t)) le
    rw [ih]
    cases l with
    | nil => rw [merge_nil, merge_nil]
    | cons y s =>
      rw [merge_cons, if_neg (by rw [h1 0 y s (by omega) rfl]; simp)]
end
section
variable {α : Type} [Inhabited α]
abbrev g (A : List α) (i : Nat) : α := A.getD i default
def swp (A : List α) (i j : Nat) : List α := (A.set i (g A j)).set j (g A i)
theorem swp_len (A : List α) (i j : Nat) : (swp A i j).length = A.length := by simp [swp]
theorem g_set {A : List α} {i j : Nat} {x : α} (h : i < A.length) : g (A.set i x) j = if i = j then x else g A j := by
  simp only [g, List.getD_eq_getElem?_getD, List.getElem?_set]
  by_cases e : i = j
  · subst e; simp [h]
  · simp [e]
theorem g_swp {A : List α} {i j k : Nat} (hi : i < A.length) (hj : j < A.length) : g (swp A i j) k = if k = j then g A i else if k = i then g A j else g A k := by
  unfold swp
  rw [g_set (by simpa using hj), g_set hi]
  by_cases e : j = k
  · subst e; simp
  · rw [if_neg e, if_neg (show ¬ k = j from fun h => e h.symm)]
    by_cases e2 : i = k
    · rw [if_pos e2, if_pos e2.symm]
    · rw [if_neg e2, if_neg (show ¬ k = i from fun h => e2 h.symm)]
theorem swp_perm {A : List α} {i j : Nat} (hi : i < A.length) (hj : j < A.length) : (swp A i j).Perm A := by
  have e1 : g A j = A[j] := by simp [g, List.getD_eq_getElem?_getD, hj]
  have e2 : g A i = A[i] := by simp [g, List.getD_eq_getElem?_getD, hi]
  unfold swp
  rw [e1, e2]
  exact List.set_set_perm hi hj
variable (lt : α → α → Bool)
/-- An element that is too great is let down: Go's heap.down. -/
def dn : Nat → List α → Nat → Nat → List α × Nat
  | 0, A, n, i => (A, i)
  | m + 1, A, n, i =>
    if n ≤ 2 * i + 1 then (A, i)
    else if lt (g A (if 2 * i + 2 < n ∧ lt (g A (2 * i + 2)) (g A (2 * i + 1)) = true then 2 * i + 2 else 2 * i + 1)) (g A i) = true then
      dn m (swp A i (if 2 * i + 2 < n ∧ lt (g A (2 * i + 2)) (g A (2 * i + 1)) = true then 2 * i + 2 else 2 * i + 1)) n (if 2 * i + 2 < n ∧ lt (g A (2 * i + 2)) (g A (2 * i + 1)) = true then 2 * i + 2 else 2 * i + 1)
    else (A, i)
/-- From s on, no child is smaller than its parent. -/
def HP (A : List α) (n s : Nat) : Prop := ∀ c, 0 < c → c < n → s ≤ (c - 1) / 2 → lt (g A c) (g A ((c - 1) / 2)) = false
structure Ord : Prop where
  asym : ∀ a b, lt a b = true → lt b a = false
  trans : ∀ a b c, lt b a = false → lt c b = false → lt c a = false
variable {lt}
theorem dn_law (o : Ord lt) : ∀ (m : Nat) (A : List α) (n i s : Nat), n ≤ A.length → i < n → s ≤ i → n - i ≤ m →
    (∀ c, 0 < c → c < n → s ≤ (c - 1) / 2 → (c - 1) / 2 ≠ i → lt (g A c) (g A ((c - 1) / 2)) = false) →
    (∀ c, 0 < c → c < n → (c - 1) / 2 = i → 0 < i → s ≤ (i - 1) / 2 → lt (g A c) (g A ((i - 1) / 2)) = false) →
    HP lt (dn lt m A n i).1 n s ∧ (dn lt m A n i).1.Perm A ∧ (dn lt m A n i).1.length = A.length ∧ ∀ k, n ≤ k → g (dn lt m A n i).1 k = g A k
  | 0, A, n, i, s, hn, hi, hs, hm, h1, h2 => by omega
  | m + 1, A, n, i, s, hn, hi, hs, hm, h1, h2 => by
    unfold dn
    by_cases hl : n ≤ 2 * i + 1
    · rw [if_pos hl]
      exact ⟨fun c c0 cn cs => h1 c c0 cn cs (by omega), .refl _, rfl, fun _ _ => rfl⟩
    · rw [if_neg hl]
      generalize hj : (if 2 * i + 2 < n ∧ lt (g A (2 * i + 2)) (g A (2 * i + 1)) = true then 2 * i + 2 else 2 * i + 1) = j
      have hj2 : (j = 2 * i + 1 ∨ j = 2 * i + 2) ∧ j < n ∧ (∀ c, (c = 2 * i + 1 ∨ c = 2 * i + 2) → c < n → lt (g A c) (g A j) = false) := by
        have irr : ∀ a, lt a a = false := fun a => by
          cases h : lt a a with
          | false => rfl
          | true => have := o.asym a a h; rw [h] at this; cases this
        split at hj
        · rename_i h
          subst hj
          refine ⟨.inr rfl, h.1, fun c hc hcn => ?_⟩
          rcases hc with rfl | rfl
          · exact o.asym _ _ h.2
          · exact irr _
        · rename_i h
          subst hj
          refine ⟨.inl rfl, by omega, fun c hc hcn => ?_⟩
          rcases hc with rfl | rfl
          · exact irr _
          · cases h2 : lt (g A (2 * i + 2)) (g A (2 * i + 1)) with
            | false => rfl
            | true => exact absurd ⟨hcn, h2⟩ h
      obtain ⟨ja, jb, jc⟩ := hj2
      have jp : (j - 1) / 2 = i := by omega
      by_cases ht : lt (g A j) (g A i) = true
      · rw [if_pos ht]
        have hiA : i < A.length := by omega
        have hjA : j < A.length := by omega
        have gs : ∀ k, g (swp A i j) k = if k = j then g A i else if k = i then g A j else g A k := fun k => g_swp hiA hjA
        obtain ⟨r1, r2, r3, r4⟩ := dn_law o m (swp A i j) n j s (by rw [swp_len]; exact hn) jb (by omega) (by omega) (fun c c0 cn cs cp => by
          rw [gs, gs, if_neg (fun h => by subst h; omega : ¬ (c - 1) / 2 = j)]
          by_cases e1 : c = j
          · subst e1
            rw [if_pos rfl, if_pos jp]
            exact o.asym _ _ ht
          · rw [if_neg e1]
            by_cases e2 : c = i
            · subst e2
              rw [if_pos rfl, if_neg (by omega)]
              exact h2 j (by omega) jb jp c0 cs
            · rw [if_neg e2]
              by_cases e3 : (c - 1) / 2 = i
              · rw [if_pos e3]
                exact jc c (by omega) cn
              · rw [if_neg e3]
                exact h1 c c0 cn cs e3) (fun c c0 cn cp j0 js => by
          rw [gs, gs, if_neg (by omega), if_neg (by omega), jp, if_neg (by omega), if_pos rfl, ← cp]
          exact h1 c c0 cn (by omega) (by omega))
        exact ⟨r1, r2.trans (swp_perm hiA hjA), by rw [r3, swp_len], fun k hk => by rw [r4 k hk, gs, if_neg (by omega), if_neg (by omega)]⟩
      · rw [if_neg ht]
        have ht' : lt (g A j) (g A i) = false := by simpa using ht
        refine ⟨fun c c0 cn cs => ?_, .refl _, rfl, fun _ _ => rfl⟩
        by_cases e : (c - 1) / 2 = i
        · rw [e]
          exact o.trans _ _ _ ht' (jc c (by omega) cn)
        · exact h1 c c0 cn cs e
/-- The root is the least. -/
theorem hp_root (o : Ord lt) {A : List α} {n : Nat} (h : HP lt A n 0) : ∀ c, c < n → lt (g A c) (g A 0) = false := by
  intro c
  induction c using Nat.strongRecOn with
  | _ c ih =>
    intro hc
    by_cases h0 : c = 0
    · subst h0
      cases h : lt (g A 0) (g A 0) with
      | false => rfl
      | true => have := o.asym _ _ h; rw [h] at this; cases this
    · exact o.trans _ _ _ (ih ((c - 1) / 2) (by omega) (by omega)) (h c (by omega) hc (by omega))
end
end Go.Proofs.Ytidpbnbjpglhfaa.V
namespace Go.Proofs.Ytidpbnbjpglhfaa.V
open Go
set_option linter.unusedVariables false
set_option linter.unusedSimpArgs false
abbrev Rw8 := S_api_Row
abbrev cW (x : Rw8) : List Value := x.cells
theorem cW_len (x : Rw8) : (cW x).length = 7 := rfl
abbrev cF (x : S_merge_front) : List Value := x.cells
theorem cF_len (x : S_merge_front) : (cF x).length = 2 := rfl
/-- A front: its slice, its list's number; the rows that are read there. -/
structure Fr where
  f : S_merge_front
  R : List Rw8
instance : Inhabited S_api_Row := ⟨⟨⟨0, ⟨#[]⟩, 0⟩, ⟨0, 0, 0, 0⟩⟩⟩
instance : Inhabited Fr := ⟨⟨⟨⟨none, 0, 0⟩, 0⟩, []⟩⟩
def hdF (a : Fr) : Rw8 := a.R.headD default
def or2 (a b : Int) : Int := if a ≠ 0 then a else b
def ltF (a b : Fr) : Bool := decide (or2 (cmpC (hdF a).Cell (hdF b).Cell) (cmpI a.f.list b.f.list) < 0)
theorem cmpI_val (a b : Int) : (a < b ∧ cmpI a b = -1) ∨ (a = b ∧ cmpI a b = 0) ∨ (b < a ∧ cmpI a b = 1) := by
  unfold cmpI
  by_cases h1 : a < b
  · simp [h1]
  · by_cases h2 : b < a
    · right; right; simp [h1, h2]
    · right; left; simp [h1, h2]; omega
theorem ltF_iff {a b : Fr} : ltF a b = true ↔ cmpC (hdF a).Cell (hdF b).Cell = -1 ∨ (cmpC (hdF a).Cell (hdF b).Cell = 0 ∧ a.f.list < b.f.list) := by
  unfold ltF or2
  rw [decide_eq_true_eq]
  have h1 := cC_range (hdF a).Cell (hdF b).Cell
  have h2 := cmpI_val a.f.list b.f.list
  split
  · omega
  · omega
theorem ltF_ord : Ord ltF where
  asym a b h := by
    cases hb : ltF b a with
    | false => rfl
    | true =>
      rw [ltF_iff] at h hb
      have := cC_anti (hdF a).Cell (hdF b).Cell
      omega
  trans a b c h1 h2 := by
    cases hc : ltF c a with
    | false => rfl
    | true =>
      have n1 : ¬ ltF b a = true := by rw [h1]; simp
      have n2 : ¬ ltF c b = true := by rw [h2]; simp
      rw [ltF_iff] at n1 n2 hc
      have ra := cC_range (hdF b).Cell (hdF a).Cell
      have rb := cC_range (hdF c).Cell (hdF b).Cell
      have a1 := cC_anti (hdF b).Cell (hdF a).Cell
      have a2 := cC_anti (hdF c).Cell (hdF b).Cell
      have a3 := cC_anti (hdF c).Cell (hdF a).Cell
      have l1 : cmpC (hdF a).Cell (hdF b).Cell ≤ 0 := by omega
      have l2 : cmpC (hdF b).Cell (hdF c).Cell ≤ 0 := by omega
      have l3 := cC_le_trans l1 l2
      rcases hc with hc | ⟨hc, hl⟩
      · omega
      · have e1 : (hdF c).Cell = (hdF a).Cell := cC_zero.1 hc
        rw [e1] at rb a2 l2 n2
        by_cases hz : cmpC (hdF b).Cell (hdF a).Cell = 0
        · omega
        · omega
theorem add0 (a : Addr) : a.add 0 = a := by unfold Addr.add; simp
theorem Cells.pre {h : H} {a : Addr} {x y : List Value} (c : Cells h a (x ++ y)) : Cells h a x := fun i v hv => c i v (by rw [List.getElem?_append_left (List.getElem?_eq_some_iff.1 hv).1]; exact hv)
section
variable {h0 hk h h' : H} {n : Nat} {s : Sl} {G : List Fr}
theorem or2_spec {n : Nat} {a b : Int} {Q : Int → H → Prop} (bl : Blk h n #[.int .i64 a, .int .i64 b] 3) (k : Q (or2 a b) h) : F.cmp_Or_int ⟨some ⟨n, 0, none⟩, 2, 2⟩ h Q := by
  unfold F.cmp_Or_int
  unfold or2 at k
  refine ⟨3, ?_⟩
  have c0 : cellH h ⟨n, 0, none⟩ = some (.int .i64 a) := bl.cell rfl
  have c1 : cellH h ⟨n, 1, none⟩ = some (.int .i64 b) := bl.cell rfl
  unfold F.cmp_Or_int.l1
  refine ⟨fun _ => ?_, fun g => by simp at g⟩
  refine idxA_of (i := 0) rfl (by simp) rfl ?_
  rw [Nat.zero_mul, ldI_iff c0, bne_iff_ne, bne_eq_false_iff_eq]
  refine ⟨fun g => by rw [if_pos g] at k; exact k, fun g => ?_⟩
  rw [if_neg (by simpa using g)] at k
  rw [show IntKind.wrap .i64 (0 + 1) = ((1 : Nat) : Int) from by decide]
  unfold F.cmp_Or_int.l1
  refine ⟨fun _ => ?_, fun g => by simp at g⟩
  refine idxA_of (i := 1) rfl (by simp) rfl ?_
  rw [Nat.one_mul, ldI_iff c1, bne_iff_ne, bne_eq_false_iff_eq]
  refine ⟨fun g => k, fun g => ?_⟩
  rw [show IntKind.wrap .i64 (((1 : Nat) : Int) + 1) = ((2 : Nat) : Int) from by decide]
  unfold F.cmp_Or_int.l1
  refine ⟨fun g => by simp at g, fun _ => ?_⟩
  rw [g] at k; exact k
/-- What is kept: all slices but those of fronts. -/
structure Keep (hk h : H) : Prop where
  w : ∀ {r : Sl} {e : TypeId} {k : Nat} {cs : List Value}, Owns hk r e k cs → e ≠ tn_merge_front → e ≠ tn_merge_fronts → Owns h r e k cs
theorem Keep.refl (h : H) : Keep h h := ⟨fun w _ _ => w⟩
theorem own_ne {h : H} {s : Sl} {n : Nat} {cs : List Value} {k : Nat} {c : Array Value} {e e' : TypeId} (w : Owns h s e k cs) (b : Blk h n c e') (he : e ≠ e') : s.blk ≠ some n := fun hb => by
  obtain ⟨_, ⟨q1, q2, q3⟩ | ⟨b', c', q1, q2, _⟩⟩ := w
  · simp [Sl.blk, q1] at hb
  · simp [Sl.blk, q1] at hb
    subst hb
    unfold Blk at q2 b
    rw [q2] at b; cases b; exact he rfl
theorem Keep.ext {hk h h' : H} (k : Keep hk h) (e : Ext h h') : Keep hk h' := ⟨fun w h1 h2 => (k.w w h1 h2).ext e⟩
theorem Keep.blk {hk h h' : H} {n : Nat} {c : Array Value} {e' : TypeId} (k : Keep hk h) (o : Only (· = n) h h') (b : Blk h n c e') (he : e' = tn_merge_front ∨ e' = tn_merge_fronts) : Keep hk h' := ⟨fun w h1 h2 =>
  (k.w w h1 h2).only o fun y hy hf => own_ne (k.w w h1 h2) b (fun e => by rcases he with he | he; exact h1 (e.trans he); exact h2 (e.trans he)) (by rw [hy, hf])⟩
theorem Keep.own {hk h h' : H} {s : Sl} {m : Nat} {ds : List Value} (k : Keep hk h) (o : Only (fun b => s.blk = some b) h h') (ws : Owns h s tn_merge_front m ds) : Keep hk h' := ⟨fun w h1 h2 =>
  (k.w w h1 h2).only o fun y hy hf => by
    obtain ⟨_, ⟨q1, q2, q3⟩ | ⟨b', c', q1, q2, _⟩⟩ := ws
    · simp [Sl.blk, q1] at hf
    · simp [Sl.blk, q1] at hf
      subst hf
      exact own_ne (k.w w h1 h2) q2 h1 hy⟩
/-- The fronts, and what they read. -/
structure FS (h0 hk h : H) (n : Nat) (s : Sl) (G : List Fr) : Prop where
  var : Blk h n #[s.enc] tn_merge_fronts
  own : Owns h s tn_merge_front 2 ((G.map (·.f)).flatMap cF)
  mine : Mine h0 s
  lo : h0.size ≤ n
  ext : Ext h0 h
  rows : ∀ f ∈ G, f.R ≠ [] → Reads h0 f.f.rows 7 (f.R.flatMap cW)
  kp : Keep hk h
theorem g_mem {i : Nat} (hi : i < G.length) : G[i]? = some (g G i) := by simp [g, List.getD_eq_getElem?_getD, hi]
theorem FS.at (v : FS h0 hk h n s G) {i : Nat} (hi : i < G.length) {K : Addr → Prop} (k : ∀ a, Cells h a (cF (g G i).f) → K a) : idxA s (i : Int) 2 K := by
  obtain ⟨b, p1, p2⟩ := own_at cF_len (by omega) v.own (i := i) (x := (g G i).f) (by rw [List.getElem?_map, g_mem hi]; rfl)
  have hl := own_len cF_len (by omega) v.own
  rw [List.length_map] at hl
  exact idxA_of (i := i) p1 (by rw [hl]; exact hi) rfl (k _ p2)
theorem FS.e (v : FS h0 hk h n s G) (e : Ext h h') : FS h0 hk h' n s G := ⟨e.block v.var (fun f => f), v.own.ext e, v.mine, v.lo, v.ext.trans e, v.rows, v.kp.ext e⟩
theorem hd_cell (v : FS h0 hk h n s G) {i : Nat} (hi : i < G.length) (hne : (g G i).R ≠ []) {K : Cel → Prop} (k : K (hdF (g G i)).Cell) : idxA (g G i).f.rows 0 7 fun a => ld_S_api_Cell h (a.add 0) K := by
  have rd := v.rows _ (List.mem_of_getElem? (g_mem hi)) hne
  obtain ⟨x, t, hx⟩ : ∃ x t, (g G i).R = x :: t := by
    cases hR : (g G i).R with
    | nil => exact absurd hR hne
    | cons x t => exact ⟨x, t, rfl⟩
  have rd' := rd.only v.ext fun _ _ f => f
  rw [hx] at rd'
  obtain ⟨p, p1, p2, p3⟩ := rd_at cW_len (by omega) rd' (i := 0) (x := x) rfl
  have hl := rd_len cW_len (by omega) rd'
  refine idxR_of (i := 0) p1 (by rw [hl]; simp) rfl ?_
  rw [add0]
  have : hdF (g G i) = x := by unfold hdF; rw [hx]; rfl
  rw [this] at k
  exact ⟨x.Cell, Cells.pre p3, k⟩
theorem Less_spec {i j : Nat} {Q : Bool → H → Prop} (v : FS h0 hk h n s G) (hi : i < G.length) (hj : j < G.length) (ni : (g G i).R ≠ []) (nj : (g G j).R ≠ []) (k : ∀ h', Ext h h' → Q (ltF (g G i) (g G j)) h') : F.merge_fronts_Less s (i : Int) (j : Int) h Q := by
  unfold F.merge_fronts_Less
  have c0 : ∀ {a : Addr} {x : S_merge_front}, Cells h a (cF x) → cellH h (a.add 0) = some x.rows.enc := fun c => c 0 _ rfl
  have c1 : ∀ {a : Addr} {x : S_merge_front}, Cells h a (cF x) → cellH h (a.add 1) = some (.int .i64 x.list) := fun c => c 1 _ rfl
  refine v.at hi fun a1 d1 => (ldL_iff (c0 d1)).2 (hd_cell v hi ni (v.at hj fun a2 d2 => (ldL_iff (c0 d2)).2 (hd_cell v hj nj ?_)))
  refine v.at hi fun a3 d3 => (ldI_iff (c1 d3)).2 (v.at hj fun a4 d4 => (ldI_iff (c1 d4)).2 ?_)
  refine Compare_spec fun h1 e1 => ⟨e1.cell (c1 d4) (fun f => f), e1.cell (c1 d3) (fun f => f), cmpInt_spec ?_⟩
  refine newL_of fun m h2 hm b2 e2 s2 => or2_spec b2 (k h2 (e1.trans e2))
theorem Swap_spec {i j : Nat} {Q : H → Prop} (v : FS h0 hk h n s G) (hi : i < G.length) (hj : j < G.length) (k : ∀ h', FS h0 hk h' n s (swp G i j) → Q h') : F.merge_fronts_Swap s (i : Int) (j : Int) h Q := by
  unfold F.merge_fronts_Swap
  have hl := own_len cF_len (by omega) v.own
  rw [List.length_map] at hl
  refine v.at hj fun a1 d1 => ⟨_, d1, v.at hi fun a2 d2 => ⟨_, d2, ?_⟩⟩
  obtain ⟨b, p1, p2⟩ := own_at cF_len (by omega) v.own (i := i) (x := (g G i).f) (by rw [List.getElem?_map, g_mem hi]; rfl)
  refine idxA_of (i := i) p1 (by rw [hl]; exact hi) rfl ?_
  refine own_setAt (i := i) (x := (g G j).f) cF_len v.own p1 (by simpa using hi) fun h1 w1 o1 s1 => ?_
  refine idxA_of (i := j) p1 (by rw [hl]; exact hj) rfl ?_
  refine own_setAt (i := j) (x := (g G i).f) cF_len w1 p1 (by simpa using hj) fun h2 w2 o2 s2 => ?_
  have o : Only (fun b => s.blk = some b) h h2 := o1.trans o2 fun _ _ e => e
  have hnb : s.blk ≠ some n := fun hb => by
    obtain ⟨_, ⟨q1, _⟩ | ⟨b', c', q1, q2, _⟩⟩ := v.own
    · rw [q1] at p1; cases p1
    · simp [Sl.blk, q1] at hb
      subst hb
      have := v.var
      unfold Blk at q2 this
      rw [q2] at this; cases this
  refine k h2 ⟨o.block v.var hnb, ?_, v.mine, v.lo, v.ext.mine v.mine o, fun f hf => v.rows f ((swp_perm hi hj).mem_iff.1 hf), v.kp.own o v.own⟩
  have : (swp G i j).map (·.f) = (((G.map (·.f)).set i (g G j).f).set j (g G i).f) := by unfold swp; rw [List.map_set, List.map_set]
  rw [this]; exact w2
theorem FS.ldv (v : FS h0 hk h n s G) {K : Sl → Prop} (k : K s) : ldL h ⟨n, 0, none⟩ K := (ldL_iff (v.var.cell (i := 0) rfl)).2 k
theorem down_loop {n0 i0 : Nat} {Q : Bool → H → Prop} : ∀ (m i : Nat) (h : H) (G : List Fr), n0 ≤ G.length → n0 < 1000000 → i < 1000000 → n0 - i ≤ m → FS h0 hk h n s G → (∀ j, j < n0 → (g G j).R ≠ []) →
    (∀ h', FS h0 hk h' n s (dn ltF m G n0 i).1 → Q (decide ((((dn ltF m G n0 i).2 : Nat) : Int) > (i0 : Int))) h') →
    F.container_heap_down.l2 Q (m + 1) (some ⟨n, 0, none⟩) (i0 : Int) (n0 : Int) (i : Int) h := by
  intro m
  induction m with
  | zero =>
    intro i h G hn hn0 hi hm v ne k
    unfold F.container_heap_down.l2
    rw [w64 (n := 2 * (i : Int)) (by omega) (by omega), w64 (n := 2 * (i : Int) + 1) (by omega) (by omega)]
    refine ⟨fun _ => ?_, fun g => by simp at g; omega⟩
    unfold F.container_heap_down.j6 F.container_heap_down.j1
    refine ⟨fun _ => k h v, fun g => (by cases g)⟩
  | succ m ih =>
    intro i h G hn hn0 hi hm v ne k
    unfold F.container_heap_down.l2
    rw [w64 (n := 2 * (i : Int)) (by omega) (by omega), w64 (n := 2 * (i : Int) + 1) (by omega) (by omega)]
    unfold dn at k
    refine ⟨fun g1 => ?_, fun g1 => ?_⟩
    · rw [if_pos (by simp at g1; omega)] at k
      unfold F.container_heap_down.j6 F.container_heap_down.j1
      exact ⟨fun _ => k h v, fun g => (by cases g)⟩
    · have hlt : ¬ n0 ≤ 2 * i + 1 := by simp at g1; omega
      rw [if_neg hlt] at k
      rw [decide_eq_false (show ¬ 2 * (i : Int) + 1 < 0 by omega)]
      unfold F.container_heap_down.j6
      refine ⟨fun g => (by cases g), fun _ => ?_⟩
      unfold F.container_heap_down.j3
      rw [w64 (n := 2 * (i : Int) + 1 + 1) (by omega) (by omega)]
      have q1 : (2 * (i : Int) + 1) = ((2 * i + 1 : Nat) : Int) := by omega
      have q2 : (2 * (i : Int) + 1 + 1) = ((2 * i + 2 : Nat) : Int) := by omega
      rw [q2, q1]
      -- the lesser child
      have j4 : ∀ (j : Nat) (h : H), FS h0 hk h n s G → j < n0 → (if 2 * i + 2 < n0 ∧ ltF (g G (2 * i + 2)) (g G (2 * i + 1)) = true then 2 * i + 2 else 2 * i + 1) = j → F.container_heap_down.j4 Q (F.container_heap_down.l2 Q (m + 1)) (some ⟨n, 0, none⟩) (i0 : Int) (n0 : Int) (i : Int) (j : Int) h := by
        intro j h v hj hje
        rw [hje] at k
        have hji : j = 2 * i + 1 ∨ j = 2 * i + 2 := by rw [← hje]; split <;> omega
        unfold F.container_heap_down.j4
        refine ⟨_, rfl, v.ldv (Less_spec v (by omega) (by omega) (ne j hj) (ne i (by omega)) fun h1 e1 => ⟨fun g => ?_, fun g => ⟨_, rfl, ?_⟩⟩)⟩
        · rw [if_neg (by simpa using g)] at k
          unfold F.container_heap_down.j1
          exact k h1 (v.e e1)
        · rw [if_pos (by simpa using g)] at k
          have v1 := v.e e1
          refine v1.ldv (Swap_spec v1 (by omega) (by omega) fun h2 v2 => ?_)
          exact ih j h2 _ (by rw [swp_len]; exact hn) hn0 (by omega) (by omega) v2 (fun q hq => by
            rw [g_swp (by omega) (by omega)]
            split
            · exact ne i (by omega)
            · split
              · exact ne j hj
              · exact ne q hq) k
      have j5 : ∀ (b : Bool) (h : H), FS h0 hk h n s G → (b = decide (2 * i + 2 < n0 ∧ ltF (g G (2 * i + 2)) (g G (2 * i + 1)) = true)) → F.container_heap_down.j5 Q (F.container_heap_down.l2 Q (m + 1)) (some ⟨n, 0, none⟩) (i0 : Int) (n0 : Int) (i : Int) ((2 * i + 1 : Nat) : Int) ((2 * i + 2 : Nat) : Int) b h := by
        intro b h v hb
        unfold F.container_heap_down.j5
        refine ⟨fun g => ?_, fun g => ?_⟩
        · rw [hb] at g
          have hc := of_decide_eq_true g
          exact j4 _ h v hc.1 (if_pos hc)
        · rw [hb] at g
          have hc := of_decide_eq_false g
          exact j4 _ h v (by omega) (if_neg hc)
      refine ⟨fun gg => ⟨_, rfl, v.ldv ?_⟩, fun gg => j5 _ h v ?_⟩
      · have hc : 2 * i + 2 < n0 := by simp at gg; omega
        refine Less_spec v (by omega) (by omega) (ne _ hc) (ne _ (by omega)) fun h1 e1 => j5 _ h1 (v.e e1) ?_
        cases ltF (g G (2 * i + 2)) (g G (2 * i + 1)) <;> simp [hc]
      · have hc : ¬ 2 * i + 2 < n0 := by simp at gg; omega
        simp [hc]
theorem down_spec {n0 i0 : Nat} {Q : Bool → H → Prop} (v : FS h0 hk h n s G) (hn : n0 ≤ G.length) (hn0 : n0 < 1000000) (hi : i0 < 1000000) (ne : ∀ j, j < n0 → (g G j).R ≠ []) (k : ∀ h', FS h0 hk h' n s (dn ltF (n0 - i0) G n0 i0).1 → ∀ b, Q b h') :
    F.container_heap_down (some ⟨n, 0, none⟩) (i0 : Int) (n0 : Int) h Q := by
  unfold F.container_heap_down
  exact ⟨n0 - i0 + 1, down_loop (n0 - i0) i0 h G hn hn0 hi (Nat.le_refl _) v ne fun h' v' => k h' v' _⟩
end
end Go.Proofs.Ytidpbnbjpglhfaa.V
namespace Go.Proofs.Ytidpbnbjpglhfaa.V
open Go
set_option linter.unusedVariables false
set_option linter.unusedSimpArgs false
section
variable {h0 hk h h' : H} {n : Nat} {s : Sl} {G : List Fr}
/-- All of it is a heap. -/
abbrev Heap (G : List Fr) : Prop := HP ltF G G.length 0
theorem Init_loop {Q : H → Prop} : ∀ (m : Nat) (i : Nat) (h : H) (G : List Fr), G.length < 1000000 → i ≤ G.length / 2 → i < m → FS h0 hk h n s G → (∀ f ∈ G, f.R ≠ []) → HP ltF G G.length i →
    (∀ h' G', FS h0 hk h' n s G' → G'.Perm G → Heap G' → Q h') → F.container_heap_Init.l1 Q m (some ⟨n, 0, none⟩) (G.length : Int) ((i : Int) - 1) h := by
  intro m
  induction m with
  | zero => intro i h G _ _ hm; omega
  | succ m ih =>
    intro i h G hn hi hm v ne hp k
    unfold F.container_heap_Init.l1
    refine ⟨fun g => ?_, fun g => ?_⟩
    · have hi0 : 0 < i := by simp at g; omega
      have e1 : ((i : Int) - 1) = ((i - 1 : Nat) : Int) := by omega
      rw [e1]
      have law := dn_law ltF_ord (G.length - (i - 1)) G G.length (i - 1) (i - 1) (Nat.le_refl _) (by omega) (Nat.le_refl _) (Nat.le_refl _) (fun c c0 cn cs cp => hp c c0 cn (by omega)) (fun c c0 cn cp c1 c2 => by omega)
      refine down_spec v (Nat.le_refl _) hn (by omega) (fun j hj => ne _ (List.mem_of_getElem? (g_mem hj))) fun h1 v1 b => ?_
      rw [w64 (by omega) (by omega)]
      obtain ⟨r1, r2, r3, r4⟩ := law
      have := ih (i - 1) h1 (dn ltF (G.length - (i - 1)) G G.length (i - 1)).1 (by rw [r3]; exact hn) (by rw [r3]; omega) (by omega) v1 (fun f hf => ne f (r2.mem_iff.1 hf)) (by rw [r3]; exact r1) fun h' G' v' p' hp' => k h' G' v' (p'.trans r2) hp'
      rw [r3] at this
      exact this
    · have : i = 0 := by simp at g; omega
      subst this
      exact k h G v (.refl _) hp
theorem tdiv2 {a : Nat} : Int.tdiv (a : Int) 2 = ((a / 2 : Nat) : Int) := by
  rw [Int.tdiv_eq_ediv_of_nonneg (by omega)]; omega
theorem Init_spec {Q : H → Prop} (v : FS h0 hk h n s G) (ne : ∀ f ∈ G, f.R ≠ []) (hn : G.length < 1000000) (k : ∀ h' G', FS h0 hk h' n s G' → G'.Perm G → Heap G' → Q h') : F.container_heap_Init (some ⟨n, 0, none⟩) h Q := by
  unfold F.container_heap_Init
  refine ⟨_, rfl, v.ldv ?_⟩
  unfold F.merge_fronts_Len
  have hl := own_len cF_len (by omega) v.own
  rw [List.length_map] at hl
  rw [hl]
  refine ⟨by decide, G.length / 2 + 1, ?_⟩
  rw [tdiv2, w64 (n := ((G.length / 2 : Nat) : Int)) (by omega) (by omega), w64 (by omega) (by omega)]
  exact Init_loop (G.length / 2 + 1) (G.length / 2) h G hn (by omega) (by omega) v ne (fun c c0 cn cs => by omega) k
/-- The last one is taken off. -/
theorem Pop_method {Q : Value → H → Prop} (v : FS h0 hk h n s G) (hG : 0 < G.length) (hn : G.length < 1000000) (k : ∀ u h' s', FS h0 hk h' n s' G.dropLast → Q u h') : F.merge_fronts_Pop (some ⟨n, 0, none⟩) h Q := by
  unfold F.merge_fronts_Pop
  have hl := own_len cF_len (by omega) v.own
  rw [List.length_map] at hl
  refine ⟨_, rfl, v.ldv ?_⟩
  rw [hl, w64 (by omega) (by omega)]
  have e1 : ((G.length : Int) - 1) = ((G.length - 1 : Nat) : Int) := by omega
  rw [e1]
  refine v.at (by omega) fun a1 d1 => ⟨_, d1, ?_⟩
  refine new_of fun m h1 hm b1 x1 s1 => ?_
  refine stH_of b1 (by simp [S_merge_front.cells]) fun h2 b2 o2 s2 => ?_
  rw [writeA_all (by simp [S_merge_front.cells])] at b2
  have x2 : Ext h h2 := x1.step o2 fun y hy e => by omega
  have v2 := v.e x2
  have hcap : s.len ≤ s.cap ∧ s.cap ≤ maxLen ∧ ∃ b, s.ptr = some ⟨b, 0, none⟩ := by
    obtain ⟨_, ⟨q1, q2, q3⟩ | ⟨b', c', q1, q2, q3, q4, q5, q6⟩⟩ := v.own
    · omega
    · exact ⟨q4, q5, b', q1⟩
  refine ⟨slcut s 0 (G.length - 1) 2, ⟨by omega, by omega, by omega, by simp⟩, ⟨_, rfl, ?_⟩⟩
  refine stH_of v2.var (by simp) fun h3 b3 o3 s3 => ?_
  rw [writeA_all (by simp)] at b3
  have hmn : m ≠ n := by have := block_lt v.var; omega
  have b2' : Blk h3 m _ _ := o3.block b2 (fun e => hmn e)
  refine ⟨_, fun j u hu => by rw [add_lit, Nat.zero_add]; exact b2'.cell (by simpa using hu), ?_⟩
  have hnb : s.blk ≠ some n := fun hb => by
    obtain ⟨_, ⟨q1, q2, q3⟩ | ⟨b', c', q1, q2, _⟩⟩ := v2.own
    · simp [Sl.blk, q1] at hb
    · simp [Sl.blk, q1] at hb
      subst hb
      have := v2.var
      unfold Blk at q2 this
      rw [q2] at this; cases this
  have hb0 := hcap.2.2
  obtain ⟨b, hb⟩ := hb0
  have hcut : slcut s 0 (G.length - 1) 2 = ⟨some ⟨b, 0, none⟩, G.length - 1, s.cap⟩ := by
    unfold slcut
    rw [if_neg (by omega), hb]
    simp [add_lit]
  rw [hcut] at b3
  have w2 := v2.own
  refine k _ h3 _ ⟨b3, ?_, fun y hy => v.mine y (by simp [Sl.blk] at hy ⊢; simp [hb, hy]), v.lo, v2.ext.step o3 fun y hy e => by have := v.lo; omega, fun f hf => v.rows f (List.dropLast_subset _ hf), v2.kp.blk o3 v2.var (.inr rfl)⟩
  have w3 := w2.only o3 fun y hy e => hnb (by rw [← e]; exact hy)
  obtain ⟨r1, ⟨q1, q2, q3⟩ | ⟨b', c', q1, q2, q3, q4, q5, q6⟩⟩ := w3
  · omega
  · rw [hb] at q1
    cases q1
    have hfl : ((G.map (·.f)).flatMap cF).length = G.length * 2 := by rw [flat_len _ 2 cF_len]; simp
    have hdl : ((G.dropLast.map (·.f)).flatMap cF) = ((G.map (·.f)).flatMap cF).take ((G.length - 1) * 2) := by
      have hne : G ≠ [] := by intro e; subst e; simp at hG
      have hGs := List.dropLast_concat_getLast hne
      have hfd : ((G.dropLast.map (·.f)).flatMap cF).length = (G.length - 1) * 2 := by rw [flat_len _ 2 cF_len]; simp
      have e : ((G.map (·.f)).flatMap cF) = ((G.dropLast.map (·.f)).flatMap cF) ++ (([G.getLast hne].map (·.f)).flatMap cF) := by rw [← List.flatMap_append, ← List.map_append, hGs]
      rw [e, List.take_left' hfd]
    refine ⟨by rw [hdl]; simp [hfl], .inr ⟨b, c', rfl, q2, q3, by show G.length - 1 ≤ s.cap; omega, q5, ?_⟩⟩
    rw [hdl, List.length_take, hfl, Nat.min_eq_left (by omega)]
    rw [hfl] at q6
    rw [← q6, List.take_take, Nat.min_eq_left (by omega)]
theorem dropLast_g {A : List Fr} {c : Nat} (h : c < A.length - 1) : g A.dropLast c = g A c := by
  simp only [g, List.getD_eq_getElem?_getD]
  rw [List.getElem?_dropLast, if_pos h]
/-- The least one is taken off. -/
theorem Pop_spec {Q : Value → H → Prop} (v : FS h0 hk h n s G) (hG : 0 < G.length) (hn : G.length < 1000000) (hp : ∀ c, 0 < c → c < G.length → (c - 1) / 2 ≠ 0 → ltF (g G c) (g G ((c - 1) / 2)) = false) (ne : ∀ j, 0 < j → j < G.length → (g G j).R ≠ [])
    (k : ∀ u h' s' G', FS h0 hk h' n s' G' → (g G 0 :: G').Perm G → Heap G' → Q u h') : F.container_heap_Pop (some ⟨n, 0, none⟩) h Q := by
  unfold F.container_heap_Pop
  have hl := own_len cF_len (by omega) v.own
  rw [List.length_map] at hl
  refine ⟨_, rfl, v.ldv ?_⟩
  unfold F.merge_fronts_Len
  rw [hl]
  refine ⟨_, rfl, v.ldv ?_⟩
  rw [w64 (by omega) (by omega)]
  have e1 : ((G.length : Int) - 1) = ((G.length - 1 : Nat) : Int) := by omega
  rw [e1]
  have q0 : (0 : Int) = ((0 : Nat) : Int) := rfl
  rw [q0]
  refine Swap_spec v (by omega) (by omega) fun h1 v1 => ?_
  have hgs : ∀ k, g (swp G 0 (G.length - 1)) k = if k = G.length - 1 then g G 0 else if k = 0 then g G (G.length - 1) else g G k := fun k => g_swp (by omega) (by omega)
  have hsl := swp_len G 0 (G.length - 1)
  have key : ∀ (A : List Fr), A.length = G.length → A.Perm (swp G 0 (G.length - 1)) → (∀ c, G.length - 1 ≤ c → g A c = g (swp G 0 (G.length - 1)) c) → HP ltF A (G.length - 1) 0 → (g G 0 :: A.dropLast).Perm G ∧ Heap A.dropLast := by
    intro A hA hperm hback hhp
    constructor
    · have hne : A ≠ [] := by intro e; rw [e] at hA; simp at hA; omega
      have hlast : A.getLast hne = g G 0 := by
        have : g A (G.length - 1) = g G 0 := by rw [hback _ (Nat.le_refl _), hgs, if_pos rfl]
        rw [List.getLast_eq_getElem, ← this]
        simp [g, List.getD_eq_getElem?_getD, hA, hG]
        rw [List.getElem?_eq_getElem (by omega)]; rfl
      have h1 : (A.dropLast ++ [g G 0]).Perm G := by
        rw [← hlast, List.dropLast_concat_getLast hne]
        exact hperm.trans (swp_perm (by omega) (by omega))
      exact (List.perm_append_singleton _ _).symm.trans h1
    · intro c c0 cn cs
      rw [List.length_dropLast, hA] at cn
      rw [dropLast_g (by omega), dropLast_g (by omega)]
      exact hhp c c0 cn cs
  refine down_spec v1 (by omega) (by omega) (by omega) (fun j hj => by
    rw [hgs, if_neg (by omega)]
    split
    · exact ne _ (by omega) (by omega)
    · exact ne j (by omega) (by omega)) fun h2 v2 b => ?_
  by_cases h1n : G.length = 1
  · have hd : (dn ltF (G.length - 1 - 0) (swp G 0 (G.length - 1)) (G.length - 1) 0).1 = swp G 0 (G.length - 1) := by
      rw [h1n]; rfl
    rw [hd] at v2
    obtain ⟨r1, r2⟩ := key _ hsl (.refl _) (fun _ _ => rfl) (fun c c0 cn cs => by omega)
    exact Pop_method v2 (by omega) (by omega) fun u h3 s3 v3 => k u h3 s3 _ v3 r1 r2
  · obtain ⟨r1, r2, r3, r4⟩ := dn_law ltF_ord (G.length - 1 - 0) (swp G 0 (G.length - 1)) (G.length - 1) 0 0 (by omega) (by omega) (Nat.le_refl _) (by omega) (fun c c0 cn cs cp => by
      rw [hgs, hgs, if_neg (by omega), if_neg (by omega), if_neg (by omega), if_neg (by omega)]
      exact hp c c0 (by omega) cp) (fun c c0 cn cp c1 c2 => by omega)
    obtain ⟨t1, t2⟩ := key _ (by omega) r2 r4 r1
    exact Pop_method v2 (by omega) (by omega) fun u h3 s3 v3 => k u h3 s3 _ v3 t1 t2
/-- The root was changed. -/
theorem Fix_spec {Q : H → Prop} (v : FS h0 hk h n s G) (hG : 0 < G.length) (hn : G.length < 1000000) (ne : ∀ f ∈ G, f.R ≠ []) (h1 : ∀ c, 0 < c → c < G.length → (c - 1) / 2 ≠ 0 → ltF (g G c) (g G ((c - 1) / 2)) = false)
    (k : ∀ h' G', FS h0 hk h' n s G' → G'.Perm G → Heap G' → Q h') : F.container_heap_Fix (some ⟨n, 0, none⟩) 0 h Q := by
  unfold F.container_heap_Fix
  have hl := own_len cF_len (by omega) v.own
  rw [List.length_map] at hl
  refine ⟨_, rfl, v.ldv ?_⟩
  unfold F.merge_fronts_Len
  rw [hl]
  have q0 : (0 : Int) = ((0 : Nat) : Int) := rfl
  rw [q0]
  obtain ⟨r1, r2, r3, r4⟩ := dn_law ltF_ord (G.length - 0) G G.length 0 0 (Nat.le_refl _) hG (Nat.le_refl _) (by omega) (fun c c0 cn cs cp => h1 c c0 cn cp) (fun c c0 cn cp c1 c2 => by omega)
  refine down_spec v (Nat.le_refl _) hn (by omega) (fun j hj => ne _ (List.mem_of_getElem? (g_mem hj))) fun h2 v2 b => ?_
  have kk := k h2 _ v2 r2 (by unfold Heap; rw [r3]; exact r1)
  refine ⟨fun _ => ?_, fun _ => kk⟩
  unfold F.container_heap_up
  refine ⟨1, ?_⟩
  unfold F.container_heap_up.l1
  refine ⟨by decide, fun _ => ?_, fun g => absurd g (by decide)⟩
  unfold F.container_heap_up.j3
  exact ⟨fun _ => kk, fun g => (by cases g)⟩
end
end Go.Proofs.Ytidpbnbjpglhfaa.V
namespace Go.Proofs.Ytidpbnbjpglhfaa.V
open Go
set_option linter.unusedVariables false
set_option linter.unusedSimpArgs false
theorem el_fronts : El PP tn_merge_fronts tn_merge_front 2 32 (.agg (⟨(⟨none, 0, 0⟩ : Sl), 0⟩ : S_merge_front).cells.toArray) := ⟨Try.underlying86, ⟨Try.t88, by kernel_rfl, by kernel_rfl, by kernel_rfl, by kernel_rfl⟩, by kernel_rfl, by omega, by omega⟩
theorem tk_snoc {α : Type} {l : List α} {i : Nat} {x : α} (h : l[i]? = some x) : l.take (i + 1) = l.take i ++ [x] := by rw [List.take_add_one, h]; rfl
def leC (a b : Rw8) : Bool := decide (cmpC a.Cell b.Cell ≤ 0)
abbrev mR (Ls : List (List Rw8)) : List Rw8 := mAll leC Ls
/-- The fronts of lists, asL far asL they are gone. -/
structure GR (G : List Fr) (Rem : List (List Rw8)) : Prop where
  a : ∀ f ∈ G, ∃ k : Nat, f.f.list = (k : Int) ∧ Rem[k]? = some f.R ∧ f.R ≠ []
  b : ∀ (k : Nat) R, Rem[k]? = some R → R ≠ [] → ∃ f ∈ G, f.f.list = (k : Int) ∧ f.R = R
  nd : (G.map (·.f.list)).Nodup
  cap : ∀ f ∈ G, f.f.rows.len ≤ f.f.rows.cap
theorem GR.perm {G G' : List Fr} {Rem : List (List Rw8)} (r : GR G Rem) (p : G'.Perm G) : GR G' Rem :=
  ⟨fun f hf => r.a f (p.mem_iff.1 hf), fun k R h1 h2 => by obtain ⟨f, hf, h⟩ := r.b k R h1 h2; exact ⟨f, p.mem_iff.2 hf, h⟩, (p.map _).nodup_iff.2 r.nd, fun f hf => r.cap f (p.mem_iff.1 hf)⟩
theorem GR.ne {G : List Fr} {Rem : List (List Rw8)} (r : GR G Rem) : ∀ f ∈ G, f.R ≠ [] := fun f hf => by obtain ⟨k, _, _, h⟩ := r.a f hf; exact h
/-- One list more. -/
theorem GR.snoc {G : List Fr} {Rem : List (List Rw8)} {s : Sl} {R : List Rw8} (r : GR G Rem) (hR : R ≠ []) (hc : s.len ≤ s.cap) : GR (G ++ [⟨⟨s, (Rem.length : Int)⟩, R⟩]) (Rem ++ [R]) := by
  refine ⟨fun f hf => ?_, fun k R' h1 h2 => ?_, ?_, fun f hf => ?_⟩
  · rcases List.mem_append.1 hf with hf | hf
    · obtain ⟨k, h1, h2, h3⟩ := r.a f hf
      exact ⟨k, h1, by rw [List.getElem?_append_left (List.getElem?_eq_some_iff.1 h2).1]; exact h2, h3⟩
    · simp at hf; subst hf
      exact ⟨Rem.length, rfl, by simp, hR⟩
  · by_cases hk : k < Rem.length
    · rw [List.getElem?_append_left hk] at h1
      obtain ⟨f, hf, h⟩ := r.b k R' h1 h2
      exact ⟨f, by simp [hf], h⟩
    · have hkl := (List.getElem?_eq_some_iff.1 h1).1
      simp at hkl
      have : k = Rem.length := by omega
      subst this
      simp at h1; subst h1
      exact ⟨⟨⟨s, (Rem.length : Int)⟩, R⟩, by simp, rfl, rfl⟩
  · rw [List.map_append, List.nodup_append]
    refine ⟨r.nd, by simp, fun a ha b hb => ?_⟩
    simp only [List.map_cons, List.map_nil, List.mem_singleton] at hb
    subst hb
    obtain ⟨f, hf, rfl⟩ := List.mem_map.1 ha
    obtain ⟨k, h1, h2, _⟩ := r.a f hf
    have := (List.getElem?_eq_some_iff.1 h2).1
    omega
  · rcases List.mem_append.1 hf with hf | hf
    · exact r.cap f hf
    · simp at hf; subst hf; exact hc
theorem GR.skip {G : List Fr} {Rem : List (List Rw8)} (r : GR G Rem) : GR G (Rem ++ [[]]) := by
  refine ⟨fun f hf => ?_, fun k R' h1 h2 => ?_, r.nd, r.cap⟩
  · obtain ⟨k, h1, h2, h3⟩ := r.a f hf
    exact ⟨k, h1, by rw [List.getElem?_append_left (List.getElem?_eq_some_iff.1 h2).1]; exact h2, h3⟩
  · by_cases hk : k < Rem.length
    · rw [List.getElem?_append_left hk] at h1
      exact r.b k R' h1 h2
    · have hkl := (List.getElem?_eq_some_iff.1 h1).1
      simp at hkl
      have : k = Rem.length := by omega
      subst this
      simp at h1
      exact (h2 h1).elim
/-- The root tells the least row. -/
theorem GR.pick {G : List Fr} {Rem : List (List Rw8)} (r : GR G Rem) (hG : 0 < G.length) (hp : Heap G) : ∃ (k : Nat) (x : Rw8) (t : List Rw8), (g G 0).f.list = (k : Int) ∧ Rem[k]? = some (x :: t) ∧ (g G 0).R = x :: t ∧ mR Rem = x :: mR (Rem.set k t) := by
  have hm := List.mem_of_getElem? (g_mem hG)
  obtain ⟨k, h1, h2, h3⟩ := r.a _ hm
  obtain ⟨x, t, hx⟩ : ∃ x t, (g G 0).R = x :: t := by
    cases hR : (g G 0).R with
    | nil => exact absurd hR h3
    | cons x t => exact ⟨x, t, rfl⟩
  have hroot := hp_root ltF_ord hp
  have other : ∀ (j : Nat) y s, Rem[j]? = some (y :: s) → ¬ (cmpC y.Cell x.Cell = -1 ∨ (cmpC y.Cell x.Cell = 0 ∧ (j : Int) < (k : Int))) := fun j y s hj hlt => by
    obtain ⟨f, hf, e1, e2⟩ := r.b j _ hj (by simp)
    obtain ⟨c, hc⟩ := List.mem_iff_getElem?.1 hf
    have hcl := (List.getElem?_eq_some_iff.1 hc).1
    have hgc : g G c = f := by
      have := g_mem hcl; rw [hc] at this; exact (Option.some.inj this).symm
    have := hroot c hcl
    rw [hgc] at this
    have hn : ¬ ltF f (g G 0) = true := by rw [this]; simp
    rw [ltF_iff, e1, h1] at hn
    have d1 : hdF f = y := by unfold hdF; rw [e2]; rfl
    have d2 : hdF (g G 0) = x := by unfold hdF; rw [hx]; rfl
    rw [d1, d2] at hn
    exact hn hlt
  refine ⟨k, x, t, h1, by rw [h2, hx], hx, mAll_pick (by rw [h2, hx]) (fun j y s hj hy => ?_) (fun j y s hj hy => ?_)⟩
  · have := other j y s hy
    have hr := cC_range y.Cell x.Cell
    unfold leC
    exact decide_eq_false (by omega)
  · have := other j y s hy
    have hr := cC_range y.Cell x.Cell
    have ha := cC_anti y.Cell x.Cell
    unfold leC
    exact decide_eq_true (by omega)
/-- The root's list is one row shorter. -/
theorem GR.turn {G : List Fr} {Rem : List (List Rw8)} {k : Nat} {x : Rw8} {t : List Rw8} {s : Sl} (r : GR G Rem) (hG : 0 < G.length) (h1 : (g G 0).f.list = (k : Int)) (h2 : Rem[k]? = some (x :: t)) (ht : t ≠ []) (hc : s.len ≤ s.cap) : GR (G.set 0 ⟨⟨s, (k : Int)⟩, t⟩) (Rem.set k t) := by
  have hkl := (List.getElem?_eq_some_iff.1 h2).1
  have hm0 := g_mem hG
  have uniq : ∀ c, c < G.length → (g G c).f.list = (k : Int) → c = 0 := fun c hc he => by
    have a1 : (G.map (·.f.list))[0]? = some (k : Int) := by rw [List.getElem?_map, hm0]; simp only [Option.map_some, h1]
    have a2 : (G.map (·.f.list))[c]? = some (k : Int) := by rw [List.getElem?_map, g_mem hc]; simp only [Option.map_some, he]
    exact ((List.getElem?_inj (by simpa using hc) r.nd).1 (a2.trans a1.symm))
  refine ⟨fun f hf => ?_, fun j R' g1 g2 => ?_, ?_, fun f hf => ?_⟩
  · obtain ⟨c, hc⟩ := List.mem_iff_getElem?.1 hf
    rw [List.getElem?_set] at hc
    by_cases e : 0 = c
    · rw [if_pos e, if_pos hG] at hc; cases hc
      exact ⟨k, rfl, by simp [hkl], ht⟩
    · rw [if_neg e] at hc
      have hcl := (List.getElem?_eq_some_iff.1 hc).1
      obtain ⟨j, q1, q2, q3⟩ := r.a f (List.mem_of_getElem? hc)
      have hgc : g G c = f := by have := g_mem hcl; rw [hc] at this; exact (Option.some.inj this).symm
      refine ⟨j, q1, ?_, q3⟩
      rw [List.getElem?_set, if_neg (fun e2 => e (uniq c hcl (by rw [hgc, q1, e2])).symm)]; exact q2
  · rw [List.getElem?_set] at g1
    by_cases e : k = j
    · subst e
      rw [if_pos rfl, if_pos hkl] at g1; cases g1
      exact ⟨_, List.mem_iff_getElem?.2 ⟨0, by rw [List.getElem?_set, if_pos rfl, if_pos hG]⟩, rfl, rfl⟩
    · rw [if_neg e] at g1
      obtain ⟨f, hf, q1, q2⟩ := r.b j R' g1 g2
      obtain ⟨c, hc⟩ := List.mem_iff_getElem?.1 hf
      have hcl := (List.getElem?_eq_some_iff.1 hc).1
      have hgc : g G c = f := by have := g_mem hcl; rw [hc] at this; exact (Option.some.inj this).symm
      refine ⟨f, List.mem_iff_getElem?.2 ⟨c, ?_⟩, q1, q2⟩
      rw [List.getElem?_set, if_neg (fun e2 => ?_)]
      · exact hc
      · subst e2; rw [hgc, q1] at h1; omega
  · have : (G.set 0 ⟨⟨s, (k : Int)⟩, t⟩).map (·.f.list) = G.map (·.f.list) := by
      rw [List.map_set]
      apply List.ext_getElem?; intro c
      rw [List.getElem?_set]
      by_cases e : 0 = c
      · subst e
        rw [if_pos rfl, if_pos (by simpa using hG), List.getElem?_map, hm0]; simp only [Option.map_some, h1]
      · rw [if_neg e]
    rw [this]; exact r.nd
  · rcases List.mem_or_eq_of_mem_set hf with hf | rfl
    · exact r.cap f hf
    · exact hc
/-- The root's list is at its end. -/
theorem GR.gone {G G' : List Fr} {Rem : List (List Rw8)} {k : Nat} {x : Rw8} {f0 : Fr} (r : GR G Rem) (hG : 0 < G.length) (h1 : (g G 0).f.list = (k : Int)) (h2 : Rem[k]? = some [x]) (p : (f0 :: G').Perm (G.set 0 f0)) : GR G' (Rem.set k []) := by
  have hkl := (List.getElem?_eq_some_iff.1 h2).1
  obtain ⟨a, G1, rfl⟩ : ∃ a G1, G = a :: G1 := by
    cases G with
    | nil => simp at hG
    | cons a G1 => exact ⟨a, G1, rfl⟩
  have hp : G'.Perm G1 := by
    have : (f0 :: G').Perm (f0 :: G1) := p
    exact this.cons_inv
  have h1' : a.f.list = (k : Int) := h1
  have nd := r.nd
  simp only [List.map_cons, List.nodup_cons] at nd
  have r1 : GR G1 (Rem.set k []) := by
    refine ⟨fun f hf => ?_, fun j R' g1 g2 => ?_, nd.2, fun f hf => r.cap f (by simp [hf])⟩
    · obtain ⟨j, q1, q2, q3⟩ := r.a f (by simp [hf])
      refine ⟨j, q1, ?_, q3⟩
      rw [List.getElem?_set, if_neg (fun e => nd.1 (List.mem_map.2 ⟨f, hf, by rw [q1, ← e, h1']⟩))]; exact q2
    · rw [List.getElem?_set] at g1
      by_cases e : k = j
      · subst e
        rw [if_pos rfl, if_pos hkl] at g1; cases g1
        exact absurd rfl g2
      · rw [if_neg e] at g1
        obtain ⟨f, hf, q1, q2⟩ := r.b j R' g1 g2
        rcases List.mem_cons.1 hf with rfl | hf
        · rw [h1'] at q1; omega
        · exact ⟨f, hf, q1, q2⟩
  exact r1.perm hp
theorem GR.nil {Rem : List (List Rw8)} (r : GR [] Rem) : mR Rem = [] := mAll_none fun l hl => by
  obtain ⟨k, hk⟩ := List.mem_iff_getElem?.1 hl
  cases hl2 : l with
  | nil => rfl
  | cons a t =>
    obtain ⟨f, hf, _⟩ := r.b k l hk (by rw [hl2]; simp)
    cases hf
end Go.Proofs.Ytidpbnbjpglhfaa.V
namespace Go.Proofs.Ytidpbnbjpglhfaa.V
open Go
set_option linter.unusedVariables false
set_option linter.unusedSimpArgs false
abbrev cS8 (s : Sl) : List Value := [s.enc]
theorem cS8_len (s : Sl) : (cS8 s).length = 1 := rfl
section
variable {h0 hk h h' : H} {n : Nat} {s : Sl} {G : List Fr}
/-- The fronts' slice is another, told by its variable. -/
theorem FS.put {hk2 : H} {s' : Sl} {G' : List Fr} {K : H → Prop} (v : FS h0 hk h n s G) (w : Owns h' s' tn_merge_front 2 ((G'.map (·.f)).flatMap cF)) (b : Blk h' n #[s.enc] tn_merge_fronts) (e : Ext h0 h') (m : Mine h0 s') (hr : ∀ f ∈ G', f.R ≠ [] → Reads h0 f.f.rows 7 (f.R.flatMap cW)) (kp : Keep hk2 h')
    (k : ∀ h2, FS h0 hk2 h2 n s' G' → Only (· = n) h' h2 → K h2) : stH h' ⟨n, 0, none⟩ [s'.enc] K := by
  refine stH_of b (by simp) fun h2 b2 o2 s2 => k h2 ⟨?_, w.only o2 fun y hy hf => own_ne w b (by decide) (by rw [hy, hf]), m, v.lo, e.step o2 fun y hy hf => by have := v.lo; omega, hr, kp.blk o2 b (.inr rfl)⟩ o2
  rw [writeA_all (by simp)] at b2; exact b2
theorem FS.re (v : FS h0 hk h n s G) : FS h0 h h n s G := ⟨v.var, v.own, v.mine, v.lo, v.ext, v.rows, .refl _⟩
theorem root_row (v : FS h0 hk h n s G) (hG : 0 < G.length) {x : Rw8} {t : List Rw8} (hx : (g G 0).R = x :: t) {K : Rw8 → Prop} (k : K x) : idxA (g G 0).f.rows 0 7 fun a => ld_S_api_Row h a K := by
  have rd := v.rows _ (List.mem_of_getElem? (g_mem hG)) (by rw [hx]; simp)
  have rd' := rd.only v.ext fun _ _ f => f
  rw [hx] at rd'
  obtain ⟨p, p1, p2, p3⟩ := rd_at cW_len (by omega) rd' (i := 0) (x := x) rfl
  have hl := rd_len cW_len (by omega) rd'
  exact idxR_of (i := 0) p1 (by rw [hl]; simp) rfl ⟨x, p3, k⟩
theorem Rows_main {n : Nat} {most : Int} {All : List Rw8} {Q : Sl → H → Prop} (hA : All.length < 100000)
    (k : ∀ r h', Owns h' r tn_api_Row 7 ((All.take most.toNat).flatMap cW) → Mine h0 r → Ext h0 h' → Q r h') : ∀ (d : Nat) (h : H) (s : Sl) (G : List Fr) (Rem : List (List Rw8)) (r : Sl) (out : List Rw8), (mR Rem).length < d → FS h0 h h n s G → G.length < 100000 → Heap G → GR G Rem →
    Owns h r tn_api_Row 7 (out.flatMap cW) → Mine h0 r → out ++ mR Rem = All → out.length ≤ most.toNat → F.merge_Rows.l2 Q d most ⟨n, 0, none⟩ r h := by
  intro d
  induction d with
  | zero => intro h s G Rem r out hm; omega
  | succ d ih =>
    intro h s G Rem r out hm v hGl hp gr w m hall hout
    have hl := own_len cF_len (by omega) v.own
    rw [List.length_map] at hl
    have hlr := own_len cW_len (by omega) w
    have hol : out.length ≤ All.length := by rw [← hall]; simp
    unfold F.merge_Rows.l2
    refine v.ldv ?_
    simp only [decide_eq_true_eq, decide_eq_false_iff_not]
    rw [hl]
    refine ⟨fun gg => ?_, fun gg => ?_⟩
    · have hG : 0 < G.length := by omega
      unfold F.merge_Rows.j4
      refine ⟨fun g2 => ?_, fun g2 => ?_⟩
      · have hlt : out.length < most.toNat := by rw [hlr] at g2; simp at g2; omega
        obtain ⟨kk, x, t, h1, h2, h3, h4⟩ := gr.pick hG hp
        have hkl := (List.getElem?_eq_some_iff.1 h2).1
        unfold F.merge_Rows.j3
        have c0 : ∀ {hh : H} {a : Addr} {y : S_merge_front}, Cells hh a (cF y) → cellH hh (a.add 0) = some y.rows.enc := fun c => c 0 _ rfl
        have q0 : (0 : Int) = ((0 : Nat) : Int) := rfl
        refine v.ldv ?_
        conv in idxA s 0 2 => rw [q0]
        refine v.at hG fun a1 d1 => (ldL_iff (c0 d1)).2 (root_row v hG h3 ?_)
        refine newL_of fun m1 h5 hm1 b5 e5 s5 => ?_
        have r5 : Reads h5 ⟨some ⟨m1, 0, none⟩, 1, 1⟩ 7 ([x].flatMap cW) := blk_reads (by simpa using b5) rfl
        refine app_list (L := out) (M := [x]) cW_len (by omega) el_Slapi_Row (w.ext e5) r5 (fun x => ones_S_api_Row x) (by simp only [List.length_singleton]; omega) fun r6 h6 w6 o6 n6 => ?_
        have hs5 := e5.size
        have m6 : Mine h0 r6 := fun y hy => by
          rcases n6 with n6 | ⟨b', n6, n7⟩
          · exact m y (by rw [← n6]; exact hy)
          · rw [n6] at hy; cases hy; have := v.ext.size; omega
        have e6 : Ext h0 h6 := (v.ext.trans e5).mine m o6
        have v5 := v.e e5
        have v6 : FS h0 h6 h6 n s G := ⟨o6.block v5.var (fun hb => own_ne (w.ext e5) v5.var (by decide) hb), v5.own.only o6 (fun y hy hb => by
          obtain ⟨_, ⟨q1, q2, q3⟩ | ⟨b', c', q1, q2, _⟩⟩ := v5.own
          · simp [Sl.blk, q1] at hy
          · simp [Sl.blk, q1] at hy
            subst hy
            exact own_ne (w.ext e5) q2 (by decide) hb), v.mine, v.lo, e6, v.rows, .refl _⟩
        refine v6.ldv (v6.ldv ?_)
        conv in idxA s 0 2 => rw [q0]
        refine v6.at hG fun a2 d2 => (ldL_iff (c0 d2)).2 ?_
        have hmem := List.mem_of_getElem? (g_mem hG)
        have rd0 := v.rows _ hmem (by rw [h3]; simp)
        have hrl := rd_len cW_len (by omega) rd0
        have hcap := gr.cap _ hmem
        refine cutL_of (lo := 1) (hi := (g G 0).f.rows.len) rfl rfl (by rw [hrl, h3]; simp) hcap ?_
        have rdc := cut_reads (lo := 1) (hi := (g G 0).f.rows.len) cW_len (by omega) rd0 (by rw [hrl, h3]; simp) (by rw [hrl]; exact Nat.le_refl _) hcap
        have hdrop : (((g G 0).R.drop 1).take ((g G 0).f.rows.len - 1)) = t := by
          rw [h3, hrl, h3]; simp
        rw [hdrop] at rdc
        have hcl : (slcut (g G 0).f.rows 1 (g G 0).f.rows.len 7).len = t.length := rd_len cW_len (by omega) rdc
        have hcc : (slcut (g G 0).f.rows 1 (g G 0).f.rows.len 7).len ≤ (slcut (g G 0).f.rows 1 (g G 0).f.rows.len 7).cap := by unfold slcut; simp only; omega
        generalize hsc : slcut (g G 0).f.rows 1 (g G 0).f.rows.len 7 = sc at rdc hcl hcc
        -- the root's rows are one less
        obtain ⟨b, p1, p2⟩ := own_at cF_len (by omega) v6.own (i := 0) (x := (g G 0).f) (by rw [List.getElem?_map, g_mem hG]; rfl)
        conv in idxA s 0 2 => rw [q0]
        refine idxA_of (i := 0) p1 (by rw [hl]; exact hG) rfl ?_
        rw [show ((⟨b, 0 * 2, none⟩ : Addr).add 0) = ⟨b, 0, none⟩ from by rw [add_lit]]
        have hfl : ((G.map (·.f)).flatMap cF).length = G.length * 2 := by rw [flat_len _ 2 cF_len]; simp
        refine own_set (o := 0) v6.own p1 (by rw [hfl]; simp; omega) fun h7 w7 o7 s7 => ?_
        have hset : ((G.map (·.f)).flatMap cF).take 0 ++ [sc.enc] ++ ((G.map (·.f)).flatMap cF).drop (0 + [sc.enc].length) = (((G.set 0 ⟨⟨sc, (kk : Int)⟩, t⟩).map (·.f)).flatMap cF) := by
          obtain ⟨a, G1, rfl⟩ : ∃ a G1, G = a :: G1 := by
            cases G with
            | nil => simp at hG
            | cons a G1 => exact ⟨a, G1, rfl⟩
          have h1' : a.f.list = (kk : Int) := h1
          simp [S_merge_front.cells, h1']
        rw [hset] at w7
        have hgs : ∀ c, g (G.set 0 ⟨⟨sc, (kk : Int)⟩, t⟩) c = if 0 = c then ⟨⟨sc, (kk : Int)⟩, t⟩ else g G c := fun c => g_set hG
        have v7 : FS h0 h7 h7 n s (G.set 0 ⟨⟨sc, (kk : Int)⟩, t⟩) := ⟨o7.block v6.var fun hb => own_ne v6.own v6.var (by decide) hb, w7, v.mine, v.lo, e6.mine v.mine o7, fun f hf hR => by
          rcases List.mem_or_eq_of_mem_set hf with hf | rfl
          · exact v.rows f hf hR
          · exact rdc, .refl _⟩
        have w6' : Owns h7 r6 tn_api_Row 7 ((out ++ [x]).flatMap cW) := w6.only o7 fun y hy hb => by
          obtain ⟨_, ⟨q1, q2, q3⟩ | ⟨b', c', q1, q2, _⟩⟩ := w6
          · simp [Sl.blk, q1] at hy
          · simp [Sl.blk, q1] at hy
            subst hy
            exact own_ne v6.own q2 (by decide) hb
        have hlen : (G.set 0 ⟨⟨sc, (kk : Int)⟩, t⟩).length = G.length := by simp
        refine v7.ldv ?_
        conv in idxA s 0 2 => rw [q0]
        refine v7.at (by rw [hlen]; exact hG) fun a3 d3 => ?_
        rw [hgs, if_pos rfl] at d3
        refine (ldL_iff (c0 d3)).2 ?_
        rw [hcl]
        have hrem : (mR (Rem.set kk t)).length < d := by rw [h4] at hm; simp at hm; omega
        have hall' : (out ++ [x]) ++ mR (Rem.set kk t) = All := by rw [List.append_assoc, List.singleton_append, ← h4]; exact hall
        have hp' : ∀ c, 0 < c → c < (G.set 0 ⟨⟨sc, (kk : Int)⟩, t⟩).length → (c - 1) / 2 ≠ 0 → ltF (g (G.set 0 ⟨⟨sc, (kk : Int)⟩, t⟩) c) (g (G.set 0 ⟨⟨sc, (kk : Int)⟩, t⟩) ((c - 1) / 2)) = false := fun c c0 cn cp => by
          rw [hgs, hgs, if_neg (by omega), if_neg (by omega)]
          exact hp c c0 (by rw [hlen] at cn; exact cn) (by omega)
        refine ⟨fun g3 => ?_, fun g3 => ?_⟩
        · have ht : t = [] := List.eq_nil_of_length_eq_zero (by simpa using g3)
          subst ht
          refine Pop_spec v7 (by rw [hlen]; exact hG) (by rw [hlen]; omega) hp' (fun j j0 jn => ?_) fun u h8 s8 G8 v8 p8 hp8 => ?_
          · rw [hgs, if_neg (by omega)]
            exact gr.ne _ (List.mem_of_getElem? (g_mem (by rw [hlen] at jn; exact jn)))
          · rw [hgs, if_pos rfl] at p8
            have gr8 := gr.gone hG h1 h2 p8
            have hl8 : G8.length + 1 = G.length := by have := p8.length_eq; simp at this; omega
            refine ih h8 s8 G8 (Rem.set kk []) r6 (out ++ [x]) hrem v8.re (by omega) hp8 gr8 (v8.kp.w w6' (by decide) (by decide)) m6 hall' (by simp; omega)
        · have ht : t ≠ [] := fun e => by subst e; simp at g3
          have gr7 := gr.turn hG h1 h2 ht hcc
          refine Fix_spec v7 (by rw [hlen]; exact hG) (by rw [hlen]; omega) gr7.ne hp' fun h8 G8 v8 p8 hp8 => ?_
          have hl8 : G8.length = G.length := by have := p8.length_eq; simp at this; omega
          refine ih h8 s G8 (Rem.set kk t) r6 (out ++ [x]) hrem v8.re (by omega) hp8 (gr7.perm p8) (v8.kp.w w6' (by decide) (by decide)) m6 hall' (by simp; omega)
      · have : out.length = most.toNat := by rw [hlr] at g2; simp at g2; omega
        refine k r h ?_ m v.ext
        rw [← hall, ← this, List.take_left']
        · exact w
        · rfl
    · have hG : G = [] := List.eq_nil_of_length_eq_zero (by omega)
      subst hG
      have hnil := gr.nil
      unfold F.merge_Rows.j4
      refine ⟨fun g2 => (by cases g2), fun _ => k r h ?_ m v.ext⟩
      rw [hnil, List.append_nil] at hall
      rw [← hall, List.take_of_length_le hout]; exact w
end
end Go.Proofs.Ytidpbnbjpglhfaa.V
namespace Go.Proofs.Ytidpbnbjpglhfaa.V
open Go
set_option linter.unusedVariables false
set_option linter.unusedSimpArgs false
theorem w64s {n : Nat} (h : n < 9000000000000000000) : IntKind.wrap .i64 ((n : Int) + 1) = ((n + 1 : Nat) : Int) := by rw [w64 (by omega) (by omega)]; omega
section
variable {h0 h h' : H}
/-- A table of slices, each of rows. -/
structure TB (h : H) (p : Sl) (ss : List Sl) (Ls : List (List Rw8)) : Prop where
  tb : Reads h p 1 (ss.flatMap cS8)
  len : ss.length = Ls.length
  row : ∀ (i : Nat) s R, ss[i]? = some s → Ls[i]? = some R → Reads h s 7 (R.flatMap cW) ∧ s.len ≤ s.cap
theorem TB.at {p : Sl} {ss : List Sl} {Ls : List (List Rw8)} (t : TB h0 p ss Ls) (e : Ext h0 h) {i : Nat} {s : Sl} (hs : ss[i]? = some s) {K : Sl → Prop} (k : K s) : idxA p (i : Int) 1 fun a => ldL h a K := by
  obtain ⟨q, r1, r2, r3⟩ := rd_at cS8_len (by omega) (t.tb.only e fun _ _ f => f) hs
  have hl := rd_len cS8_len (by omega) t.tb
  exact idxR_of (i := i) r1 (by have := (List.getElem?_eq_some_iff.1 hs).1; omega) rfl ((ldL_iff r3.one).2 k)
theorem Rows_spec {most : Int} {p1 : Sl} {ss : List Sl} {Ls : List (List Rw8)} {Q : Sl → H → Prop} (t : TB h p1 ss Ls) (hs : ss.length < 90000) (hn : (mR Ls).length < 100000)
    (k : ∀ r h', Owns h' r tn_api_Row 7 (((mR Ls).take most.toNat).flatMap cW) → Mine h r → Ext h h' → Q r h') : F.merge_Rows most p1 h Q := by
  unfold F.merge_Rows
  have hl := rd_len cS8_len (by omega) t.tb
  refine new_of fun n h1 hn1 b1 e1 s1 => ⟨ss.length + 1, ?_⟩
  rw [hl]
  have key : ∀ (d i : Nat) (h' : H) (s : Sl) (G : List Fr), i ≤ ss.length → ss.length - i < d → FS h h' h' n s G → GR G (Ls.take i) → G.length ≤ i → F.merge_Rows.l1 Q d most ⟨n, 0, none⟩ p1 (ss.length : Int) (i : Int) h' := by
    intro d
    induction d with
    | zero => intro i h' s G _ hm; omega
    | succ d ih =>
      intro i h' s G hi hm v gr hGi
      have hlG := own_len cF_len (by omega) v.own
      rw [List.length_map] at hlG
      unfold F.merge_Rows.l1
      simp only [decide_eq_true_eq, decide_eq_false_iff_not]
      refine ⟨fun gg => ?_, fun gg => ?_⟩
      · obtain ⟨sl, hsl⟩ : ∃ sl, ss[i]? = some sl := ⟨_, List.getElem?_eq_getElem (by omega)⟩
        obtain ⟨R, hR⟩ : ∃ R, Ls[i]? = some R := ⟨_, List.getElem?_eq_getElem (by have := t.len; omega)⟩
        obtain ⟨rd, hcap⟩ := t.row i sl R hsl hR
        have hlr := rd_len cW_len (by omega) rd
        have hli : (Ls.take i).length = i := by have := t.len; rw [List.length_take]; omega
        refine t.at v.ext hsl ?_
        refine ⟨fun g2 => v.ldv ?_, fun g2 => ?_⟩
        · have hRn : R ≠ [] := fun e => by subst e; rw [hlr] at g2; simp at g2
          refine newL_of fun m2 h2 hm2 b2 e2 s2 => ?_
          have r2 : Reads h2 ⟨some ⟨m2, 0, none⟩, 1, 1⟩ 2 ([(⟨sl, (i : Int)⟩ : S_merge_front)].flatMap cF) := blk_reads (by simpa using b2) rfl
          have v2 := v.e e2
          refine app_list (L := G.map (·.f)) (M := [⟨sl, (i : Int)⟩]) cF_len (by omega) el_fronts v2.own r2 (fun x => ones_S_merge_front x) (by simp only [List.length_singleton, List.length_map]; omega) fun r3 h3 w3 o3 n3 => ?_
          have m3 : Mine h r3 := fun y hy => by
            rcases n3 with n3 | ⟨b', n3, n4⟩
            · exact v.mine y (by rw [← n3]; exact hy)
            · rw [n3] at hy; cases hy; have := v2.ext.size; omega
          have e3 : Ext h h3 := v2.ext.mine v2.mine o3
          have b3 : Blk h3 n #[s.enc] tn_merge_fronts := o3.block v2.var fun hb => own_ne v2.own v2.var (by decide) hb
          have gr' := gr.snoc (s := sl) hRn hcap
          rw [← tk_snoc hR, hli] at gr'
          refine FS.put (hk2 := h3) (G' := G ++ [⟨⟨sl, (i : Int)⟩, R⟩]) v2 (by rw [List.map_append]; exact w3) b3 e3 m3 (fun f hf hfr => ?_) (.refl _) fun h4 v4 o4 => ?_
          · rcases List.mem_append.1 hf with hf | hf
            · exact v.rows f hf hfr
            · rw [List.mem_singleton] at hf; subst hf; exact rd
          · rw [w64s (by omega)]
            exact ih (i + 1) h4 r3 _ (by omega) (by omega) v4.re gr' (by rw [List.length_append]; simp only [List.length_singleton]; omega)
        · have hRn : R = [] := by
            cases R with
            | nil => rfl
            | cons a b => rw [hlr] at g2; simp at g2
          subst hRn
          have gr' := gr.skip
          rw [← tk_snoc hR] at gr'
          rw [w64s (by omega)]
          exact ih (i + 1) h' s G (by omega) (by omega) v gr' (by omega)
      · have hiL : i = ss.length := by omega
        rw [hiL, t.len, List.take_length] at gr
        refine Init_spec v gr.ne (by omega) fun h2 G2 v2 p2 hp2 => ⟨(mR Ls).length + 1, ?_⟩
        have hl2 := p2.length_eq
        exact Rows_main (All := mR Ls) hn k _ h2 s G2 Ls _ [] (by omega) v2.re (by omega) hp2 (gr.perm p2) (by simpa using Owns.nil h2 tn_api_Row 7) (.nil _ _ _) rfl (by simp)
  exact key _ 0 h1 ⟨none, 0, 0⟩ [] (by omega) (by omega) ⟨b1, by simpa using Owns.nil h1 tn_merge_front 2, .nil _ _ _, by omega, e1, fun f hf => (by cases hf), .refl _⟩ ⟨fun f hf => (by cases hf), fun k R hk => (by simp at hk), .nil, fun f hf => (by cases hf)⟩ (by simp)
theorem row_eq {x y : Rw8} : ((((x.Cell.View == y.Cell.View) && ((x.Cell.Key.toList == y.Cell.Key.toList) && ((x.Cell.Start == y.Cell.Start) && true)))) && ((((x.Agg.Count == y.Agg.Count) && ((x.Agg.Sum == y.Agg.Sum) && ((x.Agg.Min == y.Agg.Min) && ((x.Agg.Max == y.Agg.Max) && true))))) && true)) = true ↔ x = y := by
  obtain ⟨⟨a1, ⟨⟨a2⟩⟩, a3⟩, ⟨a4, a5, a6, a7⟩⟩ := x
  obtain ⟨⟨b1, ⟨⟨b2⟩⟩, b3⟩, ⟨b4, b5, b6, b7⟩⟩ := y
  simp [toList_data, and_assoc]
theorem SameRows_spec {r s : Sl} {A C : List Rw8} {Q : Bool → H → Prop} (ra : Reads h r 7 (A.flatMap cW)) (rc : Reads h s 7 (C.flatMap cW)) (hs : A.length < 1000000) (kt : A = C → Q true h) (kf : A ≠ C → Q false h) : F.spatelaw2_SameRows r s h Q := by
  have la := rd_len cW_len (by omega) ra
  have lc := rd_len cW_len (by omega) rc
  unfold F.spatelaw2_SameRows
  rw [la, lc]
  refine ⟨fun gg => kf fun e => by rw [e] at gg; simp at gg, fun gg => ⟨A.length + 1, ?_⟩⟩
  have hl : A.length = C.length := by simp at gg; omega
  have key : ∀ (d i : Nat), i ≤ A.length → A.length - i < d → A.take i = C.take i → F.spatelaw2_SameRows.l1 Q d r s (i : Int) h := by
    intro d
    induction d with
    | zero => intro i _ hm; omega
    | succ d ih =>
      intro i hi hm he
      unfold F.spatelaw2_SameRows.l1
      simp only [decide_eq_true_eq, decide_eq_false_iff_not]
      rw [la]
      refine ⟨fun gg => ?_, fun gg => ?_⟩
      · obtain ⟨x, hx⟩ : ∃ x, A[i]? = some x := ⟨_, List.getElem?_eq_getElem (by omega)⟩
        obtain ⟨y, hy⟩ : ∃ y, C[i]? = some y := ⟨_, List.getElem?_eq_getElem (by omega)⟩
        obtain ⟨p, p1, p2, p3⟩ := rd_at cW_len (by omega) ra hx
        obtain ⟨q, q1, q2, q3⟩ := rd_at cW_len (by omega) rc hy
        refine idxR_of (i := i) p1 (by omega) rfl ⟨x, p3, idxR_of (i := i) q1 (by omega) rfl ⟨y, q3, ?_⟩⟩
        have hrow := row_eq (x := x) (y := y)
        refine ⟨fun g2 => kf fun e => ?_, fun g2 => ?_⟩
        · have : x = y := by rw [e] at hx; rw [hx] at hy; exact Option.some.inj hy
          rw [hrow.2 this] at g2; cases g2
        · have hxy : x = y := hrow.1 (by simpa using g2)
          rw [w64s (by omega)]
          refine ih (i + 1) (by omega) (by omega) ?_
          rw [tk_snoc hx, tk_snoc hy, he, hxy]
      · have : i = A.length := by omega
        subst this
        rw [List.take_length] at he
        exact kt (by rw [he, hl, List.take_length])
  exact key _ 0 (by omega) (by omega) (by simp)
end
end Go.Proofs.Ytidpbnbjpglhfaa.V
namespace Go.Proofs.Ytidpbnbjpglhfaa.V
open Go
set_option linter.unusedVariables false
set_option linter.unusedSimpArgs false
section
variable {h0 h h' : H}
/-- What is left of lists from places on. -/
def remL (Ls : List (List Rw8)) (at_ : List Nat) : List (List Rw8) := List.zipWith (fun R a => R.drop a) Ls at_
theorem rem_at {Ls : List (List Rw8)} {A : List Nat} {i : Nat} {R : List Rw8} {a : Nat} (h1 : Ls[i]? = some R) (h2 : A[i]? = some a) : (remL Ls A)[i]? = some (R.drop a) := by
  unfold remL; rw [List.getElem?_zipWith, h1, h2]
theorem rem_set {Ls : List (List Rw8)} {A : List Nat} {i : Nat} {R : List Rw8} {a : Nat} (h1 : Ls[i]? = some R) (h2 : A[i]? = some a) : remL Ls (A.set i (a + 1)) = (remL Ls A).set i (R.drop (a + 1)) := by
  apply List.ext_getElem?; intro j
  rw [List.getElem?_set]
  unfold remL
  rw [List.getElem?_zipWith, List.getElem?_zipWith, List.getElem?_set]
  have hil := (List.getElem?_eq_some_iff.1 h1).1
  have hia := (List.getElem?_eq_some_iff.1 h2).1
  by_cases e : i = j
  · subst e
    rw [if_pos rfl, if_pos rfl, if_pos hia, if_pos (by rw [List.length_zipWith]; omega), h1]
  · rw [if_neg e, if_neg e]
theorem drop_cons {R : List Rw8} {a : Nat} {x : Rw8} (h : R[a]? = some x) : R.drop a = x :: R.drop (a + 1) := by
  obtain ⟨hl, rfl⟩ := List.getElem?_eq_some_iff.1 h
  exact List.drop_eq_getElem_cons hl
/-- What has been picked among the lists ahead of i. -/
def Pk (Ls : List (List Rw8)) (A : List Nat) (i : Nat) (kk : Int) : Prop := (kk < 0 ∧ ∀ (j : Nat) R a, j < i → Ls[j]? = some R → A[j]? = some a → R.drop a = []) ∨
  (∃ (k : Nat) (R : List Rw8) (a : Nat) (x : Rw8), kk = (k : Int) ∧ k < i ∧ Ls[k]? = some R ∧ A[k]? = some a ∧ R[a]? = some x ∧
    (∀ (j : Nat) R' a' y, j < k → Ls[j]? = some R' → A[j]? = some a' → R'[a']? = some y → leC y x = false) ∧ (∀ (j : Nat) R' a' y, k < j → j < i → Ls[j]? = some R' → A[j]? = some a' → R'[a']? = some y → leC x y = true))
theorem mem_len : ∀ {Ls : List (List Rw8)} {R : List Rw8}, R ∈ Ls → R.length ≤ (mR Ls).length
  | [], _, h => by cases h
  | l :: Ls, R, h => by
    have e : (mR (l :: Ls)).length = l.length + (mR Ls).length := by
      show (List.merge l (mAll leC Ls) leC).length = _
      rw [List.length_merge]
    rcases List.mem_cons.1 h with rfl | h
    · omega
    · have := mem_len h; omega
abbrev nI (a : Nat) : List Value := cI (a : Int)
theorem RRows_spec {most : Int} {p1 : Sl} {ss : List Sl} {Ls : List (List Rw8)} {Q : Sl → H → Prop} (t : TB h p1 ss Ls) (hs : ss.length < 90000) (hn : (mR Ls).length < 100000)
    (k : ∀ r h', Owns h' r tn_api_Row 7 (((mR Ls).take most.toNat).flatMap cW) → Mine h r → Ext h h' → Q r h') : F.spateref8_Rows most p1 h Q := by
  unfold F.spateref8_Rows
  have hl := rd_len cS8_len (by omega) t.tb
  have htl := t.len
  rw [hl]
  refine make_of (n := ss.length) el_Slint (by omega) (by simp only [maxLen]; omega) fun b h1 hb w1 e1 => ⟨(mR Ls).length + 1, ?_⟩
  have mI : (madeCells (Value.int .i64 0).cells (ss.length * 1)).toList = (List.replicate ss.length 0).flatMap nI := by
    rw [Nat.mul_one]; exact (made_one _ _).trans (flat_replicate nI 0 _ rfl _).symm
  rw [mI] at w1
  have nI_len : ∀ a : Nat, (nI a).length = 1 := fun _ => rfl
  have key : ∀ (d : Nat) (h' : H) (A : List Nat) (r : Sl) (out : List Rw8), (mR (remL Ls A)).length < d → A.length = ss.length → (∀ (i : Nat) R a, Ls[i]? = some R → A[i]? = some a → a ≤ R.length) → Owns h' ⟨some ⟨b, 0, none⟩, ss.length, ss.length⟩ 3 1 (A.flatMap nI) →
      Owns h' r tn_api_Row 7 (out.flatMap cW) → Mine h r → Ext h h' → out ++ mR (remL Ls A) = mR Ls → out.length ≤ most.toNat → F.spateref8_Rows.l2 Q d most p1 r ⟨some ⟨b, 0, none⟩, ss.length, ss.length⟩ h' := by
    intro d
    induction d with
    | zero => intro h' A r out hm; omega
    | succ d ih =>
      intro h' A r out hm hA hAl wA w m e hall hout
      have hlr := own_len cW_len (by omega) w
      have hol : out.length ≤ (mR Ls).length := by rw [← hall]; simp
      unfold F.spateref8_Rows.l2
      simp only [decide_eq_true_eq, decide_eq_false_iff_not]
      rw [hlr]
      have fin : out = (mR Ls).take most.toNat → F.spateref8_Rows.j1 Q r h' := fun ho => by
        unfold F.spateref8_Rows.j1
        refine k r h' ?_ m e
        rw [← ho]; exact w
      refine ⟨fun gg => ⟨ss.length + 1, ?_⟩, fun gg => fin ?_⟩
      · have hlt : out.length < most.toNat := by omega
        -- the place in list i
        have atA : ∀ {hh : H} {i : Nat} {a : Nat} {K : Int → Prop}, Owns hh ⟨some ⟨b, 0, none⟩, ss.length, ss.length⟩ 3 1 (A.flatMap nI) → A[i]? = some a → K (a : Int) → idxA ⟨some ⟨b, 0, none⟩, ss.length, ss.length⟩ (i : Int) 1 fun q => ldI .i64 hh q K := fun {hh i a K} ww ha kk => by
          obtain ⟨b', p1', p2'⟩ := own_at nI_len (by omega) ww ha
          exact idxA_of (i := i) p1' (by show i < ss.length; have := (List.getElem?_eq_some_iff.1 ha).1; omega) rfl ((ldI_iff (n := (a : Int)) p2'.one).2 kk)
        have rowAt : ∀ {hh : H} {i a : Nat} {s : Sl} {R : List Rw8} {x : Rw8} {K : Rw8 → Prop}, Ext h hh → ss[i]? = some s → Ls[i]? = some R → R[a]? = some x → K x → idxA s (a : Int) 7 fun q => ld_S_api_Row hh q K := fun {hh i a s R x K} ee h1 h2 h3 kk => by
          obtain ⟨rd, _⟩ := t.row _ s R h1 h2
          obtain ⟨p, q1, q2, q3⟩ := rd_at cW_len (by omega) (rd.only ee fun _ _ f => f) h3
          have hll := rd_len cW_len (by omega) rd
          exact idxR_of (i := a) q1 (by have := (List.getElem?_eq_some_iff.1 h3).1; omega) rfl ⟨x, q3, kk⟩
        have celAt : ∀ {hh : H} {i a : Nat} {s : Sl} {R : List Rw8} {x : Rw8} {K : Cel → Prop}, Ext h hh → ss[i]? = some s → Ls[i]? = some R → R[a]? = some x → K x.Cell → idxA s (a : Int) 7 fun q => ld_S_api_Cell hh (q.add 0) K := fun {hh i a s R x K} ee h1 h2 h3 kk => by
          obtain ⟨rd, _⟩ := t.row _ s R h1 h2
          obtain ⟨p, q1, q2, q3⟩ := rd_at cW_len (by omega) (rd.only ee fun _ _ f => f) h3
          have hll := rd_len cW_len (by omega) rd
          exact idxR_of (i := a) q1 (by have := (List.getElem?_eq_some_iff.1 h3).1; omega) rfl (by rw [add0]; exact ⟨x.Cell, Cells.pre q3, kk⟩)
        -- what has been picked among the lists ahead of i
        have pick : ∀ (d2 i : Nat) (kk : Int) (h2 : H), i ≤ ss.length → ss.length - i < d2 → Pk Ls A i kk → Owns h2 ⟨some ⟨b, 0, none⟩, ss.length, ss.length⟩ 3 1 (A.flatMap nI) → Owns h2 r tn_api_Row 7 (out.flatMap cW) → Ext h h2 →
            F.spateref8_Rows.l3 Q (F.spateref8_Rows.l2 Q d) d2 most p1 r ⟨some ⟨b, 0, none⟩, ss.length, ss.length⟩ kk (i : Int) h2 := by
          intro d2
          induction d2 with
          | zero => intro i kk h2 _ hm2; omega
          | succ d2 ih2 =>
            intro i kk h2 hi hm2 hP wA2 w2 e2
            unfold F.spateref8_Rows.l3
            simp only [decide_eq_true_eq, decide_eq_false_iff_not]
            rw [hl]
            refine ⟨fun g2 => ?_, fun g2 => ?_⟩
            · obtain ⟨a, ha⟩ : ∃ a, A[i]? = some a := ⟨_, List.getElem?_eq_getElem (by omega)⟩
              obtain ⟨s, hss⟩ : ∃ s, ss[i]? = some s := ⟨_, List.getElem?_eq_getElem (by omega)⟩
              obtain ⟨R, hR⟩ : ∃ R, Ls[i]? = some R := ⟨_, List.getElem?_eq_getElem (by omega)⟩
              have hsl := rd_len cW_len (by omega) (t.row i s R hss hR).1
              have j5 : ∀ (bb : Bool) (h3 : H), Pk Ls A (i + 1) (if bb then (i : Int) else kk) → Owns h3 ⟨some ⟨b, 0, none⟩, ss.length, ss.length⟩ 3 1 (A.flatMap nI) → Owns h3 r tn_api_Row 7 (out.flatMap cW) → Ext h h3 →
                  F.spateref8_Rows.j5 Q (F.spateref8_Rows.l2 Q d) (F.spateref8_Rows.l3 Q (F.spateref8_Rows.l2 Q d) d2) most p1 r ⟨some ⟨b, 0, none⟩, ss.length, ss.length⟩ kk (i : Int) bb h3 := by
                intro bb h3 hP3 wA3 w3 e3
                unfold F.spateref8_Rows.j5 F.spateref8_Rows.j4
                rw [w64s (by omega)]
                refine ⟨fun g => ?_, fun g => ?_⟩
                · rw [g] at hP3; exact ih2 (i + 1) _ h3 (by omega) (by omega) hP3 wA3 w3 e3
                · rw [g] at hP3; exact ih2 (i + 1) _ h3 (by omega) (by omega) hP3 wA3 w3 e3
              refine atA wA2 ha (t.at e2 hss ?_)
              rw [hsl]
              refine ⟨fun g3 => ?_, fun g3 => j5 false h2 ?_ wA2 w2 e2⟩
              · obtain ⟨y, hy⟩ : ∃ y, R[a]? = some y := ⟨_, List.getElem?_eq_getElem (by omega)⟩
                refine ⟨fun g4 => j5 true h2 ?_ wA2 w2 e2, fun g4 => ?_⟩
                · rcases hP with ⟨_, hnone⟩ | ⟨k0, _, _, _, hk, _⟩
                  · refine Or.inr ⟨i, R, a, y, rfl, by omega, hR, ha, hy, fun j R' a' z hj h1 h2 h3 => ?_, fun j R' a' z hj hj2 h1 h2 h3 => by omega⟩
                    have := hnone j R' a' hj h1 h2
                    rw [drop_cons h3] at this; cases this
                  · omega
                · rcases hP with ⟨hneg, _⟩ | ⟨k0, R0, a0, x0, hk, hki, hR0, ha0, hx0, hbef, haft⟩
                  · omega
                  · obtain ⟨s0, hs0⟩ : ∃ s0, ss[k0]? = some s0 := ⟨_, List.getElem?_eq_getElem (by omega)⟩
                    subst hk
                    refine t.at e2 hss (atA wA2 ha (celAt e2 hss hR hy (t.at e2 hs0 (atA wA2 ha0 (celAt e2 hs0 hR0 hx0 ?_)))))
                    refine CompareR_spec fun h3 e3 => ?_
                    have hrng := cC_range y.Cell x0.Cell
                    have hanti := cC_anti y.Cell x0.Cell
                    refine j5 _ h3 ?_ (wA2.ext e3) (w2.ext e3) (e2.trans e3)
                    by_cases hc : cmpC y.Cell x0.Cell < 0
                    · rw [decide_eq_true hc, if_pos rfl]
                      refine Or.inr ⟨i, R, a, y, rfl, by omega, hR, ha, hy, fun j R' a' z hj h1 h2 h3 => ?_, fun j R' a' z hj hj2 h1 h2 h3 => by omega⟩
                      -- the earlier heads are greater than y
                      by_cases hjk : j = k0
                      · subst hjk
                        rw [hR0] at h1; cases h1; rw [ha0] at h2; cases h2; rw [hx0] at h3; cases h3
                        unfold leC; exact decide_eq_false (by omega)
                      · unfold leC
                        refine decide_eq_false fun hle => ?_
                        by_cases hlt2 : j < k0
                        · have := hbef j R' a' z hlt2 h1 h2 h3
                          unfold leC at this
                          have := of_decide_eq_false this
                          exact this (cC_le_trans hle (by omega))
                        · have := haft j R' a' z (by omega) hj h1 h2 h3
                          unfold leC at this
                          have h5 := of_decide_eq_true this
                          have := cC_le_trans h5 hle
                          omega
                    · rw [decide_eq_false hc, if_neg (by simp)]
                      refine Or.inr ⟨k0, R0, a0, x0, rfl, by omega, hR0, ha0, hx0, hbef, fun j R' a' z hj hj2 h1 h2 h3 => ?_⟩
                      by_cases hji : j = i
                      · subst hji
                        rw [hR] at h1; cases h1; rw [ha] at h2; cases h2; rw [hy] at h3; cases h3
                        unfold leC; exact decide_eq_true (by omega)
                      · exact haft j R' a' z hj (by omega) h1 h2 h3
              · rw [if_neg (by simp)]
                have hdr : R.drop a = [] := List.drop_of_length_le (by omega)
                have hno : R[a]? = none := List.getElem?_eq_none (by omega)
                rcases hP with ⟨hneg, hnone⟩ | ⟨k0, R0, a0, x0, hk, hki, hR0, ha0, hx0, hbef, haft⟩
                · refine Or.inl ⟨hneg, fun j R' a' hj h1 h2 => ?_⟩
                  by_cases hji : j = i
                  · subst hji
                    rw [hR] at h1; cases h1; rw [ha] at h2; cases h2; exact hdr
                  · exact hnone j R' a' (by omega) h1 h2
                · refine Or.inr ⟨k0, R0, a0, x0, hk, by omega, hR0, ha0, hx0, hbef, fun j R' a' z hj hj2 h1 h2 h3 => ?_⟩
                  by_cases hji : j = i
                  · subst hji
                    rw [hR] at h1; cases h1; rw [ha] at h2; cases h2; rw [hno] at h3; cases h3
                  · exact haft j R' a' z hj (by omega) h1 h2 h3
            · have hiL : i = ss.length := by omega
              subst hiL
              refine ⟨fun g3 => ?_, fun g3 => ?_⟩
              · rcases hP with ⟨_, hnone⟩ | ⟨k0, _, _, _, hk, _⟩
                · have hz : mR (remL Ls A) = [] := mAll_none fun l hll => by
                    obtain ⟨j, hj⟩ := List.mem_iff_getElem?.1 hll
                    have hjl := (List.getElem?_eq_some_iff.1 hj).1
                    unfold remL at hjl
                    rw [List.length_zipWith] at hjl
                    obtain ⟨R', hR'⟩ : ∃ R', Ls[j]? = some R' := ⟨_, List.getElem?_eq_getElem (by omega)⟩
                    obtain ⟨a', ha'⟩ : ∃ a', A[j]? = some a' := ⟨_, List.getElem?_eq_getElem (by omega)⟩
                    rw [rem_at hR' ha'] at hj
                    cases hj
                    exact hnone j R' a' (by omega) hR' ha'
                  rw [hz, List.append_nil] at hall
                  unfold F.spateref8_Rows.j1
                  refine k r h2 ?_ m e2
                  rw [← hall, List.take_of_length_le hout]; exact w2
                · omega
              · rcases hP with ⟨hneg, _⟩ | ⟨k0, R0, a0, x0, hk, hki, hR0, ha0, hx0, hbef, haft⟩
                · omega
                · subst hk
                  obtain ⟨s0, hs0⟩ : ∃ s0, ss[k0]? = some s0 := ⟨_, List.getElem?_eq_getElem (by omega)⟩
                  refine t.at e2 hs0 (atA wA2 ha0 (rowAt e2 hs0 hR0 hx0 ?_))
                  refine newL_of fun m1 h5 hm1 b5 e5 s5 => ?_
                  have r5 : Reads h5 ⟨some ⟨m1, 0, none⟩, 1, 1⟩ 7 ([x0].flatMap cW) := blk_reads (by simpa using b5) rfl
                  refine app_list (L := out) (M := [x0]) cW_len (by omega) el_Slapi_Row (w2.ext e5) r5 (fun x => ones_S_api_Row x) (by simp only [List.length_singleton]; omega) fun r6 h6 w6 o6 n6 => ?_
                  have m6 : Mine h r6 := fun y hy => by
                    rcases n6 with n6 | ⟨b', n6, n7⟩
                    · exact m y (by rw [← n6]; exact hy)
                    · rw [n6] at hy; cases hy; have := e2.size; have := e5.size; omega
                  have e6 : Ext h h6 := (e2.trans e5).mine m o6
                  have wA5 := wA2.ext e5
                  have wA6 : Owns h6 ⟨some ⟨b, 0, none⟩, ss.length, ss.length⟩ 3 1 (A.flatMap nI) := wA5.only o6 fun y hy hb2 => by
                    obtain ⟨_, ⟨q1, q2, q3⟩ | ⟨b', c', q1, q2, _⟩⟩ := wA5
                    · cases q1
                    · cases q1
                      simp [Sl.blk] at hy
                      subst hy
                      exact own_ne (w2.ext e5) q2 (by decide) hb2
                  refine atA wA6 ha0 ?_
                  have hal := (List.getElem?_eq_some_iff.1 ha0).1
                  have hRl := (List.getElem?_eq_some_iff.1 hx0).1
                  have hRn := rd_len cW_len (by omega) (t.row k0 s0 R0 hs0 hR0).1
                  refine idxA_of (i := k0) rfl (by show k0 < ss.length; omega) rfl ?_
                  have hbig : (a0 : Int) < 9000000000000000000 := by
                    have := mem_len (List.mem_of_getElem? hR0); omega
                  rw [w64s (by omega)]
                  refine own_setAt (i := k0) (x := a0 + 1) nI_len wA6 rfl hal fun h7 w7 o7 s7 => ?_
                  have hx1 : mR (remL Ls A) = x0 :: mR (remL Ls (A.set k0 (a0 + 1))) := by
                    rw [rem_set hR0 ha0]
                    have hd0 := drop_cons hx0
                    refine mAll_pick (by rw [rem_at hR0 ha0, hd0]) (fun j y s hj hy => ?_) (fun j y s hj hy => ?_)
                    · have hjl : j < Ls.length ∧ j < A.length := by omega
                      obtain ⟨R', hR'⟩ : ∃ R', Ls[j]? = some R' := ⟨_, List.getElem?_eq_getElem hjl.1⟩
                      obtain ⟨a', ha'⟩ : ∃ a', A[j]? = some a' := ⟨_, List.getElem?_eq_getElem hjl.2⟩
                      rw [rem_at hR' ha'] at hy
                      have hy1 : R'[a']? = some y := by
                        have : (R'.drop a')[0]? = some y := by rw [Option.some.inj hy]; rfl
                        rw [List.getElem?_drop] at this; exact this
                      exact hbef j R' a' y hj hR' ha' hy1
                    · have hjl0 := (List.getElem?_eq_some_iff.1 hy).1
                      unfold remL at hjl0
                      rw [List.length_zipWith] at hjl0
                      obtain ⟨R', hR'⟩ : ∃ R', Ls[j]? = some R' := ⟨_, List.getElem?_eq_getElem (by omega)⟩
                      obtain ⟨a', ha'⟩ : ∃ a', A[j]? = some a' := ⟨_, List.getElem?_eq_getElem (by omega)⟩
                      rw [rem_at hR' ha'] at hy
                      have hy1 : R'[a']? = some y := by
                        have : (R'.drop a')[0]? = some y := by rw [Option.some.inj hy]; rfl
                        rw [List.getElem?_drop] at this; exact this
                      exact haft j R' a' y hj (by omega) hR' ha' hy1
                  have w6' : Owns h7 r6 tn_api_Row 7 ((out ++ [x0]).flatMap cW) := w6.only o7 fun y hy hb2 => by
                    obtain ⟨_, ⟨q1, q2, q3⟩ | ⟨b', c', q1, q2, _⟩⟩ := w6
                    · simp [Sl.blk, q1] at hy
                    · simp [Sl.blk, q1] at hy
                      subst hy
                      exact own_ne wA6 q2 (by decide) hb2
                  refine ih h7 (A.set k0 (a0 + 1)) r6 (out ++ [x0]) (by rw [hx1] at hm; simp at hm; omega) (by simp [hA]) (fun i R a h1 h2 => ?_) w7 w6' m6 (e6.step o7 fun y hy hb2 => by simp [Sl.blk] at hb2; omega) (by rw [List.append_assoc, List.singleton_append, ← hx1]; exact hall) (by simp; omega)
                  rw [List.getElem?_set] at h2
                  by_cases e : k0 = i
                  · subst e
                    rw [if_pos rfl, if_pos hal] at h2; cases h2
                    rw [hR0] at h1; cases h1; omega
                  · rw [if_neg e] at h2
                    exact hAl i R a h1 h2
        exact pick _ 0 (-1) h' (by omega) (by omega) (Or.inl ⟨by omega, fun j R a hj => by omega⟩) wA w e
      · have : out.length = most.toNat := by omega
        rw [← hall, ← this, List.take_left' rfl]
  have hrem0 : remL Ls (List.replicate ss.length 0) = Ls := by
    apply List.ext_getElem?; intro j
    unfold remL
    rw [List.getElem?_zipWith, List.getElem?_replicate, htl]
    by_cases hj : j < Ls.length
    · rw [if_pos hj, List.getElem?_eq_getElem hj]; simp
    · rw [if_neg hj, List.getElem?_eq_none (by omega)]
  refine key _ h1 (List.replicate ss.length 0) _ [] (by rw [hrem0]; omega) (by simp) (fun i R a h1 h2 => ?_) w1 (by simpa using Owns.nil h1 tn_api_Row 7) (.nil _ _ _) e1 (by rw [hrem0]; rfl) (by simp)
  rw [List.getElem?_replicate] at h2
  split at h2
  · cases h2; omega
  · cases h2
end
end Go.Proofs.Ytidpbnbjpglhfaa.V
namespace Go.Proofs.Ytidpbnbjpglhfaa.V
open Go
set_option linter.unusedVariables false
set_option linter.unusedSimpArgs false
abbrev Up (L : List Int) : Prop := L.Pairwise (· ≤ ·)
abbrev SUp (L : List Int) : Prop := L.Pairwise (· < ·)
theorem sup_unique : ∀ (A B : List Int), SUp A → SUp B → (∀ x, x ∈ A ↔ x ∈ B) → A = B
  | [], [], _, _, _ => rfl
  | [], y :: b, _, _, h => by have := (h y).2 (by simp); cases this
  | x :: a, [], _, _, h => by have := (h x).1 (by simp); cases this
  | x :: a, y :: b, ha, hb, h => by
    have ha' := List.pairwise_cons.1 ha
    have hb' := List.pairwise_cons.1 hb
    have hxy : x = y := by
      have h1 := (h x).1 (by simp)
      have h2 := (h y).2 (by simp)
      rcases List.mem_cons.1 h1 with e | e
      · exact e
      · rcases List.mem_cons.1 h2 with e2 | e2
        · exact e2.symm
        · have := hb'.1 x e; have := ha'.1 y e2; omega
    subst hxy
    congr 1
    refine sup_unique a b ha'.2 hb'.2 fun z => ⟨fun hz => ?_, fun hz => ?_⟩
    · rcases List.mem_cons.1 ((h z).1 (List.mem_cons_of_mem _ hz)) with e | e
      · have := ha'.1 z hz; omega
      · exact e
    · rcases List.mem_cons.1 ((h z).2 (List.mem_cons_of_mem _ hz)) with e | e
      · have := hb'.1 z hz; omega
      · exact e
theorem addM_mem {out : List Int} {x z : Int} : z ∈ addM out x ↔ z ∈ out ∨ z = x := by
  unfold addM
  split
  · rename_i h
    have := List.mem_of_getLast? h
    constructor
    · exact .inl
    · rintro (h | h)
      · exact h
      · subst h; exact this
  · simp
theorem addM_sup {out : List Int} {x : Int} (h : SUp out) (hle : ∀ y ∈ out, y ≤ x) : SUp (addM out x) := by
  unfold addM
  split
  · exact h
  · rename_i hne
    refine List.pairwise_append.2 ⟨h, by simp, fun y hy z hz => ?_⟩
    simp at hz; subst hz
    have h1 := hle y hy
    have : y ≠ z := fun e => by
      subst e
      obtain ⟨v, hv⟩ : ∃ v, out.getLast? = some v := ⟨_, List.getLast?_eq_some_getLast (List.ne_nil_of_mem hy)⟩
      obtain ⟨l, hl⟩ := List.getLast?_eq_some_iff.1 hv
      have hvm := List.mem_of_getLast? hv
      have h2 := hle v hvm
      rw [hl] at hy h
      rcases List.mem_append.1 hy with hm | hm
      · have := (List.pairwise_append.1 h).2.2 y hm v (by simp); omega
      · simp at hm; subst hm; exact hne hv
    omega
theorem two_facts : ∀ (n : Nat) (out a b : List Int), a.length + b.length ≤ n → SUp out → Up a → Up b → (∀ x ∈ out, ∀ y ∈ a, x ≤ y) → (∀ x ∈ out, ∀ y ∈ b, x ≤ y) → SUp (twoM leI n out a b) ∧ ∀ z, z ∈ twoM leI n out a b ↔ z ∈ out ∨ z ∈ a ∨ z ∈ b
  | 0, out, a, b, hn, ho, _, _, _, _ => by
    have h1 : a = [] := List.eq_nil_of_length_eq_zero (by omega)
    have h2 : b = [] := List.eq_nil_of_length_eq_zero (by omega)
    subst h1; subst h2
    simp [twoM, ho]
  | n + 1, out, [], [], hn, ho, _, _, _, _ => by simp [twoM, ho]
  | n + 1, out, x :: a, [], hn, ho, ha, hb, h1, h2 => by
    have ha' := List.pairwise_cons.1 ha
    simp only [List.length_cons, List.length_nil] at hn
    have := two_facts n (addM out x) a [] (by simp; omega) (addM_sup ho fun y hy => h1 y hy x (by simp)) ha'.2 hb (fun y hy z hz => by
      rcases addM_mem.1 hy with h | h
      · exact h1 y h z (List.mem_cons_of_mem _ hz)
      · subst h; exact ha'.1 z hz) (fun y hy z hz => by cases hz)
    refine ⟨this.1, fun z => ?_⟩
    simp only [twoM]
    rw [this.2, addM_mem]; simp [or_assoc]
  | n + 1, out, [], y :: b, hn, ho, ha, hb, h1, h2 => by
    have hb' := List.pairwise_cons.1 hb
    simp only [List.length_cons, List.length_nil] at hn
    have := two_facts n (addM out y) [] b (by simp; omega) (addM_sup ho fun z hz => h2 z hz y (by simp)) ha hb'.2 (fun y hy z hz => by cases hz) (fun x hx z hz => by
      rcases addM_mem.1 hx with h | h
      · exact h2 x h z (List.mem_cons_of_mem _ hz)
      · subst h; exact hb'.1 z hz)
    refine ⟨this.1, fun z => ?_⟩
    simp only [twoM]
    rw [this.2, addM_mem]; simp [or_assoc]
  | n + 1, out, x :: a, y :: b, hn, ho, ha, hb, h1, h2 => by
    have ha' := List.pairwise_cons.1 ha
    have hb' := List.pairwise_cons.1 hb
    simp only [List.length_cons] at hn
    simp only [twoM]
    split
    · rename_i hle
      have hle : x ≤ y := by simpa using hle
      have := two_facts n (addM out x) a (y :: b) (by simp; omega) (addM_sup ho fun z hz => h1 z hz x (by simp)) ha'.2 hb (fun w hw z hz => by
        rcases addM_mem.1 hw with h | h
        · exact h1 w h z (List.mem_cons_of_mem _ hz)
        · subst h; exact ha'.1 z hz) (fun w hw z hz => by
        rcases addM_mem.1 hw with h | h
        · exact h2 w h z hz
        · subst h
          rcases List.mem_cons.1 hz with e | e
          · omega
          · have := hb'.1 z e; omega)
      refine ⟨this.1, fun z => ?_⟩
      rw [this.2, addM_mem]; simp only [List.mem_cons]; constructor
      · rintro ((h | h) | h | h | h) <;> simp [h]
      · rintro (h | (h | h) | h | h) <;> simp [h]
    · rename_i hle
      have hle : y < x := by simpa using hle
      have := two_facts n (addM out y) (x :: a) b (by simp; omega) (addM_sup ho fun z hz => h2 z hz y (by simp)) ha hb'.2 (fun w hw z hz => by
        rcases addM_mem.1 hw with h | h
        · exact h1 w h z hz
        · subst h
          rcases List.mem_cons.1 hz with e | e
          · omega
          · have := ha'.1 z e; omega) (fun w hw z hz => by
        rcases addM_mem.1 hw with h | h
        · exact h2 w h z (List.mem_cons_of_mem _ hz)
        · subst h; exact hb'.1 z hz)
      refine ⟨this.1, fun z => ?_⟩
      rw [this.2, addM_mem]; simp only [List.mem_cons]; constructor
      · rintro ((h | h) | (h | h) | h) <;> simp [h]
      · rintro (h | (h | h) | h | h) <;> simp [h]
theorem lists_facts : ∀ (n : Nat) (LL : List (List Int)), LL.length < n → (∀ A ∈ LL, Up A) → SUp (listsM leI n LL) ∧ ∀ z, z ∈ listsM leI n LL ↔ ∃ A ∈ LL, z ∈ A
  | 0, LL, hn, _ => by omega
  | n + 1, [], _, _ => by simp [listsM]
  | n + 1, [a], _, h => by
    have := two_facts a.length [] a [] (by simp) (by simp) (h a (by simp)) (by simp) (by simp) (by simp)
    refine ⟨this.1, fun z => ?_⟩
    simp only [listsM]
    rw [this.2]; simp
  | n + 1, a :: b :: r, hn, h => by
    simp only [List.length_cons] at hn
    have h1 := lists_facts n ((a :: b :: r).take ((a :: b :: r).length / 2)) (by simp; omega) fun A hA => h A (List.mem_of_mem_take hA)
    have h2 := lists_facts n ((a :: b :: r).drop ((a :: b :: r).length / 2)) (by simp; omega) fun A hA => h A (List.mem_of_mem_drop hA)
    have hu : ∀ {L : List Int}, SUp L → Up L := fun h => h.imp (fun h => by omega)
    have := two_facts _ [] _ _ (Nat.le_refl _) (by simp) (hu h1.1) (hu h2.1) (by simp) (by simp)
    refine ⟨by simpa only [listsM] using this.1, fun z => ?_⟩
    simp only [listsM]
    rw [this.2, h1.2, h2.2]
    have hm : ∀ A, A ∈ a :: b :: r ↔ A ∈ (a :: b :: r).take ((a :: b :: r).length / 2) ∨ A ∈ (a :: b :: r).drop ((a :: b :: r).length / 2) := fun A => by
      rw [← List.mem_append, List.take_append_drop]
    simp only [List.not_mem_nil, false_or]
    constructor
    · rintro (⟨A, hA, hz⟩ | ⟨A, hA, hz⟩)
      · exact ⟨A, (hm A).2 (.inl hA), hz⟩
      · exact ⟨A, (hm A).2 (.inr hA), hz⟩
    · rintro ⟨A, hA, hz⟩
      rcases (hm A).1 hA with h | h
      · exact .inl ⟨A, h, hz⟩
      · exact .inr ⟨A, h, hz⟩
def insL (out : List Int) (x : Int) : List Int := out.takeWhile (fun y => decide (y ≤ x)) ++ [x] ++ out.dropWhile (fun y => decide (y ≤ x))
def risL (A : List Int) : List Int := (A.take 200).foldl insL []
theorem insL_mem {out : List Int} {x z : Int} : z ∈ insL out x ↔ z ∈ out ∨ z = x := by
  have h := List.takeWhile_append_dropWhile (p := fun y => decide (y ≤ x)) (l := out)
  have : z ∈ out ↔ z ∈ out.takeWhile (fun y => decide (y ≤ x)) ∨ z ∈ out.dropWhile (fun y => decide (y ≤ x)) := by rw [← List.mem_append, h]
  rw [this]; unfold insL; simp only [List.mem_append, List.mem_singleton]; constructor
  · rintro ((h | h) | h) <;> simp [h]
  · rintro ((h | h) | h) <;> simp [h]
theorem insL_up : ∀ {out : List Int} {x : Int}, Up out → Up (insL out x)
  | [], x, _ => by simp [insL]
  | y :: r, x, h => by
    have h' := List.pairwise_cons.1 h
    unfold insL
    by_cases hy : y ≤ x
    · have ih := insL_up (x := x) h'.2
      unfold insL at ih
      simp only [List.takeWhile_cons, List.dropWhile_cons, hy, decide_true, if_true, List.cons_append]
      refine List.pairwise_cons.2 ⟨fun z hz => ?_, ih⟩
      have : z ∈ insL r x := hz
      rcases insL_mem.1 this with h | h
      · exact h'.1 z h
      · subst h; exact hy
    · simp only [List.takeWhile_cons, List.dropWhile_cons, hy, decide_false, Bool.false_eq_true, if_false, List.nil_append, List.singleton_append]
      refine List.pairwise_cons.2 ⟨fun z hz => ?_, h⟩
      rcases List.mem_cons.1 hz with e | e
      · omega
      · have := h'.1 z e; omega
theorem insL_len (out : List Int) (x : Int) : (insL out x).length = out.length + 1 := by
  have h := congrArg List.length (List.takeWhile_append_dropWhile (p := fun y => decide (y ≤ x)) (l := out))
  unfold insL; simp only [List.length_append, List.length_singleton] at h ⊢; omega
theorem fold_facts : ∀ (A out : List Int), Up out → Up (A.foldl insL out) ∧ (∀ z, z ∈ A.foldl insL out ↔ z ∈ out ∨ z ∈ A) ∧ (A.foldl insL out).length = out.length + A.length
  | [], out, h => by simp [h]
  | x :: r, out, h => by
    have := fold_facts r (insL out x) (insL_up h)
    refine ⟨this.1, fun z => ?_, ?_⟩
    · rw [List.foldl_cons, this.2.1, insL_mem]; simp [or_assoc]
    · rw [List.foldl_cons, this.2.2, insL_len]; simp; omega
theorem risL_up (A : List Int) : Up (risL A) := (fold_facts _ [] (by simp)).1
end Go.Proofs.Ytidpbnbjpglhfaa.V
namespace Go.Proofs.Ytidpbnbjpglhfaa.V
open Go
set_option linter.unusedVariables false
set_option linter.unusedSimpArgs false
theorem tw_get {p : Int → Bool} : ∀ {out : List Int} {i : Nat}, i < (out.takeWhile p).length → ∃ v, out[i]? = some v ∧ p v = true
  | [], i, h => by simp at h
  | x :: r, i, h => by
    by_cases hx : p x = true
    · rw [List.takeWhile_cons, if_pos hx] at h
      cases i with
      | zero => exact ⟨x, rfl, hx⟩
      | succ i => exact tw_get (out := r) (i := i) (by simpa using h)
    · rw [List.takeWhile_cons, if_neg hx] at h; simp at h
theorem tw_at {p : Int → Bool} : ∀ {out : List Int} {v : Int}, out[(out.takeWhile p).length]? = some v → p v = false
  | [], v, h => by simp at h
  | x :: r, v, h => by
    by_cases hx : p x = true
    · rw [List.takeWhile_cons, if_pos hx] at h
      exact tw_at (out := r) (by simpa using h)
    · rw [List.takeWhile_cons, if_neg hx] at h
      simp at h; subst h; simpa using hx
theorem tw_take (p : Int → Bool) (out : List Int) : out.take (out.takeWhile p).length = out.takeWhile p ∧ out.drop (out.takeWhile p).length = out.dropWhile p := by
  have h := List.takeWhile_append_dropWhile (p := p) (l := out)
  constructor
  · have : ∀ (a b : List Int), out = a ++ b → out.take a.length = a := fun a b e => by rw [e, List.take_left]
    exact this _ _ h.symm
  · have : ∀ (a b : List Int), out = a ++ b → out.drop a.length = b := fun a b e => by rw [e, List.drop_left]
    exact this _ _ h.symm
theorem rise_find {Q : Sl → H → Prop} {C1 : Sl → Sl → Int → H → Prop} {h : H} {s0 s3 : Sl} {A out : List Int} {i : Nat} {x : Int} (l0 : Lst h s0 cI A) (l3 : Lst h s3 cI out) (hx : A[i]? = some x) (ho : out.length < 1000) :
    ∀ (m j : Nat), j ≤ (out.takeWhile fun y => decide (y ≤ x)).length → (out.takeWhile fun y => decide (y ≤ x)).length - j < m →
    (∀ C2, F.spatelaw8_rising.j5 Q C1 C2 s0 s3 (i : Int) ((out.takeWhile fun y => decide (y ≤ x)).length : Int) false h) → F.spatelaw8_rising.l3 Q C1 m s0 s3 (i : Int) (j : Int) h
  | 0, j, _, hm, _ => by omega
  | m + 1, j, hj, hm, k => by
    unfold F.spatelaw8_rising.l3
    have hl := l3.len cI_len
    have htw : (out.takeWhile fun y => decide (y ≤ x)).length ≤ out.length := (List.takeWhile_sublist _).length_le
    rw [hl]
    simp only [decide_eq_true_eq, decide_eq_false_iff_not]
    refine ⟨fun g => ?_, fun g => ?_⟩
    · obtain ⟨v, hv⟩ : ∃ v, out[j]? = some v := ⟨_, List.getElem?_eq_getElem (by omega)⟩
      refine l3.get cI_len hv rfl fun a ha => ?_
      rw [ldI_iff ha.one]
      refine l0.get cI_len hx rfl fun a ha => ?_
      rw [ldI_iff ha.one]
      by_cases hjk : j < (out.takeWhile fun y => decide (y ≤ x)).length
      · obtain ⟨v', h1, h2⟩ := tw_get hjk
        rw [hv] at h1; cases h1
        rw [show decide (v ≤ x) = true from h2]
        unfold F.spatelaw8_rising.j5
        refine ⟨fun _ => ?_, fun h => by cases h⟩
        unfold F.spatelaw8_rising.j4
        rw [show IntKind.wrap .i64 ((j : Int) + 1) = ((j + 1 : Nat) : Int) from by rw [w64 (by omega) (by omega)]; omega]
        exact rise_find l0 l3 hx ho m (j + 1) (by omega) (by omega) k
      · have hjk : j = (out.takeWhile fun y => decide (y ≤ x)).length := by omega
        have := tw_at (p := fun y => decide (y ≤ x)) (out := out) (v := v) (by rw [← hjk]; exact hv)
        rw [show decide (v ≤ x) = false from this, hjk]
        exact k _
    · have hjk : j = (out.takeWhile fun y => decide (y ≤ x)).length := by omega
      rw [hjk]; exact k _
theorem cut_lst {h : H} {s : Sl} {A : List Int} {lo hi : Nat} {nl nh : Int} {K : Sl → Prop} (l : Lst h s cI A) (e1 : nl = (lo : Int)) (e2 : nh = (hi : Int)) (h1 : lo ≤ hi) (h2 : hi ≤ A.length) (k : ∀ t, Lst h t cI ((A.drop lo).take (hi - lo)) → t.blk = s.blk → K t) : cutL s nl nh 1 K := by
  have hl := l.len cI_len
  have hc := l.2
  exact cutL_of e1 e2 h1 (by omega) (k _ ⟨cut_reads cI_len (by omega) l.1 h1 h2 hc, by simp only [slcut]; omega⟩ slcut_blk)
theorem Lst.keep {α : Type} {S : Nat → Prop} {h h' : H} {s : Sl} {f : α → List Value} {A : List α} (l : Lst h s f A) (e : Only S h h') (hn : A ≠ [] → ∀ b, s.blk = some b → ¬ S b) : Lst h' s f A := by
  by_cases hA : A = []
  · subst hA; exact ⟨⟨l.1.1, l.1.2.1, fun i v hv => by simp at hv⟩, l.2⟩
  · exact l.only e (hn hA)
theorem rise_loop {h0 : H} {Q : Sl → H → Prop} {s0 : Sl} {A : List Int} (hs0 : A ≠ [] → ∀ b, s0.blk = some b → b < h0.size) (hA : A.length < 10000000000000000000) (k : ∀ r h', Owns h' r 3 1 ((risL A).flatMap cI) → Ext h0 h' → Mine h0 r → Q r h') :
    ∀ (m i : Nat) (h : H) (s3 : Sl), Ext h0 h → Lst h s0 cI A → Owns h s3 3 1 (((A.take i).foldl insL []).flatMap cI) → Mine h0 s3 → i ≤ 200 → i ≤ A.length → 200 - i < m → F.spatelaw8_rising.l1 Q m s0 s3 (i : Int) h
  | 0, i, h, s3, _, _, _, _, _, _, hm => by omega
  | m + 1, i, h, s3, e0, l0, ow, mi, hi, hiA, hm => by
    unfold F.spatelaw8_rising.l1
    have hl := l0.len cI_len
    have hout := (fold_facts (A.take i) [] (by simp)).2.2
    rw [List.length_take] at hout
    have hend : i = 200 ∨ i = A.length → Q s3 h := fun hh => by
      have : risL A = (A.take i).foldl insL [] := by
        unfold risL
        rcases hh with rfl | rfl
        · rfl
        · rw [List.take_of_length_le (by omega), List.take_of_length_le (Nat.le_refl _)]
      rw [← this] at ow
      exact k s3 h ow e0 mi
    rw [hl]
    unfold F.spatelaw8_rising.j6
    simp only [decide_eq_true_eq, decide_eq_false_iff_not]
    refine ⟨fun g => ⟨fun g2 => ?_, fun g2 => hend (by omega)⟩, fun g => ⟨(fun h => by cases h), fun _ => hend (by omega)⟩⟩
    obtain ⟨x, hx⟩ : ∃ x, A[i]? = some x := ⟨_, List.getElem?_eq_getElem (by omega)⟩
    have htk : (A.take (i + 1)).foldl insL [] = insL ((A.take i).foldl insL []) x := by rw [List.take_add_one, hx, List.foldl_append]; rfl
    generalize (A.take i).foldl insL [] = out at *
    have lo := ow.lst
    have hol := lo.len cI_len
    have htw : (out.takeWhile fun y => decide (y ≤ x)).length ≤ out.length := (List.takeWhile_sublist _).length_le
    obtain ⟨t1, t2⟩ := tw_take (fun y => decide (y ≤ x)) out
    simp only [List.length_nil, Nat.zero_add] at hout
    refine ⟨out.length + 1, ?_⟩
    refine rise_find (j := 0) l0 lo hx (by omega) _ (by omega) (by omega) fun C2 => ?_
    unfold F.spatelaw8_rising.j5
    refine ⟨(fun h => by cases h), fun _ => ?_⟩
    refine cut_lst lo (lo := 0) (hi := (out.takeWhile fun y => decide (y ≤ x)).length) rfl rfl (by omega) htw fun t lt htb => ?_
    rw [List.drop_zero, Nat.sub_zero, t1] at lt
    refine app_mine (f := cI) (s := ⟨none, 0, 0⟩) (L := []) e0 (Mine.nil _ _ _) cI_len (by omega) elI (Owns.nil _ _ _) lt.1 (fun x => one1 rfl) (by simp; omega) fun r1 h1 q1 q2 q3 q4 q5 => ?_
    have x1 : Ext h h1 := q4.mono fun b _ e => by simp [Sl.blk] at e
    refine (l0.ext x1).get cI_len hx rfl fun a ha => ?_
    rw [ldI_iff ha.one]
    have hs3 : ∀ b, s3.blk = some b → b < h.size := fun b hb => ow.blk_lt hb
    have hr1 : ∀ b, r1.blk = some b → h.size ≤ b := fun b hb => by
      rcases q5 with q5 | ⟨b', q5, q6⟩
      · rw [q5] at hb; simp [Sl.blk] at hb
      · rw [q5] at hb; cases hb; exact q6
    refine push_mine (f := cI) x q2 q3 cI_len (by omega) elI q1 (fun x => one1 rfl) (by simp; omega) fun r2 h2 p1 p2 p3 p4 p5 => ?_
    have lo2 : Lst h2 s3 cI out := (lo.ext x1).only p4 fun b hb e => by have := hs3 b hb; have := hr1 b e; omega
    have hr2 : ∀ b, r2.blk = some b → h.size ≤ b := fun b hb => by
      rcases p5 with p5 | ⟨b', p5, p6⟩
      · rw [p5] at hb; exact hr1 b hb
      · rw [p5] at hb; cases hb; have := x1.size; omega
    refine cut_lst lo2 (lo := (out.takeWhile fun y => decide (y ≤ x)).length) (hi := out.length) rfl (by rw [hol]) htw (Nat.le_refl _) fun t' lt' htb' => ?_
    rw [t2, List.take_of_length_le (by rw [← t2, List.length_drop]; exact Nat.le_refl _)] at lt'
    refine app_mine (f := cI) p2 p3 cI_len (by omega) elI p1 lt'.1 (fun x => one1 rfl) (by
      have := congrArg List.length (List.takeWhile_append_dropWhile (p := fun y => decide (y ≤ x)) (l := out))
      simp only [List.length_append, List.nil_append, List.length_singleton] at this ⊢; omega) fun r3 h3 u1 u2 u3 u4 u5 => ?_
    rw [show IntKind.wrap .i64 ((i : Int) + 1) = ((i + 1 : Nat) : Int) from by rw [w64 (by omega) (by omega)]; omega]
    have l03 : Lst h3 s0 cI A := ((l0.ext x1).keep p4 (fun hne b hb e => by have := hs0 hne b hb; have := q3 b e; omega)).keep u4 fun hne b hb e => by have := hs0 hne b hb; have := p3 b e; omega
    refine rise_loop hs0 hA k m (i + 1) h3 r3 u2 l03 ?_ u3 (by omega) (by omega) (by omega)
    rw [htk]; simpa [insL] using u1
theorem rising_spec {h : H} {s : Sl} {A : List Int} {Q : Sl → H → Prop} (l : Lst h s cI A) (hs : A ≠ [] → ∀ b, s.blk = some b → b < h.size) (hA : A.length < 10000000000000000000) (k : ∀ r h', Owns h' r 3 1 ((risL A).flatMap cI) → Ext h h' → Mine h r → Q r h') : F.spatelaw8_rising s h Q :=
  ⟨201, rise_loop hs hA k 201 0 h _ (.refl _) l (Owns.nil _ _ _) (Mine.nil _ _ _) (by omega) (by omega) (by omega)⟩
theorem same_loop {h : H} {s t : Sl} {A : List Int} {Q : Bool → H → Prop} (ls : Lst h s cI A) (lt : Lst h t cI A) (hA : A.length ≤ 100000) (k : Q true h) : ∀ (m i : Nat), i ≤ A.length → A.length - i < m → F.spatelaw8_same.l1 Q m s t (i : Int) h
  | 0, i, _, hm => by omega
  | m + 1, i, hi, hm => by
    unfold F.spatelaw8_same.l1
    rw [ls.len cI_len]
    simp only [decide_eq_true_eq, decide_eq_false_iff_not]
    refine ⟨fun g => ?_, fun g => k⟩
    obtain ⟨x, hx⟩ : ∃ x, A[i]? = some x := ⟨_, List.getElem?_eq_getElem (by omega)⟩
    refine ls.get cI_len hx rfl fun a ha => ?_
    rw [ldI_iff ha.one]
    refine lt.get cI_len hx rfl fun a ha => ?_
    rw [ldI_iff ha.one, bne_iff_ne, bne_eq_false_iff_eq]
    refine ⟨fun g => absurd rfl g, fun _ => ?_⟩
    rw [show IntKind.wrap .i64 ((i : Int) + 1) = ((i + 1 : Nat) : Int) from by rw [w64 (by omega) (by omega)]; omega]
    exact same_loop ls lt hA k m (i + 1) (by omega) (by omega)
theorem same_spec {h : H} {s t : Sl} {A : List Int} {Q : Bool → H → Prop} (ls : Lst h s cI A) (lt : Lst h t cI A) (hA : A.length ≤ 100000) (k : Q true h) : F.spatelaw8_same s t h Q := by
  unfold F.spatelaw8_same
  rw [ls.len cI_len, lt.len cI_len, bne_iff_ne, bne_eq_false_iff_eq]
  exact ⟨fun g => absurd rfl g, fun _ => ⟨A.length + 1, same_loop ls lt hA k _ 0 (by omega) (by omega)⟩⟩
end Go.Proofs.Ytidpbnbjpglhfaa.V
namespace Go.Proofs.Ytidpbnbjpglhfaa.V
open Go
set_option linter.unusedVariables false
set_option linter.unusedSimpArgs false
/-- The numbers that say how far each list is gone. -/
abbrev atsL (n : Nat) (f : Nat → Nat) : List Int := (List.range n).map fun i => (f i : Int)
theorem atsL_get {n : Nat} {f : Nat → Nat} {i : Nat} (h : i < n) : (atsL n f)[i]? = some (f i : Int) := by simp [atsL, h]
theorem atsL_set {n : Nat} {f : Nat → Nat} {k v : Nat} : (atsL n f).set k (v : Int) = atsL n (fun i => if i = k then v else f i) := by
  apply List.ext_getElem?
  intro i
  rw [List.getElem?_set]
  by_cases h : k = i
  · subst h
    by_cases hk : k < n <;> simp [atsL, hk]
  · have h' : ¬ i = k := fun e => h e.symm
    by_cases hi : i < n <;> simp [atsL, h, h', hi]
/-- List i; its next number. -/
abbrev li (LL : List (List Int)) (i : Nat) : List Int := LL.getD i []
theorem li_of {LL : List (List Int)} {i : Nat} (h : i < LL.length) : LL[i]? = some (li LL i) := by simp [li, List.getD, h]
/-- k is the place, below j, of a least next number; or there is none. -/
def Best (LL : List (List Int)) (f : Nat → Nat) (j : Nat) (k : Int) : Prop :=
  (k = -1 ∧ ∀ i, i < j → (li LL i).length ≤ f i) ∨ ∃ (q : Nat) (v : Int), k = (q : Int) ∧ q < j ∧ (li LL q)[f q]? = some v ∧ ∀ i w, i < j → (li LL i)[f i]? = some w → v ≤ w
theorem ref_inner {LL : List (List Int)} {SL : List Sl} {f : Nat → Nat} {h : H} {s0 s3 s4 : Sl} {Q : Sl → H → Prop} {C1 : Sl → Sl → Sl → H → Prop} (l0 : Lst h s0 cS SL) (ll : Lsts_int h SL LL) (l4 : Lst h s4 cI (atsL LL.length f)) (hn : LL.length < 1000) (hf : ∀ i, i < LL.length → f i ≤ (li LL i).length) (hb : ∀ i, (li LL i).length < 100000)
    (k : ∀ (kk : Int), Best LL f LL.length kk → F.spateref8_Lists.l2 Q C1 1 s0 s3 s4 kk (LL.length : Int) h) :
    ∀ (m j : Nat) (kk : Int), j ≤ LL.length → LL.length - j < m → Best LL f j kk → F.spateref8_Lists.l2 Q C1 m s0 s3 s4 kk (j : Int) h
  | 0, j, kk, _, hm, _ => by omega
  | m + 1, j, kk, hj, hm, hbest => by
    have hsl := l0.len cS_len
    have hsn : SL.length = LL.length := ll.1
    by_cases hjn : j = LL.length
    · subst hjn
      have := k kk hbest
      unfold F.spateref8_Lists.l2 at this ⊢
      rw [hsl, hsn] at this ⊢
      simp only [decide_eq_true_eq, decide_eq_false_iff_not] at this ⊢
      exact ⟨fun g => by omega, fun g => this.2 (by omega)⟩
    · unfold F.spateref8_Lists.l2
      rw [hsl, hsn]
      simp only [decide_eq_true_eq, decide_eq_false_iff_not]
      refine ⟨fun g => ?_, fun g => by omega⟩
      have hjl : j < LL.length := by omega
      have hget : ∀ {i : Nat} {n : Int} {K : Sl → Prop}, i < LL.length → n = (i : Int) → (∀ t, Lst h t cI (li LL i) → K t) → idxA s0 n 1 fun a => ldL h a fun y => K y := fun {i n K} hi hn kk => by
        obtain ⟨t, ht⟩ : ∃ t, SL[i]? = some t := ⟨_, List.getElem?_eq_getElem (by omega)⟩
        refine l0.get cS_len ht hn fun a ha => ?_
        rw [ldL_iff ha.one]
        exact kk t (ll.2 i t _ ht (li_of hi)).1
      have hat : ∀ {i : Nat} {n : Int} {K : Int → Prop}, i < LL.length → n = (i : Int) → K (f i : Int) → idxA s4 n 1 fun a => ldI .i64 h a fun y => K y := fun {i n K} hi hn kk => by
        refine l4.get cI_len (atsL_get hi) hn fun a ha => ?_
        rw [ldI_iff ha.one]
        exact kk
      refine hat hjl rfl (hget hjl rfl fun t lt => ?_)
      rw [lt.len cI_len]
      have hw : IntKind.wrap .i64 ((j : Int) + 1) = ((j + 1 : Nat) : Int) := by rw [w64 (by omega) (by omega)]; omega
      have hnew : ∀ v, (li LL j)[f j]? = some v → (∀ (q : Nat) (w : Int), kk = (q : Int) → (li LL q)[f q]? = some w → v ≤ w) → F.spateref8_Lists.j4 Q C1 (F.spateref8_Lists.l2 Q C1 m) s0 s3 s4 kk (j : Int) true h := fun v hv hle => by
        unfold F.spateref8_Lists.j4 F.spateref8_Lists.j3
        refine ⟨fun _ => ?_, fun h => by cases h⟩
        rw [hw]
        refine ref_inner l0 ll l4 hn hf hb k m (j + 1) _ (by omega) (by omega) (.inr ⟨j, v, rfl, by omega, hv, fun i w hi hww => ?_⟩)
        by_cases hij : i = j
        · subst hij; rw [hv] at hww; cases hww; exact Int.le_refl _
        · rcases hbest with ⟨_, h1⟩ | ⟨q, u, h1, h2, h3, h4⟩
          · have := (List.getElem?_eq_some_iff.1 hww).1
            have := h1 i (by omega); omega
          · have := hle q u h1 h3
            have := h4 i w (by omega) hww; omega
      have hold : (∀ v, (li LL j)[f j]? = some v → ∃ q u, kk = ((q : Nat) : Int) ∧ (li LL q)[f q]? = some u ∧ u ≤ v) → F.spateref8_Lists.j4 Q C1 (F.spateref8_Lists.l2 Q C1 m) s0 s3 s4 kk (j : Int) false h := fun hle => by
        unfold F.spateref8_Lists.j4 F.spateref8_Lists.j3
        refine ⟨(fun h => by cases h), fun _ => ?_⟩
        rw [hw]
        refine ref_inner l0 ll l4 hn hf hb k m (j + 1) _ (by omega) (by omega) ?_
        rcases hbest with ⟨h0, h1⟩ | ⟨q, u, h1, h2, h3, h4⟩
        · refine .inl ⟨h0, fun i hi => ?_⟩
          by_cases hij : i = j
          · subst hij
            rcases Nat.lt_or_ge (f i) (li LL i).length with hlt | hge
            · obtain ⟨q, u, e, _⟩ := hle _ (List.getElem?_eq_getElem hlt); omega
            · exact hge
          · exact h1 i (by omega)
        · refine .inr ⟨q, u, h1, by omega, h3, fun i w hi hww => ?_⟩
          by_cases hij : i = j
          · subst hij
            obtain ⟨q', u', e, e2, e3⟩ := hle w hww
            have : q' = q := by omega
            subst this; rw [h3] at e2; cases e2; exact e3
          · exact h4 i w (by omega) hww
      refine ⟨fun g1 => ⟨fun g2 => ?_, fun g2 => ?_⟩, fun g1 => hold fun v hv => ?_⟩
      · obtain ⟨v, hv⟩ : ∃ v, (li LL j)[f j]? = some v := ⟨_, List.getElem?_eq_getElem (by omega)⟩
        exact hnew v hv fun q w e _ => by omega
      · rcases hbest with ⟨h0, _⟩ | ⟨q, u, h1, h2, h3, h4⟩
        · omega
        · obtain ⟨v, hv⟩ : ∃ v, (li LL j)[f j]? = some v := ⟨_, List.getElem?_eq_getElem (by omega)⟩
          refine hget hjl rfl fun t1 lt1 => hat hjl rfl (lt1.get cI_len hv rfl fun a ha => ?_)
          rw [ldI_iff ha.one]
          refine hget (i := q) (by omega) h1 fun t2 lt2 => hat (i := q) (by omega) h1 (lt2.get cI_len h3 rfl fun a ha => ?_)
          rw [ldI_iff ha.one]
          by_cases hvu : v < u
          · rw [show decide (v < u) = true from by simp [hvu]]
            exact hnew v hv fun q' w e hw => by
              have : q' = q := by omega
              subst this; rw [h3] at hw; cases hw; omega
          · rw [show decide (v < u) = false from by simp [hvu]]
            exact hold fun v' hv' => ⟨q, u, h1, h3, by rw [hv] at hv'; cases hv'; omega⟩
      · have := (List.getElem?_eq_some_iff.1 hv).1; omega
/-- What is gone of the lists. -/
def Gone (LL : List (List Int)) (f : Nat → Nat) (z : Int) : Prop := ∃ i t, i < LL.length ∧ t < f i ∧ (li LL i)[t]? = some z
def leftN (LL : List (List Int)) (f : Nat → Nat) : Nat := ((List.range LL.length).map fun i => (li LL i).length - f i).sum
theorem sum_less {n k : Nat} {g g' : Nat → Nat} (hk : k < n) (h1 : g' k < g k) (h2 : ∀ i, i ≠ k → g' i = g i) : ((List.range n).map g').sum < ((List.range n).map g).sum := by
  induction n with
  | zero => omega
  | succ n ih =>
    rw [List.range_succ, List.map_append, List.map_append, List.sum_append, List.sum_append]
    simp only [List.map_cons, List.map_nil, List.sum_cons, List.sum_nil]
    by_cases hkn : k = n
    · subst hkn
      have : (List.range k).map g' = (List.range k).map g := List.map_congr_left fun i hi => h2 i (by have := List.mem_range.1 hi; omega)
      rw [this]; omega
    · have := ih (by omega)
      have := h2 n (fun e => hkn e.symm)
      omega
theorem ref_outer {LL : List (List Int)} {SL : List Sl} {h0 : H} {s0 : Sl} {Q : Sl → H → Prop} (hs0 : ∀ b, s0.blk = some b → b < h0.size) (hll0 : ∀ (i : Nat) (s : Sl), SL[i]? = some s → ∀ b, s.blk = some b → b < h0.size) (hn : LL.length < 1000) (hb : ∀ i, (li LL i).length < 100000) (hup : ∀ i, Up (li LL i))
    (k : ∀ r h' R, SUp R → (∀ z, z ∈ R ↔ ∃ A ∈ LL, z ∈ A) → Owns h' r 3 1 (R.flatMap cI) → Ext h0 h' → Mine h0 r → Q r h') :
    ∀ (m : Nat) (f : Nat → Nat) (h : H) (s3 s4 : Sl) (R : List Int), Ext h0 h → Lst h s0 cS SL → Lsts_int h SL LL → Owns h s3 3 1 (R.flatMap cI) → Mine h0 s3 → Owns h s4 3 1 ((atsL LL.length f).flatMap cI) → Mine h0 s4 → (∀ b, s3.blk = some b → s4.blk ≠ some b) → 
    (∀ i, i < LL.length → f i ≤ (li LL i).length) → SUp R → (∀ z, z ∈ R ↔ Gone LL f z) → (∀ z ∈ R, ∀ i w, i < LL.length → (li LL i)[f i]? = some w → z ≤ w) → R.length + leftN LL f ≤ 100000000000 → leftN LL f < m → F.spateref8_Lists.l1 Q m s0 s3 s4 h
  | 0, f, h, s3, s4, R, _, _, _, _, _, _, _, _, _, _, _, _, _, hm => by omega
  | m + 1, f, h, s3, s4, R, e0, l0, ll, ow, mi, o4, m4, hne, hf, hR, hmem, hle, hsz, hm => by
    unfold F.spateref8_Lists.l1
    refine ⟨LL.length + 1, ref_inner l0 ll o4.lst hn hf hb (fun kk hbest => ?_) (LL.length + 1) 0 (-1) (by omega) (by omega) (.inl ⟨rfl, fun i hi => by omega⟩)⟩
    have hsl := l0.len cS_len
    have hsn : SL.length = LL.length := ll.1
    unfold F.spateref8_Lists.l2
    rw [hsl, hsn]
    simp only [decide_eq_true_eq, decide_eq_false_iff_not]
    refine ⟨fun g => by omega, fun _ => ⟨fun g => ?_, fun g => ?_⟩⟩
    · rcases hbest with ⟨_, h1⟩ | ⟨q, u, h1, _⟩
      · refine k s3 h R hR (fun z => ?_) ow e0 mi
        rw [hmem]
        constructor
        · rintro ⟨i, t, hi, ht, hz⟩
          exact ⟨li LL i, List.mem_of_getElem? (li_of hi), List.mem_of_getElem? hz⟩
        · rintro ⟨A, hA, hz⟩
          obtain ⟨i, hi⟩ := List.mem_iff_getElem?.1 hA
          obtain ⟨t, ht⟩ := List.mem_iff_getElem?.1 hz
          have hil := (List.getElem?_eq_some_iff.1 hi).1
          have hA2 : li LL i = A := by have := li_of hil; rw [hi] at this; cases this; rfl
          refine ⟨i, t, hil, ?_, by rw [hA2]; exact ht⟩
          have := h1 i hil
          have := (List.getElem?_eq_some_iff.1 ht).1
          rw [hA2] at *; omega
      · omega
    · rcases hbest with ⟨h1, _⟩ | ⟨q, u, h1, hq, hu, hmin⟩
      · omega
      · subst h1
        obtain ⟨t, ht⟩ : ∃ t, SL[q]? = some t := ⟨_, List.getElem?_eq_getElem (by omega)⟩
        refine l0.get cS_len ht rfl fun a ha => ?_
        rw [ldL_iff ha.one]
        refine o4.lst.get cI_len (atsL_get hq) rfl fun a ha => ?_
        rw [ldI_iff ha.one]
        refine (ll.2 q t _ ht (li_of hq)).1.get cI_len hu rfl fun a ha => ?_
        rw [ldI_iff ha.one]
        have hrl := own_len cI_len (by omega) ow
        have hfq := hf q hq
        have hqb := hb q
        have hul := (List.getElem?_eq_some_iff.1 hu).1
        -- the number of that list goes on by one
        have hnext : ∀ (h1 : H) (s5 : Sl), Ext h0 h1 → Lst h1 s0 cS SL → Lsts_int h1 SL LL → Owns h1 s5 3 1 ((addM R u).flatMap cI) → Mine h0 s5 → Owns h1 s4 3 1 ((atsL LL.length f).flatMap cI) → (∀ b, s5.blk = some b → s4.blk ≠ some b) → F.spateref8_Lists.j5 Q (F.spateref8_Lists.l1 Q m) s0 s5 s4 (q : Int) h1 := fun h1 s5 x1 l01 ll1 ow5 mi5 o41 hne5 => by
          unfold F.spateref8_Lists.j5
          refine o41.lst.get cI_len (atsL_get hq) rfl fun a ha => ?_
          rw [ldI_iff ha.one]
          obtain ⟨b, a1, a2⟩ := own_at cI_len (by omega) o41 (atsL_get (f := f) hq)
          have h4l := own_len cI_len (by omega) o41
          refine idxA_of (i := q) a1 (by rw [h4l]; simp; omega) rfl ?_
          rw [show IntKind.wrap .i64 ((f q : Int) + 1) = ((f q + 1 : Nat) : Int) from by rw [w64 (by omega) (by omega)]; omega]
          refine own_setAt (f := cI) (k := 1) (x := ((f q + 1 : Nat) : Int)) cI_len o41 a1 (by simp; omega) fun h2 q1 q2 q3 => ?_
          rw [atsL_set] at q1
          have hmono : ∀ z ∈ addM R u, z ≤ u := fun z hz => by
            rcases addM_mem.1 hz with h | h
            · exact hle z h q u hq hu
            · omega
          refine ref_outer hs0 hll0 hn hb hup k m (fun i => if i = q then f q + 1 else f i) h2 s5 s4 (addM R u) (x1.mine m4 q2) (l01.only q2 fun b hb e => by have := hs0 b hb; have := m4 b e; omega) ⟨ll1.1, fun i s A g1 g2 => ⟨(ll1.2 i s A g1 g2).1.only q2 fun b hb e => by have := hll0 i s g1 b hb; have := m4 b e; omega, fun b hb => by have := (ll1.2 i s A g1 g2).2 b hb; have := q2.size; omega⟩⟩ (ow5.only q2 fun b hb e => hne5 b hb e) mi5 q1 m4 hne5 (fun i hi => ?_) ?_ (fun z => ?_) (fun z hz i w hi hw => ?_) ?_ ?_
          · show (if i = q then f q + 1 else f i) ≤ _
            split
            · rename_i e; subst e; omega
            · exact hf i hi
          · exact addM_sup hR fun z hz => hle z hz q u hq hu
          · rw [addM_mem, hmem]
            constructor
            · rintro (⟨i, t, hi, ht, hz⟩ | h)
              · refine ⟨i, t, hi, ?_, hz⟩
                show t < (if i = q then f q + 1 else f i)
                split
                · rename_i e; subst e; omega
                · exact ht
              · subst h; exact ⟨q, f q, hq, by simp, hu⟩
            · rintro ⟨i, t, hi, ht, hz⟩
              have ht : t < (if i = q then f q + 1 else f i) := ht
              split at ht
              · rename_i e; subst e
                by_cases htf : t = f i
                · subst htf; rw [hu] at hz; cases hz; exact .inr rfl
                · exact .inl ⟨i, t, hi, by omega, hz⟩
              · exact .inl ⟨i, t, hi, ht, hz⟩
          · have hzu := hmono z hz
            have hw : (li LL i)[if i = q then f q + 1 else f i]? = some w := hw
            split at hw
            · rename_i e; subst e
              have hs := hup i
              obtain ⟨g1, g2⟩ := List.getElem?_eq_some_iff.1 hu
              obtain ⟨g3, g4⟩ := List.getElem?_eq_some_iff.1 hw
              have := List.pairwise_iff_getElem.1 hs (f i) (f i + 1) g1 g3 (by omega)
              omega
            · have := hmin i w hi hw; omega
          · have h1 := addM_len R u
            have h2 : leftN LL (fun i => if i = q then f q + 1 else f i) < leftN LL f := sum_less hq (by show (li LL q).length - (if q = q then f q + 1 else f q) < (li LL q).length - f q; rw [if_pos rfl]; omega) fun i hi => by simp [hi]
            omega
          · have h2 : leftN LL (fun i => if i = q then f q + 1 else f i) < leftN LL f := sum_less hq (by show (li LL q).length - (if q = q then f q + 1 else f q) < (li LL q).length - f q; rw [if_pos rfl]; omega) fun i hi => by simp [hi]
            omega
        have hlay : R.getLast? ≠ some u → F.spateref8_Lists.j6 Q (F.spateref8_Lists.l1 Q m) s0 s3 s4 (q : Int) u true h := fun hl => by
          unfold F.spateref8_Lists.j6
          refine ⟨fun _ => ?_, fun h => by cases h⟩
          refine push_mine (f := cI) u e0 mi cI_len (by omega) elI ow (fun x => one1 rfl) (by omega) fun r h1 q1 q2 q3 q4 q5 => ?_
          have hadd : addM R u = R ++ [u] := by unfold addM; rw [if_neg hl]
          refine hnext h1 r q2 (l0.only q4 fun b hb e => by have := hs0 b hb; have := mi b e; omega) ⟨ll.1, fun i s A g1 g2 => ⟨(ll.2 i s A g1 g2).1.only q4 fun b hb e => by have := hll0 i s g1 b hb; have := mi b e; omega, fun b hb => by have := (ll.2 i s A g1 g2).2 b hb; have := q4.size; omega⟩⟩ (by rw [hadd]; exact q1) q3 (o4.only q4 fun b hb e => hne b e hb) fun b hb e => ?_
          rcases q5 with q5 | ⟨b', q5, q6⟩
          · exact hne b (by rw [← q5]; exact hb) e
          · rw [q5] at hb; cases hb; have := o4.blk_lt e; omega
        have hskip : R.getLast? = some u → F.spateref8_Lists.j6 Q (F.spateref8_Lists.l1 Q m) s0 s3 s4 (q : Int) u false h := fun hl => by
          unfold F.spateref8_Lists.j6
          refine ⟨(fun h => by cases h), fun _ => ?_⟩
          have hadd : addM R u = R := by unfold addM; rw [if_pos hl]
          exact hnext h s3 e0 l0 ll (by rw [hadd]; exact ow) mi o4 hne
        rw [hrl, beq_iff_eq, beq_eq_false_iff_ne]
        refine ⟨fun g => hlay fun e => ?_, fun g => ?_⟩
        · have : R = [] := List.eq_nil_of_length_eq_zero (by omega)
          subst this; simp at e
        · have hRn : R ≠ [] := fun e => by subst e; simp at g
          have hpos : 0 < R.length := List.length_pos_iff.2 hRn
          have hlast := List.getLast?_eq_some_getLast hRn
          obtain ⟨b, a1, a2⟩ := own_at cI_len (by omega) ow (i := R.length - 1) (x := R.getLast hRn) (by rw [← List.getLast?_eq_getElem?, hlast])
          refine idxA_of (i := R.length - 1) a1 (by omega) (by rw [w64 (by omega) (by omega)]; omega) ?_
          rw [ldI_iff a2.one]
          by_cases he : R.getLast hRn = u
          · rw [show (R.getLast hRn != u) = false from by simp [he]]
            exact hskip (by rw [hlast, he])
          · rw [show (R.getLast hRn != u) = true from by simp [he]]
            exact hlay fun e => he (by rw [hlast] at e; simpa using e)
end Go.Proofs.Ytidpbnbjpglhfaa.V
namespace Go.Proofs.Ytidpbnbjpglhfaa.V
open Go
set_option linter.unusedVariables false
set_option linter.unusedSimpArgs false
theorem refLists_spec {h : H} {s0 : Sl} {SL : List Sl} {LL : List (List Int)} {Q : Sl → H → Prop} (l0 : Lst h s0 cS SL) (ll : Lsts_int h SL LL) (hs0 : ∀ b, s0.blk = some b → b < h.size) (hn : LL.length < 1000) (hb : ∀ i, (li LL i).length < 100000) (hup : ∀ i, Up (li LL i))
    (k : ∀ r h' R, SUp R → (∀ z, z ∈ R ↔ ∃ A ∈ LL, z ∈ A) → Owns h' r 3 1 (R.flatMap cI) → Ext h h' → Mine h r → Q r h') : F.spateref8_Lists s0 h Q := by
  unfold F.spateref8_Lists
  rw [l0.len cS_len, ll.1]
  refine make_of elI (by omega) (by simp [maxLen]; omega) fun b h1 n1 n2 n3 => ?_
  rw [show (Value.int .i64 0).cells = #[.int .i64 0] from rfl, Nat.mul_one, made_one, ← flat_replicate cI 0 (.int .i64 0) rfl] at n2
  have e1 : List.replicate LL.length (0 : Int) = atsL LL.length fun _ => 0 := by
    apply List.ext_getElem?
    intro i
    by_cases hi : i < LL.length <;> simp [atsL, hi, List.getElem?_replicate]
  rw [e1] at n2
  have hsum : leftN LL (fun _ => 0) ≤ 100000000 := by
    unfold leftN
    have : ∀ n, n ≤ LL.length → ((List.range n).map fun i => (li LL i).length - 0).sum ≤ n * 100000 := fun n => by
      induction n with
      | zero => simp
      | succ n ih =>
        intro hn
        rw [List.range_succ, List.map_append, List.sum_append]
        have := ih (by omega)
        have := hb n
        simp only [List.map_cons, List.map_nil, List.sum_cons, List.sum_nil]; omega
    have := this LL.length (Nat.le_refl _)
    show ((List.range LL.length).map fun i => (li LL i).length - 0).sum ≤ _
    omega
  refine ⟨leftN LL (fun _ => 0) + 1, ref_outer (h0 := h) hs0 (fun i s hi b hb => ?_) hn hb hup k _ (fun _ => 0) h1 _ _ [] n3 (l0.ext n3) (ll.ext n3) (Owns.nil _ _ _) (Mine.nil _ _ _) n2 (fun b hb => by simp [Sl.blk] at hb; omega) (fun b hb => by simp [Sl.blk] at hb) (fun i hi => by omega) List.Pairwise.nil (fun z => ⟨(fun h => by cases h), (fun ⟨i, t, _, ht, _⟩ => absurd ht (Nat.not_lt_zero _))⟩) (fun z hz => by cases hz) (by simp; omega) (by omega)⟩
  have hil : i < LL.length := by rw [← ll.1]; exact (List.getElem?_eq_some_iff.1 hi).1
  exact (ll.2 i s _ hi (li_of hil)).2 b hb
theorem getD_up {LL : List (List Int)} (h : ∀ A ∈ LL, Up A) (i : Nat) : Up (li LL i) := by
  unfold li
  rcases Nat.lt_or_ge i LL.length with hi | hi
  · rw [List.getD_eq_getElem?_getD, List.getElem?_eq_getElem hi]; exact h _ (List.getElem_mem hi)
  · rw [List.getD_eq_getElem?_getD, List.getElem?_eq_none hi]; simp
theorem getD_len {LL : List (List Int)} {n : Nat} (h : ∀ A ∈ LL, A.length < n) (hn : 0 < n) (i : Nat) : (li LL i).length < n := by
  unfold li
  rcases Nat.lt_or_ge i LL.length with hi | hi
  · rw [List.getD_eq_getElem?_getD, List.getElem?_eq_getElem hi]; exact h _ (List.getElem_mem hi)
  · rw [List.getD_eq_getElem?_getD, List.getElem?_eq_none hi]; exact hn
end Go.Proofs.Ytidpbnbjpglhfaa.V
namespace Go.Proofs.Ytidpbnbjpglhfaa.V
open Go
set_option linter.unusedVariables false
set_option linter.unusedSimpArgs false
theorem push8 {α : Type} {f : α → List Value} {kk : Nat} {t e : TypeId} {bytes : Nat} {z : Value} {h0 h : H} {s : Sl} {D : List α} {x : α} {K : Sl → H → Prop} (el : El PP t e kk bytes z) (hf : ∀ x, (f x).length = kk) (hk : 0 < kk) (one : ∀ x, ∀ v ∈ f x, v.oneCell' = true)
    (e0 : Ext h0 h) (w : Owns h s e kk (D.flatMap f)) (m : Mine h0 s) (hl : (D.length + 1 + (D.length + 1) / 4 + 256) * bytes ≤ 281474976710656)
    (k : ∀ s' h', Owns h' s' e kk ((D ++ [x]).flatMap f) → Mine h0 s' → Ext h0 h' → Only (fun b => s.blk = some b) h h' → K s' h') :
    newL h (f x).toArray e 1 fun s7 h6 => runL PP (Builtin.append_ #[t, t] t #[s.enc, s7.enc]) h6 fun s9 h8 => K s9 h8 := by
  refine newL_of fun n6 h6 hn6 b6 e6 sz6 => ?_
  have r6 : Reads h6 ⟨some ⟨n6, 0, none⟩, 1, 1⟩ kk ([x].flatMap f) := blk_reads (by simpa using b6) (by simp [hf])
  refine app_list (L := D) (M := [x]) hf hk el (w.ext e6) r6 one (by simpa using hl) fun r7 h7 q1 q2 q3 => ?_
  refine k r7 h7 q1 (fun b hb => ?_) ((e0.trans e6).mine m q2) ((e6.only (S := fun b => s.blk = some b)).trans q2 fun _ _ e => e)
  rcases q3 with q3 | ⟨b', q3, q4⟩
  · exact m b (by rw [← q3]; exact hb)
  · rw [q3] at hb; cases hb
    have := e0.size; have := e6.size; omega
theorem own_typ {h h' : H} {s r : Sl} {e e' : TypeId} {k k' : Nat} {cs ds : List Value} (w : Owns h r e k cs) (o : Only (fun b => s.blk = some b) h h') (ws : Owns h s e' k' ds) (he : e ≠ e') : Owns h' r e k cs := w.only o fun y hy hb => by
  obtain ⟨_, ⟨q1, q2, q3⟩ | ⟨b', c', q1, q2, _⟩⟩ := w
  · simp [Sl.blk, q1] at hy
  · simp [Sl.blk, q1] at hy
    subst hy
    exact own_ne ws q2 (fun e => he e.symm) hb
theorem flat_le {n : Nat} : ∀ {LL : List (List Int)}, (∀ A ∈ LL, A.length ≤ n) → LL.flatten.length ≤ LL.length * n
  | [], _ => by simp
  | A :: LL, h => by
    have h1 := h A (by simp)
    have h2 := flat_le (LL := LL) fun B hB => h B (by simp [hB])
    rw [List.flatten_cons, List.length_append, List.length_cons, Nat.add_mul]; omega
theorem cap_of {h : H} {s : Sl} {e : TypeId} {k : Nat} {cs : List Value} (w : Owns h s e k cs) : s.len ≤ s.cap := by
  obtain ⟨_, ⟨q1, q2, q3⟩ | ⟨b', c', q1, q2, q3, q4, _⟩⟩ := w
  · omega
  · exact q4
end Go.Proofs.Ytidpbnbjpglhfaa.V
namespace Go.Proofs.Ytidpbnbjpglhfaa.V
open Go
set_option linter.unusedVariables false
set_option linter.unusedSimpArgs false
/-- Each row's cell is ahead of those behind it. -/
def SC (l : List Rw8) : Prop := l.Pairwise fun a b => cmpC a.Cell b.Cell = -1
def ordI (out : List Rw8) (x : Rw8) : List Rw8 :=
  match out.dropWhile (fun y => decide (cmpC y.Cell x.Cell < 0)) with
  | y :: r => if cmpC y.Cell x.Cell = 0 then out else out.takeWhile (fun y => decide (cmpC y.Cell x.Cell < 0)) ++ x :: y :: r
  | [] => out ++ [x]
def ordL (A : List Rw8) : List Rw8 := (A.take 200).foldl ordI []
theorem ordI_sc {out : List Rw8} {x : Rw8} (s : SC out) : SC (ordI out x) ∧ (ordI out x).length ≤ out.length + 1 ∧ ∀ z, z ∈ ordI out x → z ∈ out ∨ z = x := by
  unfold ordI
  have htd := List.takeWhile_append_dropWhile (p := fun y : Rw8 => decide (cmpC y.Cell x.Cell < 0)) (l := out)
  have htk : ∀ y ∈ out.takeWhile (fun y => decide (cmpC y.Cell x.Cell < 0)), cmpC y.Cell x.Cell < 0 := fun y hy => by
    have hall := List.all_takeWhile (p := fun y : Rw8 => decide (cmpC y.Cell x.Cell < 0)) (l := out)
    rw [List.all_eq_true] at hall
    simpa using hall y hy
  generalize hA : out.takeWhile (fun y => decide (cmpC y.Cell x.Cell < 0)) = A at htd htk ⊢
  generalize hB : out.dropWhile (fun y => decide (cmpC y.Cell x.Cell < 0)) = B at htd ⊢
  cases B with
  | nil =>
    rw [List.append_nil] at htd
    subst htd
    refine ⟨?_, by simp, fun z hz => by simpa using hz⟩
    unfold SC
    rw [List.pairwise_append]
    refine ⟨s, by simp, fun a ha b hb => ?_⟩
    simp at hb; subst hb
    have := htk a ha; have := cC_range a.Cell b.Cell; omega
  | cons y r =>
    simp only
    split
    · exact ⟨s, by omega, fun z hz => .inl hz⟩
    · rename_i hne
      have hy : ¬ cmpC y.Cell x.Cell < 0 := by
        have := List.head?_dropWhile_not (p := fun y : Rw8 => decide (cmpC y.Cell x.Cell < 0)) (l := out)
        rw [hB] at this
        simpa using this
      have hry := cC_range y.Cell x.Cell
      have hxy : cmpC x.Cell y.Cell = -1 := by have := cC_anti x.Cell y.Cell; omega
      subst htd
      unfold SC at s ⊢
      rw [List.pairwise_append] at s ⊢
      obtain ⟨s1, s2, s3⟩ := s
      have s2' := List.pairwise_cons.1 s2
      refine ⟨⟨s1, List.pairwise_cons.2 ⟨fun b hb => ?_, s2⟩, fun a ha b hb => ?_⟩, by simp; omega, fun z hz => ?_⟩
      · rcases List.mem_cons.1 hb with rfl | hb
        · exact hxy
        · exact cC_trans hxy (s2'.1 b hb)
      · rcases List.mem_cons.1 hb with rfl | hb
        · have := htk a ha; have := cC_range a.Cell b.Cell; omega
        · exact s3 a ha b hb
      · simp only [List.mem_append, List.mem_cons] at hz ⊢
        rcases hz with hz | rfl | hz
        · exact .inl (.inl hz)
        · exact .inr rfl
        · exact .inl (.inr hz)
theorem ord_fold : ∀ (A out : List Rw8), SC out → SC (A.foldl ordI out) ∧ (A.foldl ordI out).length ≤ out.length + A.length
  | [], out, s => ⟨s, by simp⟩
  | x :: A, out, s => by
    obtain ⟨h1, h2, _⟩ := ordI_sc (x := x) s
    obtain ⟨h3, h4⟩ := ord_fold A (ordI out x) h1
    exact ⟨h3, by simp only [List.foldl_cons, List.length_cons]; omega⟩
end Go.Proofs.Ytidpbnbjpglhfaa.V
namespace Go.Proofs.Ytidpbnbjpglhfaa.V
open Go
set_option linter.unusedVariables false
set_option linter.unusedSimpArgs false
theorem twr_get {p : Rw8 → Bool} : ∀ {out : List Rw8} {i : Nat}, i < (out.takeWhile p).length → ∃ v, out[i]? = some v ∧ p v = true
  | [], i, h => by simp at h
  | a :: r, i, h => by
    rw [List.takeWhile_cons] at h
    split at h
    · rename_i hp
      cases i with
      | zero => exact ⟨a, rfl, hp⟩
      | succ i =>
        simp at h
        obtain ⟨v, h1, h2⟩ := twr_get (out := r) (i := i) h
        exact ⟨v, by simpa using h1, h2⟩
    · simp at h
theorem twr_parts (p : Rw8 → Bool) (out : List Rw8) : out.take (out.takeWhile p).length = out.takeWhile p ∧ out.drop (out.takeWhile p).length = out.dropWhile p := by
  have h := List.takeWhile_append_dropWhile (p := p) (l := out)
  constructor
  · conv => lhs; arg 2; rw [← h]
    exact List.take_left' rfl
  · conv => lhs; arg 2; rw [← h]
    exact List.drop_left' rfl
theorem rowAt8 {h : H} {s : Sl} {A : List Rw8} (rd : Reads h s 7 (A.flatMap cW)) {i : Nat} {x : Rw8} (hx : A[i]? = some x) {K : Addr → Prop} (k : ∀ a, Cells h a (cW x) → K a) : idxA s (i : Int) 7 K := by
  obtain ⟨p, q1, q2, q3⟩ := rd_at cW_len (by omega) rd hx
  have hl := rd_len cW_len (by omega) rd
  exact idxR_of (i := i) q1 (by have := (List.getElem?_eq_some_iff.1 hx).1; omega) rfl (k _ q3)
theorem ldC8 {h : H} {a : Addr} {x : Rw8} {K : Cel → Prop} (c : Cells h a (cW x)) (k : K x.Cell) : ld_S_api_Cell h (a.add 0) K := by
  rw [add0]; exact ⟨x.Cell, Cells.pre c, k⟩
theorem cel_eq {x y : Cel} : ((x.View == y.View) && ((x.Key.toList == y.Key.toList) && ((x.Start == y.Start) && true))) = decide (cmpC x y = 0) := by
  rw [Bool.eq_iff_iff, decide_eq_true_eq, cC_zero]
  obtain ⟨a1, ⟨⟨a2⟩⟩, a3⟩ := x
  obtain ⟨b1, ⟨⟨b2⟩⟩, b3⟩ := y
  simp [toList_data]
theorem ordered_spec {h : H} {s : Sl} {A : List Rw8} {Q : Sl → H → Prop} (rd : Reads h s 7 (A.flatMap cW)) (hA : A.length < 10000000000000000000) (k : ∀ r h', Owns h' r tn_api_Row 7 ((ordL A).flatMap cW) → Mine h r → Ext h h' → Q r h') : F.spatelaw8_ordered s h Q := by
  unfold F.spatelaw8_ordered
  have hl := rd_len cW_len (by omega) rd
  refine ⟨201, ?_⟩
  have key : ∀ (d i : Nat) (h' : H) (so : Sl) (out : List Rw8), i ≤ A.length → i ≤ 200 → 200 - i < d → out = (A.take i).foldl ordI [] → out.length ≤ i → Owns h' so tn_api_Row 7 (out.flatMap cW) → Mine h so → Ext h h' → F.spatelaw8_ordered.l1 Q d s so (i : Int) h' := by
    intro d
    induction d with
    | zero => intro i h' so out _ _ hd; omega
    | succ d ih =>
      intro i h' so out hiA hi2 hd ho hol w m e
      have hlo := own_len cW_len (by omega) w
      unfold F.spatelaw8_ordered.l1
      simp only [decide_eq_true_eq, decide_eq_false_iff_not]
      rw [hl]
      have fin : (A.take 200).foldl ordI [] = out → ∀ b, b = false → F.spatelaw8_ordered.j9 Q (F.spatelaw8_ordered.l1 Q d) s so (i : Int) b h' := fun he b hb => by
        unfold F.spatelaw8_ordered.j9
        refine ⟨fun g => (by rw [hb] at g; cases g), fun _ => k so h' ?_ m e⟩
        unfold ordL; rw [he]; exact w
      refine ⟨fun gg => ?_, fun gg => fin ?_ _ rfl⟩
      · by_cases h200 : i < 200
        · rw [decide_eq_true (show (i : Int) < 200 by omega)]
          unfold F.spatelaw8_ordered.j9
          refine ⟨fun _ => ?_, fun g => (by cases g)⟩
          unfold F.spatelaw8_ordered.j2
          obtain ⟨x, hx⟩ : ∃ x, A[i]? = some x := ⟨_, List.getElem?_eq_getElem (by omega)⟩
          have hfold : (A.take (i + 1)).foldl ordI [] = ordI out x := by rw [tk_snoc hx, List.foldl_append, ← ho]; rfl
          have hol2 : (ordI out x).length ≤ i + 1 := by
            have hsc : SC out := by rw [ho]; exact (ord_fold (A.take i) [] .nil).1
            have := (ordI_sc (x := x) hsc).2.1; omega
          have j3 : ∀ (h2 : H) (so2 : Sl), Owns h2 so2 tn_api_Row 7 ((ordI out x).flatMap cW) → Mine h so2 → Ext h h2 → F.spatelaw8_ordered.j3 Q (F.spatelaw8_ordered.l1 Q d) s so2 (i : Int) h2 := fun h2 so2 w2 m2 e2 => by
            unfold F.spatelaw8_ordered.j3
            rw [w64s (by omega)]
            exact ih (i + 1) h2 so2 _ (by omega) (by omega) (by omega) hfold.symm hol2 w2 m2 e2
          obtain ⟨tp1, tp2⟩ := twr_parts (fun y : Rw8 => decide (cmpC y.Cell x.Cell < 0)) out
          have hget := fun j => twr_get (p := fun y : Rw8 => decide (cmpC y.Cell x.Cell < 0)) (out := out) (i := j)
          have htl : (out.takeWhile (fun y : Rw8 => decide (cmpC y.Cell x.Cell < 0))).length ≤ out.length := (List.takeWhile_prefix _).length_le
          generalize hat : (out.takeWhile (fun y : Rw8 => decide (cmpC y.Cell x.Cell < 0))).length = at_ at tp1 tp2 hget htl
          -- it is laid in
          have j7 : ∀ (h2 : H), Ext h' h2 → ordI out x = out.take at_ ++ x :: out.drop at_ → F.spatelaw8_ordered.j7 Q (F.spatelaw8_ordered.l1 Q d) s so (i : Int) (at_ : Int) h2 := fun h2 e2 hins => by
            have w2 := w.ext e2
            have hcap := cap_of w2
            unfold F.spatelaw8_ordered.j7
            refine cutL_of (lo := 0) (hi := at_) rfl rfl (by omega) (by omega) ?_
            have r1 := cut_reads (lo := 0) (hi := at_) cW_len (by omega) w2.reads (by omega) htl hcap
            simp only [List.drop_zero, Nat.sub_zero] at r1
            refine app_list (L := []) (M := out.take at_) cW_len (by omega) el_Slapi_Row (by simpa using Owns.nil h2 tn_api_Row 7) r1 (fun x => ones_S_api_Row x) (by simp only [List.length_nil, List.length_take]; omega) fun r5 h4 w5 o5 n5 => ?_
            have m5 : Mine h r5 := fun y hy => by
              rcases n5 with n5 | ⟨b', n5, n6⟩
              · rw [n5] at hy; simp [Sl.blk] at hy
              · rw [n5] at hy; cases hy; have := e.size; have := e2.size; omega
            have e4 : Ext h h4 := (e.trans e2).step o5 fun y hy hb => by simp [Sl.blk] at hb
            have w4 : Owns h4 so tn_api_Row 7 (out.flatMap cW) := w2.only o5 fun y hy hb => by simp [Sl.blk] at hb
            refine rowAt8 (rd.only e4 fun _ _ f => f) hx fun a ca => ⟨x, ca, ?_⟩
            refine push8 (f := cW) (x := x) el_Slapi_Row cW_len (by omega) (fun x => ones_S_api_Row x) e4 w5 m5 (by simp only [List.length_append, List.length_nil, List.length_take]; omega) fun s6 h6 w6 m6 e6 o6 => ?_
            have hso : Owns h6 so tn_api_Row 7 (out.flatMap cW) := w4.only o6 fun y hy hb => by
              rcases n5 with n5 | ⟨b', n5, n6⟩
              · rw [n5] at hb; simp [Sl.blk] at hb
              · rw [n5] at hb; cases hb; have := w2.blk_lt hy; omega
            refine cutL_of (lo := at_) (hi := out.length) rfl (by rw [hlo]) htl (by omega) ?_
            have r6 := cut_reads (lo := at_) (hi := out.length) cW_len (by omega) hso.reads htl (Nat.le_refl _) hcap
            rw [List.take_of_length_le (by rw [List.length_drop]; omega)] at r6
            refine app_list (L := [] ++ out.take at_ ++ [x]) (M := out.drop at_) cW_len (by omega) el_Slapi_Row w6 r6 (fun x => ones_S_api_Row x) (by simp only [List.length_append, List.length_nil, List.length_take, List.length_singleton, List.length_drop]; omega) fun r7 h7 w7 o7 n7 => ?_
            have m7 : Mine h r7 := fun y hy => by
              rcases n7 with n7 | ⟨b', n7, n8⟩
              · exact m6 y (by rw [← n7]; exact hy)
              · rw [n7] at hy; cases hy; have := e6.size; omega
            refine j3 h7 r7 ?_ m7 (e6.mine m6 o7)
            rw [hins]
            simpa using w7
          refine ⟨out.length + 1, ?_⟩
          have find : ∀ (d2 j : Nat) (h2 : H), j ≤ at_ → at_ - j < d2 → Ext h' h2 → F.spatelaw8_ordered.l4 Q (F.spatelaw8_ordered.l1 Q d) d2 s so (i : Int) (j : Int) h2 := by
            intro d2
            induction d2 with
            | zero => intro j h2 _ hd2; omega
            | succ d2 ih2 =>
              intro j h2 hj hd2 e2
              have w2 := w.ext e2
              have rd2 := rd.only (e.trans e2) fun _ _ f => f
              unfold F.spatelaw8_ordered.l4
              simp only [decide_eq_true_eq, decide_eq_false_iff_not]
              rw [hlo]
              refine ⟨fun g2 => ?_, fun g2 => ?_⟩
              · obtain ⟨v, hv⟩ : ∃ v, out[j]? = some v := ⟨_, List.getElem?_eq_getElem (by omega)⟩
                refine rowAt8 w2.reads hv fun a1 c1 => ldC8 c1 (rowAt8 rd2 hx fun a2 c2 => ldC8 c2 ?_)
                refine CompareR_spec fun h3 e3 => ?_
                unfold F.spatelaw8_ordered.j6
                by_cases hja : j < at_
                · obtain ⟨v', hv', hp⟩ := hget j hja
                  rw [hv] at hv'; cases hv'
                  rw [hp]
                  refine ⟨fun _ => ?_, fun g => (by cases g)⟩
                  unfold F.spatelaw8_ordered.j5
                  rw [w64s (by omega)]
                  exact ih2 (j + 1) h3 (by omega) (by omega) (e2.trans e3)
                · have hje : j = at_ := by omega
                  subst hje
                  have hdr : out.dropWhile (fun y : Rw8 => decide (cmpC y.Cell x.Cell < 0)) = v :: out.drop (j + 1) := by rw [← tp2]; exact drop_cons hv
                  have hvp : decide (cmpC v.Cell x.Cell < 0) = false := by
                    have := List.head?_dropWhile_not (p := fun y : Rw8 => decide (cmpC y.Cell x.Cell < 0)) (l := out)
                    rw [hdr] at this
                    simpa using this
                  rw [hvp]
                  refine ⟨fun g => (by cases g), fun _ => ⟨fun _ => ?_, fun g => absurd g2 (by simpa [hlo] using g)⟩⟩
                  have w3 := w2.ext e3
                  have rd3 := rd2.only e3 fun _ _ f => f
                  refine rowAt8 w3.reads hv fun a1 c1 => ldC8 c1 (rowAt8 rd3 hx fun a2 c2 => ldC8 c2 ?_)
                  rw [cel_eq]
                  unfold F.spatelaw8_ordered.j8
                  refine ⟨fun g => ?_, fun g => ?_⟩
                  · have hz := of_decide_eq_true g
                    refine j3 h3 so ?_ m ((e.trans e2).trans e3)
                    have : ordI out x = out := by unfold ordI; rw [hdr]; simp only [if_pos hz]
                    rw [this]; exact w3
                  · have hz := of_decide_eq_false g
                    refine j7 h3 (e2.trans e3) ?_
                    unfold ordI; rw [hdr]; simp only [if_neg hz]
                    rw [tp1, drop_cons hv]
              · have hje : j = at_ ∧ at_ = out.length := by omega
                unfold F.spatelaw8_ordered.j6
                refine ⟨fun g => (by cases g), fun _ => ⟨fun g => absurd (by simpa [hlo] using g) g2, fun _ => ?_⟩⟩
                unfold F.spatelaw8_ordered.j8
                refine ⟨fun g => (by cases g), fun _ => ?_⟩
                rw [hje.1]
                refine j7 h2 e2 ?_
                have hdr : out.dropWhile (fun y : Rw8 => decide (cmpC y.Cell x.Cell < 0)) = [] := by rw [← tp2, hje.2]; simp
                unfold ordI; rw [hdr, hje.2]; simp
          exact find _ 0 h' (by omega) (by omega) (.refl _)
        · rw [decide_eq_false (show ¬ (i : Int) < 200 by omega)]
          have : i = 200 := by omega
          exact fin (by rw [ho, this]) _ rfl
      · have : i = A.length := by omega
        rw [ho, this, List.take_length, List.take_of_length_le (by omega)]
  exact key _ 0 h _ [] (by omega) (by omega) (by omega) rfl (by simp) (by simpa using Owns.nil h tn_api_Row 7) (.nil _ _ _) (.refl _)
end Go.Proofs.Ytidpbnbjpglhfaa.V
namespace Go.Proofs.Ytidpbnbjpglhfaa.V
open Go
set_option linter.unusedVariables false
set_option linter.unusedSimpArgs false
section
variable {T : Type} {P : Program} {enc : TypeId × Value → T} {w : World} {base : Nat} {spare : Nat → Bool} {held : Bool} {fuel : Nat}
theorem cells_of {a : Addr} {n : Nat} {cs : List Value} (h : w.cells? base a n = some cs) : cs.length = n ∧ ∀ j v, cs[j]? = some v → w.cell? (a.add j) = some v := by
  obtain ⟨h1, h2, h3⟩ := World.cells?_some h
  refine ⟨h2, fun j v hv => ?_⟩
  have hj : j < n := by rw [← h2]; exact (List.getElem?_eq_some_iff.1 hv).1
  rw [h3 j hj, hv]
/-- A slice that came in, each of whose things is asL G says. -/
theorem open_slice {t e : TypeId} {k : Nat} {v : Value} {x : DataW T × List MemPlace} (G : List Value → Prop) (ht : P.underlying t = some (.slice e)) (hk : P.cellsOf e = k) (hk0 : 0 < k) (h : DataW.trod enc P w base spare held fuel t [v] = some x)
    (hG : ∀ n cs y, DataW.trod enc P w base spare held n e cs = some y → cs.length = k → G cs) :
    ∃ s : Sl, v = s.enc ∧ s.len ≤ s.cap ∧ s.cap ≤ maxLen ∧ ∃ CS : List (List Value), CS.length = s.len ∧ (∀ c ∈ CS, c.length = k ∧ G c) ∧ Reads w.heap s k CS.flatten ∧ (CS ≠ [] → ∀ b, s.blk = some b → b < w.heap.size) := by
  rcases DataW.trod_slice ht h with ⟨h0, _⟩ | ⟨a, len, cap, elems, rest, n, _, h0, _, hb, hl, hm, hlen, hel, _, _⟩
  · simp at h0; subst h0
    exact ⟨⟨none, 0, 0⟩, rfl, Nat.le_refl _, Nat.zero_le _, [], rfl, (fun c hc => by cases hc), ⟨by simp, fun _ => ⟨rfl, rfl⟩, fun i v hv => by simp at hv⟩, fun h => absurd rfl h⟩
  · simp at h0; subst h0
    rw [hk] at hel
    have each : ∀ i, i < len → ∃ cs, w.cells? base (a.add (i * k)) k = some cs ∧ G cs := fun i hi => by
      have hx := hel i hi
      rw [List.getElem?_eq_getElem (by omega), Option.bind_eq_some_iff] at hx
      obtain ⟨cs, hc, ht'⟩ := hx
      exact ⟨cs, hc, hG _ _ _ ht' (cells_of hc).1⟩
    obtain ⟨CS, hCS, hall⟩ : ∃ CS : List (List Value), CS.length = len ∧ ∀ i c, CS[i]? = some c → w.cells? base (a.add (i * k)) k = some c ∧ G c := by
      clear hel h
      have : ∀ m, m ≤ len → ∃ CS : List (List Value), CS.length = m ∧ ∀ i c, CS[i]? = some c → w.cells? base (a.add (i * k)) k = some c ∧ G c := fun m => by
        induction m with
        | zero => intro _; exact ⟨[], rfl, fun i c hc => by simp at hc⟩
        | succ m ih =>
          intro hm2
          obtain ⟨CS, h1, h2⟩ := ih (by omega)
          obtain ⟨c, h3, h4⟩ := each m (by omega)
          refine ⟨CS ++ [c], by simp [h1], fun i d hd => ?_⟩
          by_cases hi : i < CS.length
          · rw [List.getElem?_append_left hi] at hd; exact h2 i d hd
          · rw [List.getElem?_append_right (by omega)] at hd
            have hi2 : i - CS.length = 0 := by
              have := (List.getElem?_eq_some_iff.1 hd).1
              simp at this; omega
            rw [hi2] at hd; simp at hd; subst hd
            have : i = m := by omega
            subst this; exact ⟨h3, h4⟩
      exact this len (Nat.le_refl _)
    have hlen' : ∀ c ∈ CS, c.length = k ∧ G c := fun c hc => by
      obtain ⟨i, hi⟩ := List.mem_iff_getElem?.1 hc
      exact ⟨(cells_of (hall i c hi).1).1, (hall i c hi).2⟩
    have hspot : 0 < len → a.spot = none ∧ a.block < w.heap.size := fun h0 => by
      obtain ⟨c, hc⟩ : ∃ c, CS[0]? = some c := ⟨_, List.getElem?_eq_getElem (by omega)⟩
      obtain ⟨h1, h2⟩ := cells_of (hall 0 c hc).1
      obtain ⟨v, hv⟩ : ∃ v, c[0]? = some v := ⟨_, List.getElem?_eq_getElem (by omega)⟩
      have hcell : cellH w.heap ((a.add (0 * k)).add 0) = some v := h2 0 v hv
      have e0 : ∀ p : Addr, p.add 0 = p := fun p => by unfold Addr.add; split <;> simp_all
      rw [Nat.zero_mul, e0, e0] at hcell
      unfold cellH at hcell
      split at hcell
      · rename_i hh
        refine ⟨?_, (Array.getElem?_eq_some_iff.1 hh).1⟩
        cases hs : a.spot with
        | none => rfl
        | some s => rw [hs] at hcell; simp at hcell
      · cases hcell
    refine ⟨⟨some a, len, cap⟩, rfl, hl, hm, CS, hCS, hlen', ⟨?_, (fun h => by cases h), fun i v hv => ?_⟩, fun hne b hb => ?_⟩
    · rw [← hCS]
      have : ∀ (L : List (List Value)), (∀ c ∈ L, c.length = k) → L.flatten.length = L.length * k := fun L => by
        induction L with
        | nil => intro _; simp
        | cons c r ih => intro hL; simp [hL c (by simp), ih fun c hc => hL c (List.mem_cons_of_mem _ hc), Nat.add_mul]; omega
      exact this CS fun c hc => (hlen' c hc).1
    · have : ∀ (L : List (List Value)) (m : Nat), (∀ c ∈ L, c.length = k) → (∀ i c, L[i]? = some c → ∀ j v, c[j]? = some v → w.cell? (a.add ((m + i) * k + j)) = some v) → ∀ i v, L.flatten[i]? = some v → w.cell? (a.add (m * k + i)) = some v := fun L => by
        induction L with
        | nil => intro m _ _ i v hv; simp at hv
        | cons c r ih =>
          intro m hL hc i v hv
          have hcl := hL c (by simp)
          rw [List.flatten_cons] at hv
          by_cases hi : i < c.length
          · rw [List.getElem?_append_left hi] at hv
            exact hc 0 c rfl i v hv
          · rw [List.getElem?_append_right (by omega)] at hv
            have := ih (m + 1) (fun c hc => hL c (List.mem_cons_of_mem _ hc)) (fun i d hd j v hj => by
              have := hc (i + 1) d (by simpa using hd) j v hj
              rwa [show m + (i + 1) = m + 1 + i from by omega] at this) _ v hv
            rwa [show (m + 1) * k + (i - c.length) = m * k + i from by rw [Nat.add_mul]; omega] at this
      have hlt : 0 < len := by
        rcases Nat.eq_zero_or_pos len with h0 | h0
        · have : CS = [] := List.eq_nil_of_length_eq_zero (by omega)
          subst this; simp at hv
        · exact h0
      obtain ⟨hsp, _⟩ := hspot hlt
      refine ⟨a, rfl, hsp, ?_⟩
      have := this CS 0 (fun c hc => (hlen' c hc).1) (fun i c hc j v hj => by
        have h1 := (cells_of (hall i c hc).1).2 j v hj
        obtain ⟨ab, ao, asp⟩ := a
        simp only at hsp; subst hsp
        rw [add_lit, add_lit] at h1
        rw [add_lit, Nat.zero_add, ← Nat.add_assoc]; exact h1) i v hv
      rw [Nat.zero_mul, Nat.zero_add] at this
      exact this
    · simp [Sl.blk] at hb
      subst hb
      have : 0 < len := by
        rw [← hCS]; exact List.length_pos_iff.2 hne
      exact (hspot this).2
end
end Go.Proofs.Ytidpbnbjpglhfaa.V
namespace Go.Proofs.Ytidpbnbjpglhfaa.V
open Go
set_option linter.unusedVariables false
section
variable {T : Type} {enc : TypeId × Value → T} {w : World} {base : Nat} {spare : Nat → Bool} {held : Bool} {fuel : Nat}
theorem list3 {β : Type} : ∀ {l : List β}, l.length = 3 → ∃ a b c, l = [a, b, c]
  | [a, b, c], _ => ⟨a, b, c, rfl⟩
theorem cell_open {cs : List Value} {y : DataW T × List MemPlace} (h : DataW.trod enc PP w base spare held fuel 34 cs = some y) (hl : cs.length = 3) :
    ∃ c : Cel, cs = c.cells ∧ (-9223372036854775808 ≤ c.View ∧ c.View < 9223372036854775808) ∧ (-9223372036854775808 ≤ c.Start ∧ c.Start < 9223372036854775808) ∧ c.Key.size ≤ maxLen := by
  obtain ⟨xs, n, _, _, _, hlen, hf⟩ := DataW.trod_struct Try.underlying34 h
  have hlen3 : xs.length = 3 := hlen
  have k3 : PP.cellsOf 3 = 1 := by kernel_rfl
  have k9 : PP.cellsOf 9 = 1 := by kernel_rfl
  have k2 : PP.cellsOf 2 = 1 := by kernel_rfl
  obtain ⟨c0, c1, c2, rfl⟩ := list3 hl
  obtain ⟨y0, y1, y2, rfl⟩ := list3 hlen3
  have f0 : DataW.trod enc PP w base spare held n 3 (([c0, c1, c2].drop 0).take (PP.cellsOf 3)) = some y0 := hf 0 _ rfl
  have f1 : DataW.trod enc PP w base spare held n 9 (([c0, c1, c2].drop 1).take (PP.cellsOf 9)) = some y1 := hf 1 _ rfl
  have f2 : DataW.trod enc PP w base spare held n 2 (([c0, c1, c2].drop 2).take (PP.cellsOf 2)) = some y2 := hf 2 _ rfl
  rw [k3] at f0
  rw [k9] at f1
  rw [k2] at f2
  simp only [List.drop_zero, List.drop_succ_cons, List.take_succ_cons, List.take_zero] at f0 f1 f2
  obtain ⟨m0, e0, _, w0⟩ := DataW.trod_int Try.underlying3 f0
  obtain ⟨s1, e1, _, w1⟩ := DataW.trod_string Try.underlying9 f1
  obtain ⟨m2, e2, _, w2⟩ := DataW.trod_int Try.underlying2 f2
  simp only [List.cons.injEq, and_true] at e0 e1 e2
  subst e0; subst e1; subst e2
  exact ⟨⟨m0, s1, m2⟩, rfl, i64_of w0, i64_of w2, w1⟩
end
end Go.Proofs.Ytidpbnbjpglhfaa.V
namespace Go.Proofs.Ytidpbnbjpglhfaa.V
open Go
set_option linter.unusedVariables false
set_option linter.unusedSimpArgs false
section
variable {T : Type} {enc : TypeId × Value → T} {w : World} {base : Nat} {spare : Nat → Bool} {held : Bool} {fuel : Nat}
theorem gen_open {α : Type} (f : α → List Value) (ok : α → Prop) {t e : TypeId} {k : Nat} {v : Value} {y : DataW T × List MemPlace} (hf : ∀ x, (f x).length = k) (ht : PP.underlying t = some (.slice e)) (hk : PP.cellsOf e = k) (hk0 : 0 < k) (h : DataW.trod enc PP w base spare held fuel t [v] = some y)
    (hG : ∀ n cs y, DataW.trod enc PP w base spare held n e cs = some y → cs.length = k → ∃ x, cs = f x ∧ ok x) :
    ∃ (s : Sl) (L : List α), v = s.enc ∧ Reads w.heap s k (L.flatMap f) ∧ s.len ≤ s.cap ∧ (L ≠ [] → ∀ b, s.blk = some b → b < w.heap.size) ∧ (∀ x ∈ L, ok x) ∧ L.length ≤ 9223372036854775807 := by
  obtain ⟨s, h1, h2, h3, CS, h4, h5, h6, h7⟩ := open_slice (fun cs => ∃ x : α, cs = f x ∧ ok x) ht hk hk0 h fun n cs y hy hl => hG n cs y hy hl
  have : ∀ (L : List (List Value)), (∀ c ∈ L, c.length = k ∧ ∃ x : α, c = f x ∧ ok x) → ∃ S : List α, L = S.map f ∧ ∀ x ∈ S, ok x := fun L => by
    induction L with
    | nil => intro _; exact ⟨[], rfl, fun n hn => by cases hn⟩
    | cons c r ih =>
      intro hL
      obtain ⟨E, h1, h2⟩ := ih fun c hc => hL c (List.mem_cons_of_mem _ hc)
      obtain ⟨_, n, rfl, hn⟩ := hL c (by simp)
      refine ⟨n :: E, by rw [h1]; rfl, fun m hm => ?_⟩
      rcases List.mem_cons.1 hm with e | e
      · subst e; exact hn
      · exact h2 m e
  obtain ⟨S, rfl, hS⟩ := this CS h5
  have hr : Reads w.heap s k (S.flatMap f) := by rw [List.flatMap_def]; exact h6
  refine ⟨s, S, h1, hr, h2, fun hn b hb => h7 (by simpa using hn) b hb, hS, ?_⟩
  have := rd_len hf hk0 hr
  simp only [maxLen] at h3; omega
theorem list4 {β : Type} : ∀ {l : List β}, l.length = 4 → ∃ a b c d, l = [a, b, c, d]
  | [a, b, c, d], _ => ⟨a, b, c, d, rfl⟩
theorem list2 {β : Type} : ∀ {l : List β}, l.length = 2 → ∃ a b, l = [a, b]
  | [a, b], _ => ⟨a, b, rfl⟩
theorem agg_open {cs : List Value} {y : DataW T × List MemPlace} (h : DataW.trod enc PP w base spare held fuel tn_api_Agg cs = some y) (hl : cs.length = 4) : ∃ x : S_api_Agg, cs = x.cells := by
  obtain ⟨xs, n, _, _, _, hlen, hf⟩ := DataW.trod_struct ut_api_Agg h
  have hlen4 : xs.length = 4 := hlen
  have k2 : PP.cellsOf 2 = 1 := by kernel_rfl
  obtain ⟨c0, c1, c2, c3, rfl⟩ := list4 hl
  obtain ⟨y0, y1, y2, y3, rfl⟩ := list4 hlen4
  have f0 : DataW.trod enc PP w base spare held n 2 (([c0, c1, c2, c3].drop 0).take (PP.cellsOf 2)) = some y0 := hf 0 _ rfl
  have f1 : DataW.trod enc PP w base spare held n 2 (([c0, c1, c2, c3].drop 1).take (PP.cellsOf 2)) = some y1 := hf 1 _ rfl
  have f2 : DataW.trod enc PP w base spare held n 2 (([c0, c1, c2, c3].drop 2).take (PP.cellsOf 2)) = some y2 := hf 2 _ rfl
  have f3 : DataW.trod enc PP w base spare held n 2 (([c0, c1, c2, c3].drop 3).take (PP.cellsOf 2)) = some y3 := hf 3 _ rfl
  rw [k2] at f0 f1 f2 f3
  simp only [List.drop_zero, List.drop_succ_cons, List.take_succ_cons, List.take_zero] at f0 f1 f2 f3
  obtain ⟨m0, e0, _, w0⟩ := DataW.trod_int Try.underlying2 f0
  obtain ⟨m1, e1, _, w1⟩ := DataW.trod_int Try.underlying2 f1
  obtain ⟨m2, e2, _, w2⟩ := DataW.trod_int Try.underlying2 f2
  obtain ⟨m3, e3, _, w3⟩ := DataW.trod_int Try.underlying2 f3
  simp only [List.cons.injEq, and_true] at e0 e1 e2 e3
  subst e0; subst e1; subst e2; subst e3
  exact ⟨⟨m0, m1, m2, m3⟩, rfl⟩
theorem row_open {cs : List Value} {y : DataW T × List MemPlace} (h : DataW.trod enc PP w base spare held fuel tn_api_Row cs = some y) (hl : cs.length = 7) : ∃ x : Rw8, cs = cW x ∧ True := by
  obtain ⟨xs, n, _, _, _, hlen, hf⟩ := DataW.trod_struct ut_api_Row h
  have hlen2 : xs.length = 2 := hlen
  have k3 : PP.cellsOf tn_api_Cell = 3 := by kernel_rfl
  have k4 : PP.cellsOf tn_api_Agg = 4 := by kernel_rfl
  obtain ⟨y0, y1, rfl⟩ := list2 hlen2
  have f0 : DataW.trod enc PP w base spare held n tn_api_Cell ((cs.drop 0).take (PP.cellsOf tn_api_Cell)) = some y0 := hf 0 _ rfl
  have f1 : DataW.trod enc PP w base spare held n tn_api_Agg ((cs.drop 3).take (PP.cellsOf tn_api_Agg)) = some y1 := hf 1 _ rfl
  rw [k3] at f0
  rw [k4] at f1
  obtain ⟨c, hc, _⟩ := cell_open f0 (by simp; omega)
  obtain ⟨a, ha⟩ := agg_open f1 (by simp; omega)
  refine ⟨⟨c, a⟩, ?_, trivial⟩
  have h1 : cs = cs.take 3 ++ (cs.drop 3).take 4 := by
    conv => lhs; rw [← List.take_append_drop 3 cs]
    rw [List.take_of_length_le (l := cs.drop 3) (by simp; omega)]
  rw [h1]
  rw [List.drop_zero] at hc
  rw [hc, ha]; rfl
theorem rows_open {v : Value} {y : DataW T × List MemPlace} (h : DataW.trod enc PP w base spare held fuel tn_Slapi_Row [v] = some y) :
    ∃ (s : Sl) (L : List Rw8), v = s.enc ∧ Reads w.heap s 7 (L.flatMap cW) ∧ s.len ≤ s.cap ∧ (L ≠ [] → ∀ b, s.blk = some b → b < w.heap.size) ∧ (∀ x ∈ L, True) ∧ L.length ≤ 9223372036854775807 :=
  gen_open cW (fun _ => True) cW_len ut_Slapi_Row (show PP.cellsOf tn_api_Row = 7 from by kernel_rfl) (by omega) h fun n cs y hy hl => row_open hy hl
end
end Go.Proofs.Ytidpbnbjpglhfaa.V
namespace Go.Proofs.Ytidpbnbjpglhfaa.V
open Go
set_option linter.unusedVariables false
set_option linter.unusedSimpArgs false
theorem lists_le {LL : List (List Int)} {n : Nat} (h : ∀ A ∈ LL, A.length ≤ n) (m : Nat) : (listsM leI m LL).length ≤ LL.length * n := Nat.le_trans (listsM_int_len leI m LL) (flat_le h)
section
variable {RR : List (Sl × List Rw8)} {II : List (Sl × List Int)}
end
end Go.Proofs.Ytidpbnbjpglhfaa.V
namespace Go.Proofs.Ytidpbnbjpglhfaa.V
open Go
set_option linter.unusedVariables false
set_option linter.unusedSimpArgs false
theorem Blk.cells {h : H} {n : Nat} {cs : List Value} {e : TypeId} (b : Blk h n cs.toArray e) : Cells h ⟨n, 0, none⟩ cs := fun i v hv => by
  rw [add_lit, Nat.zero_add]
  exact b.cell (by simpa using hv)
end Go.Proofs.Ytidpbnbjpglhfaa.V
namespace Go.Proofs.Ytidpbnbjpglhfaa.V
open Go
set_option linter.unusedVariables false
set_option linter.unusedSimpArgs false
theorem row_of {h : H} {l : List (Sl × List Rw8)} (hl : ∀ p ∈ l, Owns h p.1 tn_api_Row 7 (p.2.flatMap cW)) : ∀ (i : Nat) s R, (l.map (·.1))[i]? = some s → (l.map (·.2))[i]? = some R → Owns h s tn_api_Row 7 (R.flatMap cW) := by
  intro i s R h1 h2
  rw [List.getElem?_map] at h1 h2
  cases hx : l[i]? with
  | none => rw [hx] at h1; cases h1
  | some p =>
    rw [hx] at h1 h2
    cases h1; cases h2
    exact hl p (List.mem_of_getElem? hx)
theorem tab_at {hh : H} {s : Sl} {ss : List Sl} (w : Reads hh s 1 (ss.flatMap cS8)) {i : Nat} {x : Sl} (hs : ss[i]? = some x) {K : Sl → Prop} (k : K x) : idxA s (i : Int) 1 fun a => ldL hh a K := by
  obtain ⟨q, r1, r2, r3⟩ := rd_at cS8_len (by omega) w hs
  have hl := rd_len cS8_len (by omega) w
  exact idxR_of (i := i) r1 (by have := (List.getElem?_eq_some_iff.1 hs).1; omega) rfl ((ldL_iff r3.one).2 k)
end Go.Proofs.Ytidpbnbjpglhfaa.V
namespace Go.Proofs.Ytidpbnbjpglhfaa.V
open Go
set_option linter.unusedVariables false
set_option linter.unusedSimpArgs false
section
variable {T : Type} {enc : TypeId × Value → T} {w : World} {base : Nat} {spare : Nat → Bool} {held : Bool} {fuel : Nat}
theorem ints_open8 {v : Value} {y : DataW T × List MemPlace} (h : DataW.trod enc PP w base spare held fuel tn_Slint [v] = some y) :
    ∃ (s : Sl) (L : List Int), v = s.enc ∧ Reads w.heap s 1 (L.flatMap cI) ∧ s.len ≤ s.cap ∧ (L ≠ [] → ∀ b, s.blk = some b → b < w.heap.size) ∧ (∀ n ∈ L, -9223372036854775808 ≤ n ∧ n < 9223372036854775808) ∧ L.length ≤ 9223372036854775807 :=
  gen_open cI (fun n => -9223372036854775808 ≤ n ∧ n < 9223372036854775808) cI_len ut_Slint (show PP.cellsOf tn_int = 1 from by kernel_rfl) (by omega) h fun n cs y hy _ => by
    obtain ⟨m, e1, _, e2⟩ := DataW.trod_int Try.underlying3 hy
    exact ⟨m, e1, i64_of e2⟩
end
end Go.Proofs.Ytidpbnbjpglhfaa.V
