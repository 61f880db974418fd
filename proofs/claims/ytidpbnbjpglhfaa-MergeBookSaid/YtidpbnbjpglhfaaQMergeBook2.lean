/- Parts of the proof of MergeBook; no condition. -/
import Derived.Test.YtidpbnbjpglhfaaQMergeBook1
namespace Go.Proofs.Ytidpbnbjpglhfaa.V
open Go
set_option linter.unusedVariables false
set_option maxRecDepth 100000
def F.spateref8_Rows.j1 (Q : Sl → H → Prop) (x5 : Sl) (h : H) : Prop :=
  Q x5 h
def F.spateref8_Rows.j4 (Q : Sl → H → Prop) (C1 : Int → Sl → Sl → Sl → H → Prop) (C2 : Int → Sl → Sl → Sl → Int → Int → H → Prop) (x0 : Int) (x1 : Sl) (x5 : Sl) (x6 : Sl) (x7 : Int) (x8 : Int) (h : H) : Prop :=
  C2 x0 x1 x5 x6 x7 (IntKind.wrap .i64 (x8 + 1)) h
def F.spateref8_Rows.j5 (Q : Sl → H → Prop) (C1 : Int → Sl → Sl → Sl → H → Prop) (C2 : Int → Sl → Sl → Sl → Int → Int → H → Prop) (x0 : Int) (x1 : Sl) (x5 : Sl) (x6 : Sl) (x7 : Int) (x8 : Int) (x61 : Bool) (h : H) : Prop :=
  (x61 = true →
  F.spateref8_Rows.j4 Q C1 C2 x0 x1 x5 x6 x8 x8 h) ∧
  (x61 = false →
  F.spateref8_Rows.j4 Q C1 C2 x0 x1 x5 x6 x7 x8 h)
def F.spateref8_Rows.l3 (Q : Sl → H → Prop) (C1 : Int → Sl → Sl → Sl → H → Prop) : Nat → Int → Sl → Sl → Sl → Int → Int → H → Prop
  | 0, _, _, _, _, _, _, _ => False
  | q3 + 1, x0, x1, x5, x6, x7, x8, h =>
    ((decide (x8 < (x1.len : Int))) = true →
    idxA x6 x8 1 fun a6 =>
    ldI .i64 h a6 fun y8 =>
    idxA x1 x8 1 fun a10 =>
    ldL h a10 fun y12 =>
    ((decide (y8 < (y12.len : Int))) = true →
    ((decide (x7 < 0)) = true →
    F.spateref8_Rows.j5 Q C1 (F.spateref8_Rows.l3 Q C1 q3) x0 x1 x5 x6 x7 x8 true h) ∧
    ((decide (x7 < 0)) = false →
    idxA x1 x8 1 fun a16 =>
    ldL h a16 fun y18 =>
    idxA x6 x8 1 fun a20 =>
    ldI .i64 h a20 fun y22 =>
    idxA y18 y22 7 fun a24 =>
    ld_S_api_Cell h (a24.add 0) fun y26 =>
    idxA x1 x7 1 fun a28 =>
    ldL h a28 fun y30 =>
    idxA x6 x7 1 fun a32 =>
    ldI .i64 h a32 fun y34 =>
    idxA y30 y34 7 fun a36 =>
    ld_S_api_Cell h (a36.add 0) fun y38 =>
    F.spateref8_Compare y26 y38 h fun r41 h40 =>
    F.spateref8_Rows.j5 Q C1 (F.spateref8_Rows.l3 Q C1 q3) x0 x1 x5 x6 x7 x8 (decide (r41 < 0)) h40)) ∧
    ((decide (y8 < (y12.len : Int))) = false →
    F.spateref8_Rows.j5 Q C1 (F.spateref8_Rows.l3 Q C1 q3) x0 x1 x5 x6 x7 x8 false h)) ∧
    ((decide (x8 < (x1.len : Int))) = false →
    ((decide (x7 < 0)) = true →
    F.spateref8_Rows.j1 Q x5 h) ∧
    ((decide (x7 < 0)) = false →
    idxA x1 x7 1 fun a43 =>
    ldL h a43 fun y45 =>
    idxA x6 x7 1 fun a47 =>
    ldI .i64 h a47 fun y49 =>
    idxA y45 y49 7 fun a51 =>
    ld_S_api_Row h a51 fun y53 =>
    newL h ((y53.cells).toArray) ty_66 1 fun s56 h55 =>
    runL PP (Builtin.append_ #[51, 51] 51 #[x5.enc, s56.enc]) h55 fun s58 h57 =>
    idxA x6 x7 1 fun a59 =>
    ldI .i64 h57 a59 fun y61 =>
    idxA x6 x7 1 fun a63 =>
    stH h57 a63 [(.int .i64 (IntKind.wrap .i64 (y61 + 1)))] fun h65 =>
    C1 x0 x1 s58 x6 h65))
def F.spateref8_Rows.l2 (Q : Sl → H → Prop) : Nat → Int → Sl → Sl → Sl → H → Prop
  | 0, _, _, _, _, _ => False
  | q2 + 1, x0, x1, x5, x6, h =>
    ((decide ((x5.len : Int) < x0)) = true →
    ∃ m, F.spateref8_Rows.l3 Q (F.spateref8_Rows.l2 Q q2) m x0 x1 x5 x6 (-1) 0 h) ∧
    ((decide ((x5.len : Int) < x0)) = false →
    F.spateref8_Rows.j1 Q x5 h)
/-- spate/spateref8.Rows -/
def F.spateref8_Rows (p0 : Int) (p1 : Sl) (h : H) (Q : Sl → H → Prop) : Prop :=
  runL PP (Instr.makeSlice 23 (.int .i64 (p1.len : Int)) (.int .i64 (p1.len : Int))) h fun s2 h1 =>
  ∃ m, F.spateref8_Rows.l2 Q m p0 p1 (⟨none, 0, 0⟩ : Sl) s2 h1
theorem F.spateref8_Rows_ok {p0 : Int} {p1 : Sl} {h : H} {Q : Sl → H → Prop} (H : F.spateref8_Rows p0 p1 h Q) : Fn PP 33 ([(.int .i64 p0), p1.enc] : List Value).toArray h fun r h' => ∃ r0, r = r0.enc ∧ Q r0 h' := by
  unfold F.spateref8_Rows at H
  refine fn_of Try.func33 Try.ntmps33 rfl rfl fun w0 => ?_
  refine tr_sub [(0, (.int .i64 p0)), (1, p1.enc)] ⟨rfl, rfl, trivial⟩ ?_
  refine tr_seq ?_
  refine tr_region ?_
  refine tr_p (y_assign rfl) rfl rfl ?_
  refine tr_nil ?_
  refine tr_thenN ?_
  refine tr_seq ?_
  refine tr_region ?_
  refine tr_p (y_assign rfl) rfl rfl ?_
  refine tr_nil ?_
  refine tr_thenN ?_
  refine tr_seq ?_
  refine tr_region ?_
  refine tr_p (y_move rfl) rfl rfl ?_
  refine tr_p (y_len (ts := #[]) Try.runUnderlying53 (o := p1.ptr) (n := p1.len) (cap := p1.cap) rfl) rfl rfl ?_
  refine tr_e (f_make rfl rfl H) rfl rfl ?_
  rintro _ h1 ⟨s2, rfl, H⟩
  refine tr_p (y_assign rfl) rfl rfl ?_
  refine tr_nil ?_
  refine tr_thenN ?_
  refine tr_seq_j (fun L' h => ∃ (x5 : Sl), L' = [(5, x5.enc)] ∧ F.spateref8_Rows.j1 Q x5 h) ?_ ?_
  · rintro L' h ⟨x5, rfl, H⟩
    unfold F.spateref8_Rows.j1 at H
    refine tr_seq ?_
    refine tr_region ?_
    refine tr_p (y_move rfl) rfl rfl ?_
    refine tr_p (y_assign rfl) rfl rfl ?_
    refine tr_nil ?_
    refine tr_thenN ?_
    refine tr_ret ?_
    exact tr_ret1 rfl rfl ⟨_, rfl, H⟩
  · refine tr_block ?_
    obtain ⟨m67, H⟩ := H
    refine tr_sub [(0, (.int .i64 p0)), (1, p1.enc), (5, (⟨none, 0, 0⟩ : Sl).enc), (6, s2.enc)] ⟨rfl, rfl, rfl, rfl, trivial⟩ ?_
    refine tr_loop_j (fun m L' h => ∃ (x0 : Int) (x1 : Sl) (x5 : Sl) (x6 : Sl), L' = [(0, (.int .i64 x0)), (1, x1.enc), (5, x5.enc), (6, x6.enc)] ∧ F.spateref8_Rows.l2 Q m x0 x1 x5 x6 h) ?_ ?_ m67 ⟨_, _, _, _, rfl, H⟩
    · rintro L' h ⟨_, _, _, _, _, H⟩; exact H
    · rintro q2 L' h ⟨x0, x1, x5, x6, rfl, H⟩
      unfold F.spateref8_Rows.l2 at H
      refine tr_seq ?_
      refine tr_seq ?_
      refine tr_region ?_
      refine tr_p (y_move rfl) rfl rfl ?_
      refine tr_p (y_len (ts := #[]) Try.runUnderlying51 (o := x5.ptr) (n := x5.len) (cap := x5.cap) rfl) rfl rfl ?_
      refine tr_p (y_move rfl) rfl rfl ?_
      refine tr_p (y_lss rfl rfl) rfl rfl ?_
      refine tr_nil ?_
      refine tr_thenN ?_
      refine tr_cond rfl (fun g3 => ?_) (fun g3 => ?_)
      · replace H := H.1 g3
        refine tr_skip ?_
        refine tr_thenN ?_
        refine tr_block ?_
        refine tr_seq ?_
        refine tr_region ?_
        refine tr_p (y_assign rfl) rfl rfl ?_
        refine tr_nil ?_
        refine tr_thenN ?_
        refine tr_seq ?_
        refine tr_seq ?_
        refine tr_region ?_
        refine tr_p (y_assign rfl) rfl rfl ?_
        refine tr_nil ?_
        refine tr_thenN ?_
        refine tr_block ?_
        obtain ⟨m66, H⟩ := H
        refine tr_sub [(0, (.int .i64 x0)), (1, x1.enc), (5, x5.enc), (6, x6.enc), (7, (.int .i64 (-1))), (8, (.int .i64 0))] ⟨rfl, rfl, rfl, rfl, rfl, rfl, trivial⟩ ?_
        refine tr_loop_j (fun m L' h => ∃ (x0 : Int) (x1 : Sl) (x5 : Sl) (x6 : Sl) (x7 : Int) (x8 : Int), L' = [(0, (.int .i64 x0)), (1, x1.enc), (5, x5.enc), (6, x6.enc), (7, (.int .i64 x7)), (8, (.int .i64 x8))] ∧ F.spateref8_Rows.l3 Q (F.spateref8_Rows.l2 Q q2) m x0 x1 x5 x6 x7 x8 h) ?_ ?_ m66 ⟨_, _, _, _, _, _, rfl, H⟩
        · rintro L' h ⟨_, _, _, _, _, _, _, H⟩; exact H
        · rintro q3 L' h ⟨x0, x1, x5, x6, x7, x8, rfl, H⟩
          unfold F.spateref8_Rows.l3 at H
          refine tr_seq ?_
          refine tr_seq ?_
          refine tr_region ?_
          refine tr_p (y_move rfl) rfl rfl ?_
          refine tr_p (y_move rfl) rfl rfl ?_
          refine tr_p (y_len (ts := #[]) Try.runUnderlying53 (o := x1.ptr) (n := x1.len) (cap := x1.cap) rfl) rfl rfl ?_
          refine tr_p (y_lss rfl rfl) rfl rfl ?_
          refine tr_nil ?_
          refine tr_thenN ?_
          refine tr_cond rfl (fun g4 => ?_) (fun g4 => ?_)
          · replace H := H.1 g4
            refine tr_skip ?_
            refine tr_thenN ?_
            refine tr_seq_j (fun L' h => ∃ (x0 : Int) (x1 : Sl) (x5 : Sl) (x6 : Sl) (x7 : Int) (x8 : Int), L' = [(0, (.int .i64 x0)), (1, x1.enc), (5, x5.enc), (6, x6.enc), (7, (.int .i64 x7)), (8, (.int .i64 x8))] ∧ F.spateref8_Rows.j4 Q (F.spateref8_Rows.l2 Q q2) (F.spateref8_Rows.l3 Q (F.spateref8_Rows.l2 Q q2) q3) x0 x1 x5 x6 x7 x8 h) ?_ ?_
            · rintro L' h ⟨x0, x1, x5, x6, x7, x8, rfl, H⟩
              unfold F.spateref8_Rows.j4 at H
              refine tr_region ?_
              refine tr_p (y_move rfl) rfl rfl ?_
              refine tr_p (y_add rfl rfl) rfl rfl ?_
              refine tr_p (y_assign rfl) rfl rfl ?_
              refine tr_nil ?_
              refine tr_thenN ?_
              exact tr_join [(0, (.int .i64 x0)), (1, x1.enc), (5, x5.enc), (6, x6.enc), (7, (.int .i64 x7)), (8, (.int .i64 (IntKind.wrap .i64 (x8 + 1))))] ⟨rfl, rfl, rfl, rfl, rfl, rfl, trivial⟩ ⟨_, _, _, _, _, _, rfl, H⟩
            · refine tr_block ?_
              refine tr_seq_j (fun L' h => ∃ (x0 : Int) (x1 : Sl) (x5 : Sl) (x6 : Sl) (x7 : Int) (x8 : Int) (x61 : Bool), L' = [(0, (.int .i64 x0)), (1, x1.enc), (5, x5.enc), (6, x6.enc), (7, (.int .i64 x7)), (8, (.int .i64 x8)), (61, (.bool x61))] ∧ F.spateref8_Rows.j5 Q (F.spateref8_Rows.l2 Q q2) (F.spateref8_Rows.l3 Q (F.spateref8_Rows.l2 Q q2) q3) x0 x1 x5 x6 x7 x8 x61 h) ?_ ?_
              · rintro L' h ⟨x0, x1, x5, x6, x7, x8, x61, rfl, H⟩
                unfold F.spateref8_Rows.j5 at H
                refine tr_cond rfl (fun g5 => ?_) (fun g5 => ?_)
                · replace H := H.1 g5
                  refine tr_region ?_
                  refine tr_p (y_move rfl) rfl rfl ?_
                  refine tr_p (y_assign rfl) rfl rfl ?_
                  refine tr_nil ?_
                  refine tr_blockN ?_
                  refine tr_thenN ?_
                  exact tr_join [(0, (.int .i64 x0)), (1, x1.enc), (5, x5.enc), (6, x6.enc), (7, (.int .i64 x8)), (8, (.int .i64 x8))] ⟨rfl, rfl, rfl, rfl, rfl, rfl, trivial⟩ ⟨_, _, _, _, _, _, rfl, H⟩
                · replace H := H.2 g5
                  refine tr_skip ?_
                  refine tr_blockN ?_
                  refine tr_thenN ?_
                  exact tr_join [(0, (.int .i64 x0)), (1, x1.enc), (5, x5.enc), (6, x6.enc), (7, (.int .i64 x7)), (8, (.int .i64 x8))] ⟨rfl, rfl, rfl, rfl, rfl, rfl, trivial⟩ ⟨_, _, _, _, _, _, rfl, H⟩
              · refine tr_draw mixed [0, 0, 3, 7, 0, 0, 48, 112, 240, 511, 1023, 2047, 4095, 8191, 16383, 16383, 65535, 131071, 16383, 16383, 802815, 1851391, 4194303, 8388607, 16777215, 16383, 16383, 100679679, 234897407, 16383, 16383, 1610629119, 3758112767, 8556396543, 17146331135, 34326200319, 68719476735, 137438953471, 274877906943, 549755813887] (by kernel_rfl) ?_
                refine g_p 0 1 rfl (by kernel_rfl) (y_move rfl) rfl rfl ?_
                refine g_p 1 3 rfl (by kernel_rfl) (y_move rfl) rfl rfl ?_
                obtain ⟨a6, e7, H⟩ := H
                refine g_p 2 7 rfl (by kernel_rfl) (f_idx (s := x6) Try.runUnderlying23 Try.sizeOf3 rfl rfl e7) rfl rfl ?_
                obtain ⟨y8, k9, H⟩ := H
                refine g_h 3 15 rfl (by kernel_rfl) (y_ld Try.isAgg3 rfl) k9 rfl rfl ?_
                refine g_p 4 31 rfl (by kernel_rfl) (y_move rfl) rfl rfl ?_
                refine g_p 5 63 rfl (by kernel_rfl) (y_move rfl) rfl rfl ?_
                obtain ⟨a10, e11, H⟩ := H
                refine g_p 6 127 rfl (by kernel_rfl) (f_idx (s := x1) Try.runUnderlying53 Try.sizeOf51 rfl rfl e11) rfl rfl ?_
                obtain ⟨y12, k13, H⟩ := H
                refine g_h 7 255 rfl (by kernel_rfl) (y_ld Try.isAgg51 rfl) k13 rfl rfl ?_
                refine g_p 8 511 rfl (by kernel_rfl) (y_len (ts := #[]) Try.runUnderlying51 (o := y12.ptr) (n := y12.len) (cap := y12.cap) rfl) rfl rfl ?_
                refine g_p 9 1023 rfl (by kernel_rfl) (y_lss rfl rfl) rfl rfl ?_
                refine g_p 10 2047 rfl (by kernel_rfl) (y_move rfl) rfl rfl ?_
                refine g_split (t := 32) rfl (fun g14 => ?_) (fun g14 => ?_)
                · replace H := H.1 g14
                  refine g_p 11 4095 rfl (by kernel_rfl) (y_move rfl) rfl rfl ?_
                  refine g_p 12 8191 rfl (by kernel_rfl) (y_lss rfl rfl) rfl rfl ?_
                  refine g_p 13 16383 rfl (by kernel_rfl) (y_move rfl) rfl rfl ?_
                  refine g_split (t := 35) rfl (fun g15 => ?_) (fun g15 => ?_)
                  · replace H := H.1 g15
                    refine g_s 14 32767 rfl (by kernel_rfl) rfl rfl ?_
                    refine g_s 15 65535 rfl (by kernel_rfl) rfl rfl ?_
                    refine g_s 16 131071 rfl (by kernel_rfl) rfl rfl ?_
                    refine g_s 17 262143 rfl (by kernel_rfl) rfl rfl ?_
                    refine g_s 18 524287 rfl (by kernel_rfl) rfl rfl ?_
                    refine g_s 19 1048575 rfl (by kernel_rfl) rfl rfl ?_
                    refine g_s 20 2097151 rfl (by kernel_rfl) rfl rfl ?_
                    refine g_s 21 4194303 rfl (by kernel_rfl) rfl rfl ?_
                    refine g_s 22 8388607 rfl (by kernel_rfl) rfl rfl ?_
                    refine g_s 23 16777215 rfl (by kernel_rfl) rfl rfl ?_
                    refine g_s 24 33554431 rfl (by kernel_rfl) rfl rfl ?_
                    refine g_s 25 67108863 rfl (by kernel_rfl) rfl rfl ?_
                    refine g_s 26 134217727 rfl (by kernel_rfl) rfl rfl ?_
                    refine g_s 27 268435455 rfl (by kernel_rfl) rfl rfl ?_
                    refine g_s 28 536870911 rfl (by kernel_rfl) rfl rfl ?_
                    refine g_s 29 1073741823 rfl (by kernel_rfl) rfl rfl ?_
                    refine g_s 30 2147483647 rfl (by kernel_rfl) rfl rfl ?_
                    refine g_s 31 4294967295 rfl (by kernel_rfl) rfl rfl ?_
                    refine g_s 32 8589934591 rfl (by kernel_rfl) rfl rfl ?_
                    refine g_s 33 17179869183 rfl (by kernel_rfl) rfl rfl ?_
                    refine g_s 34 34359738367 rfl (by kernel_rfl) rfl rfl ?_
                    refine g_s 35 68719476735 rfl (by kernel_rfl) rfl rfl ?_
                    refine g_s 36 137438953471 rfl (by kernel_rfl) rfl rfl ?_
                    refine g_s 37 274877906943 rfl (by kernel_rfl) rfl rfl ?_
                    refine g_p 38 549755813887 rfl (by kernel_rfl) (y_pick_t rfl rfl) rfl rfl ?_
                    refine g_p 39 1099511627775 rfl (by kernel_rfl) (y_pick_t rfl rfl) rfl rfl ?_
                    refine g_d (by kernel_rfl) ?_
                    refine tr_thenN ?_
                    exact tr_join [(0, (.int .i64 x0)), (1, x1.enc), (5, x5.enc), (6, x6.enc), (7, (.int .i64 x7)), (8, (.int .i64 x8)), (61, (.bool true))] ⟨rfl, rfl, rfl, rfl, rfl, rfl, rfl, trivial⟩ ⟨_, _, _, _, _, _, _, rfl, H⟩
                  · replace H := H.2 g15
                    refine g_p 14 32767 rfl (by kernel_rfl) (y_move rfl) rfl rfl ?_
                    refine g_p 15 65535 rfl (by kernel_rfl) (y_move rfl) rfl rfl ?_
                    obtain ⟨a16, e17, H⟩ := H
                    refine g_p 16 131071 rfl (by kernel_rfl) (f_idx (s := x1) Try.runUnderlying53 Try.sizeOf51 rfl rfl e17) rfl rfl ?_
                    obtain ⟨y18, k19, H⟩ := H
                    refine g_h 17 262143 rfl (by kernel_rfl) (y_ld Try.isAgg51 rfl) k19 rfl rfl ?_
                    refine g_p 18 524287 rfl (by kernel_rfl) (y_move rfl) rfl rfl ?_
                    refine g_p 19 1048575 rfl (by kernel_rfl) (y_move rfl) rfl rfl ?_
                    obtain ⟨a20, e21, H⟩ := H
                    refine g_p 20 2097151 rfl (by kernel_rfl) (f_idx (s := x6) Try.runUnderlying23 Try.sizeOf3 rfl rfl e21) rfl rfl ?_
                    obtain ⟨y22, k23, H⟩ := H
                    refine g_h 21 4194303 rfl (by kernel_rfl) (y_ld Try.isAgg3 rfl) k23 rfl rfl ?_
                    obtain ⟨a24, e25, H⟩ := H
                    refine g_p 22 8388607 rfl (by kernel_rfl) (f_idx (s := y18) Try.runUnderlying51 Try.sizeOf66 rfl rfl e25) rfl rfl ?_
                    refine g_p 23 16777215 rfl (by kernel_rfl) (y_fa (off := 0) Try.runUnderlying66 fo_66_0 rfl) rfl rfl ?_
                    obtain ⟨y26, k27, H⟩ := H
                    refine g_h 24 33554431 rfl (by kernel_rfl) (y_ldS Try.isAgg34 Try.sizeOf34 rfl rfl) k27 rfl rfl ?_
                    refine g_p 25 67108863 rfl (by kernel_rfl) (y_move rfl) rfl rfl ?_
                    refine g_p 26 134217727 rfl (by kernel_rfl) (y_move rfl) rfl rfl ?_
                    obtain ⟨a28, e29, H⟩ := H
                    refine g_p 27 268435455 rfl (by kernel_rfl) (f_idx (s := x1) Try.runUnderlying53 Try.sizeOf51 rfl rfl e29) rfl rfl ?_
                    obtain ⟨y30, k31, H⟩ := H
                    refine g_h 28 536870911 rfl (by kernel_rfl) (y_ld Try.isAgg51 rfl) k31 rfl rfl ?_
                    refine g_p 29 1073741823 rfl (by kernel_rfl) (y_move rfl) rfl rfl ?_
                    refine g_p 30 2147483647 rfl (by kernel_rfl) (y_move rfl) rfl rfl ?_
                    obtain ⟨a32, e33, H⟩ := H
                    refine g_p 31 4294967295 rfl (by kernel_rfl) (f_idx (s := x6) Try.runUnderlying23 Try.sizeOf3 rfl rfl e33) rfl rfl ?_
                    obtain ⟨y34, k35, H⟩ := H
                    refine g_h 32 8589934591 rfl (by kernel_rfl) (y_ld Try.isAgg3 rfl) k35 rfl rfl ?_
                    obtain ⟨a36, e37, H⟩ := H
                    refine g_p 33 17179869183 rfl (by kernel_rfl) (f_idx (s := y30) Try.runUnderlying51 Try.sizeOf66 rfl rfl e37) rfl rfl ?_
                    refine g_p 34 34359738367 rfl (by kernel_rfl) (y_fa (off := 0) Try.runUnderlying66 fo_66_0 rfl) rfl rfl ?_
                    obtain ⟨y38, k39, H⟩ := H
                    refine g_h 35 68719476735 rfl (by kernel_rfl) (y_ldS Try.isAgg34 Try.sizeOf34 rfl rfl) k39 rfl rfl ?_
                    refine g_e 36 137438953471 [] (by kernel_rfl) rfl (by kernel_rfl) (e_call Try.call27 rfl (F.spateref8_Compare_ok H)) rfl rfl ?_
                    rintro _ h40 ⟨r41, rfl, H⟩
                    refine ⟨trivial, ?_⟩
                    refine g_p 37 274877906943 rfl (by kernel_rfl) (y_lss rfl rfl) rfl rfl ?_
                    refine g_p 38 549755813887 rfl (by kernel_rfl) (y_pick_f rfl rfl) rfl rfl ?_
                    refine g_p 39 1099511627775 rfl (by kernel_rfl) (y_pick_t rfl rfl) rfl rfl ?_
                    refine g_d (by kernel_rfl) ?_
                    refine tr_thenN ?_
                    exact tr_join [(0, (.int .i64 x0)), (1, x1.enc), (5, x5.enc), (6, x6.enc), (7, (.int .i64 x7)), (8, (.int .i64 x8)), (61, (.bool (decide (r41 < 0))))] ⟨rfl, rfl, rfl, rfl, rfl, rfl, rfl, trivial⟩ ⟨_, _, _, _, _, _, _, rfl, H⟩
                · replace H := H.2 g14
                  refine g_s 11 4095 rfl (by kernel_rfl) rfl rfl ?_
                  refine g_s 12 8191 rfl (by kernel_rfl) rfl rfl ?_
                  refine g_s 13 16383 rfl (by kernel_rfl) rfl rfl ?_
                  refine g_s 14 32767 rfl (by kernel_rfl) rfl rfl ?_
                  refine g_s 15 65535 rfl (by kernel_rfl) rfl rfl ?_
                  refine g_s 16 131071 rfl (by kernel_rfl) rfl rfl ?_
                  refine g_s 17 262143 rfl (by kernel_rfl) rfl rfl ?_
                  refine g_s 18 524287 rfl (by kernel_rfl) rfl rfl ?_
                  refine g_s 19 1048575 rfl (by kernel_rfl) rfl rfl ?_
                  refine g_s 20 2097151 rfl (by kernel_rfl) rfl rfl ?_
                  refine g_s 21 4194303 rfl (by kernel_rfl) rfl rfl ?_
                  refine g_s 22 8388607 rfl (by kernel_rfl) rfl rfl ?_
                  refine g_s 23 16777215 rfl (by kernel_rfl) rfl rfl ?_
                  refine g_s 24 33554431 rfl (by kernel_rfl) rfl rfl ?_
                  refine g_s 25 67108863 rfl (by kernel_rfl) rfl rfl ?_
                  refine g_s 26 134217727 rfl (by kernel_rfl) rfl rfl ?_
                  refine g_s 27 268435455 rfl (by kernel_rfl) rfl rfl ?_
                  refine g_s 28 536870911 rfl (by kernel_rfl) rfl rfl ?_
                  refine g_s 29 1073741823 rfl (by kernel_rfl) rfl rfl ?_
                  refine g_s 30 2147483647 rfl (by kernel_rfl) rfl rfl ?_
                  refine g_s 31 4294967295 rfl (by kernel_rfl) rfl rfl ?_
                  refine g_s 32 8589934591 rfl (by kernel_rfl) rfl rfl ?_
                  refine g_s 33 17179869183 rfl (by kernel_rfl) rfl rfl ?_
                  refine g_s 34 34359738367 rfl (by kernel_rfl) rfl rfl ?_
                  refine g_s 35 68719476735 rfl (by kernel_rfl) rfl rfl ?_
                  refine g_s 36 137438953471 rfl (by kernel_rfl) rfl rfl ?_
                  refine g_s 37 274877906943 rfl (by kernel_rfl) rfl rfl ?_
                  refine g_s 38 549755813887 rfl (by kernel_rfl) rfl rfl ?_
                  refine g_p 39 1099511627775 rfl (by kernel_rfl) (y_pick_f rfl rfl) rfl rfl ?_
                  refine g_d (by kernel_rfl) ?_
                  refine tr_thenN ?_
                  exact tr_join [(0, (.int .i64 x0)), (1, x1.enc), (5, x5.enc), (6, x6.enc), (7, (.int .i64 x7)), (8, (.int .i64 x8)), (61, (.bool false))] ⟨rfl, rfl, rfl, rfl, rfl, rfl, rfl, trivial⟩ ⟨_, _, _, _, _, _, _, rfl, H⟩
          · replace H := H.2 g4
            refine tr_exit ?_
            refine tr_thenE ?_
            refine tr_thenE ?_
            refine tr_hit ?_
            refine tr_thenN ?_
            refine tr_seq ?_
            refine tr_seq ?_
            refine tr_region ?_
            refine tr_p (y_move rfl) rfl rfl ?_
            refine tr_p (y_lss rfl rfl) rfl rfl ?_
            refine tr_nil ?_
            refine tr_thenN ?_
            refine tr_cond rfl (fun g42 => ?_) (fun g42 => ?_)
            · replace H := H.1 g42
              refine tr_exit ?_
              refine tr_thenE ?_
              refine tr_miss rfl ?_
              refine tr_thenE ?_
              refine tr_hit ?_
              refine tr_thenN ?_
              exact tr_join [(5, x5.enc)] ⟨rfl, trivial⟩ ⟨_, rfl, H⟩
            · replace H := H.2 g42
              refine tr_skip ?_
              refine tr_thenN ?_
              refine tr_seq ?_
              refine tr_draw mixed [0, 0, 0, 6, 14, 0, 0, 96, 224, 510, 1022, 2046, 4095, 8191] (by kernel_rfl) ?_
              refine g_p 0 1 rfl (by kernel_rfl) (y_move rfl) rfl rfl ?_
              refine g_p 1 3 rfl (by kernel_rfl) (y_move rfl) rfl rfl ?_
              refine g_p 2 7 rfl (by kernel_rfl) (y_move rfl) rfl rfl ?_
              obtain ⟨a43, e44, H⟩ := H
              refine g_p 3 15 rfl (by kernel_rfl) (f_idx (s := x1) Try.runUnderlying53 Try.sizeOf51 rfl rfl e44) rfl rfl ?_
              obtain ⟨y45, k46, H⟩ := H
              refine g_h 4 31 rfl (by kernel_rfl) (y_ld Try.isAgg51 rfl) k46 rfl rfl ?_
              refine g_p 5 63 rfl (by kernel_rfl) (y_move rfl) rfl rfl ?_
              refine g_p 6 127 rfl (by kernel_rfl) (y_move rfl) rfl rfl ?_
              obtain ⟨a47, e48, H⟩ := H
              refine g_p 7 255 rfl (by kernel_rfl) (f_idx (s := x6) Try.runUnderlying23 Try.sizeOf3 rfl rfl e48) rfl rfl ?_
              obtain ⟨y49, k50, H⟩ := H
              refine g_h 8 511 rfl (by kernel_rfl) (y_ld Try.isAgg3 rfl) k50 rfl rfl ?_
              obtain ⟨a51, e52, H⟩ := H
              refine g_p 9 1023 rfl (by kernel_rfl) (f_idx (s := y45) Try.runUnderlying51 Try.sizeOf66 rfl rfl e52) rfl rfl ?_
              obtain ⟨y53, k54, H⟩ := H
              refine g_h 10 2047 rfl (by kernel_rfl) (y_ldS Try.isAgg66 Try.sizeOf66 rfl rfl) k54 rfl rfl ?_
              refine g_e 11 4095 [] (by kernel_rfl) rfl (by kernel_rfl) (f_buildL (cs := (y53.cells).toArray) rfl rfl (bl_51_1_0 y53) H) rfl rfl ?_
              rintro _ h55 ⟨s56, rfl, H⟩
              refine ⟨trivial, ?_⟩
              refine g_e 12 8191 [] (by kernel_rfl) rfl (by kernel_rfl) (f_app rfl H) rfl rfl ?_
              rintro _ h57 ⟨s58, rfl, H⟩
              refine ⟨trivial, ?_⟩
              refine g_e 13 16383 [] (by kernel_rfl) rfl (by kernel_rfl) (yp_ev (y_assign rfl)) rfl rfl ?_
              rintro _ _ ⟨rfl, rfl⟩
              refine ⟨trivial, ?_⟩
              refine g_d (by kernel_rfl) ?_
              refine tr_thenN ?_
              refine tr_region ?_
              refine tr_p (y_move rfl) rfl rfl ?_
              refine tr_p (y_move rfl) rfl rfl ?_
              obtain ⟨a59, e60, H⟩ := H
              refine tr_p (f_idx (s := x6) Try.runUnderlying23 Try.sizeOf3 rfl rfl e60) rfl rfl ?_
              obtain ⟨y61, k62, H⟩ := H
              refine tr_h (y_ld Try.isAgg3 rfl) k62 rfl rfl ?_
              refine tr_p (y_add rfl rfl) rfl rfl ?_
              obtain ⟨a63, e64, H⟩ := H
              refine tr_p (f_idx (s := x6) Try.runUnderlying23 Try.sizeOf3 rfl rfl e64) rfl rfl ?_
              refine tr_e (f_store (vs := [(.int .i64 (IntKind.wrap .i64 (y61 + 1)))]) Try.sizeOf3 rfl rfl rfl rfl (one1 rfl) H) rfl rfl ?_
              rintro _ h65 ⟨rfl, H⟩
              refine tr_nil ?_
              refine tr_blockN ?_
              refine tr_thenN ?_
              exact tr_join [(0, (.int .i64 x0)), (1, x1.enc), (5, s58.enc), (6, x6.enc)] ⟨rfl, rfl, rfl, rfl, trivial⟩ ⟨_, _, _, _, rfl, H⟩
      · replace H := H.2 g3
        refine tr_exit ?_
        refine tr_thenE ?_
        refine tr_thenE ?_
        refine tr_hit ?_
        refine tr_thenN ?_
        exact tr_join [(5, x5.enc)] ⟨rfl, trivial⟩ ⟨_, rfl, H⟩
def F.spatelaw2_SameRows.l1 (Q : Bool → H → Prop) : Nat → Sl → Sl → Int → H → Prop
  | 0, _, _, _, _ => False
  | q1 + 1, x0, x1, x5, h =>
    ((decide (x5 < (x0.len : Int))) = true →
    idxA x0 x5 7 fun a3 =>
    ld_S_api_Row h a3 fun y5 =>
    idxA x1 x5 7 fun a7 =>
    ld_S_api_Row h a7 fun y9 =>
    ((!((((y5.Cell.View == y9.Cell.View) && ((y5.Cell.Key.toList == y9.Cell.Key.toList) && ((y5.Cell.Start == y9.Cell.Start) && true)))) && ((((y5.Agg.Count == y9.Agg.Count) && ((y5.Agg.Sum == y9.Agg.Sum) && ((y5.Agg.Min == y9.Agg.Min) && ((y5.Agg.Max == y9.Agg.Max) && true))))) && true))) = true →
    Q false h) ∧
    ((!((((y5.Cell.View == y9.Cell.View) && ((y5.Cell.Key.toList == y9.Cell.Key.toList) && ((y5.Cell.Start == y9.Cell.Start) && true)))) && ((((y5.Agg.Count == y9.Agg.Count) && ((y5.Agg.Sum == y9.Agg.Sum) && ((y5.Agg.Min == y9.Agg.Min) && ((y5.Agg.Max == y9.Agg.Max) && true))))) && true))) = false →
    (F.spatelaw2_SameRows.l1 Q q1) x0 x1 (IntKind.wrap .i64 (x5 + 1)) h)) ∧
    ((decide (x5 < (x0.len : Int))) = false →
    Q true h)
/-- spate/spatelaw2.SameRows -/
def F.spatelaw2_SameRows (p0 : Sl) (p1 : Sl) (h : H) (Q : Bool → H → Prop) : Prop :=
  ((((p0.len : Int) != (p1.len : Int))) = true →
  Q false h) ∧
  ((((p0.len : Int) != (p1.len : Int))) = false →
  ∃ m, F.spatelaw2_SameRows.l1 Q m p0 p1 0 h)
theorem F.spatelaw2_SameRows_ok {p0 : Sl} {p1 : Sl} {h : H} {Q : Bool → H → Prop} (H : F.spatelaw2_SameRows p0 p1 h Q) : Fn PP 32 ([p0.enc, p1.enc] : List Value).toArray h fun r h' => ∃ r0, r = (.bool r0) ∧ Q r0 h' := by
  unfold F.spatelaw2_SameRows at H
  refine fn_of Try.func32 Try.ntmps32 rfl rfl fun w0 => ?_
  refine tr_sub [(0, p0.enc), (1, p1.enc)] ⟨rfl, rfl, trivial⟩ ?_
  refine tr_seq ?_
  refine tr_region ?_
  refine tr_p (y_assign rfl) rfl rfl ?_
  refine tr_nil ?_
  refine tr_thenN ?_
  refine tr_seq ?_
  refine tr_seq ?_
  refine tr_region ?_
  refine tr_p (y_move rfl) rfl rfl ?_
  refine tr_p (y_len (ts := #[]) Try.runUnderlying51 (o := p0.ptr) (n := p0.len) (cap := p0.cap) rfl) rfl rfl ?_
  refine tr_p (y_move rfl) rfl rfl ?_
  refine tr_p (y_len (ts := #[]) Try.runUnderlying51 (o := p1.ptr) (n := p1.len) (cap := p1.cap) rfl) rfl rfl ?_
  refine tr_p (y_neq rfl rfl) rfl rfl ?_
  refine tr_nil ?_
  refine tr_thenN ?_
  refine tr_cond rfl (fun g1 => ?_) (fun g1 => ?_)
  · replace H := H.1 g1
    refine tr_seq ?_
    refine tr_region ?_
    refine tr_p (y_assign rfl) rfl rfl ?_
    refine tr_nil ?_
    refine tr_thenN ?_
    refine tr_ret ?_
    refine tr_thenR ?_
    exact tr_ret1 rfl rfl ⟨_, rfl, H⟩
  · replace H := H.2 g1
    refine tr_skip ?_
    refine tr_thenN ?_
    refine tr_seq ?_
    refine tr_seq ?_
    refine tr_region ?_
    refine tr_p (y_assign rfl) rfl rfl ?_
    refine tr_nil ?_
    refine tr_thenN ?_
    refine tr_block ?_
    obtain ⟨m12, H⟩ := H
    refine tr_sub [(0, p0.enc), (1, p1.enc), (5, (.int .i64 0))] ⟨rfl, rfl, rfl, trivial⟩ ?_
    refine tr_loop_j (fun m L' h => ∃ (x0 : Sl) (x1 : Sl) (x5 : Int), L' = [(0, x0.enc), (1, x1.enc), (5, (.int .i64 x5))] ∧ F.spatelaw2_SameRows.l1 Q m x0 x1 x5 h) ?_ ?_ m12 ⟨_, _, _, rfl, H⟩
    · rintro L' h ⟨_, _, _, _, H⟩; exact H
    · rintro q1 L' h ⟨x0, x1, x5, rfl, H⟩
      unfold F.spatelaw2_SameRows.l1 at H
      refine tr_seq ?_
      refine tr_seq ?_
      refine tr_region ?_
      refine tr_p (y_move rfl) rfl rfl ?_
      refine tr_p (y_move rfl) rfl rfl ?_
      refine tr_p (y_len (ts := #[]) Try.runUnderlying51 (o := x0.ptr) (n := x0.len) (cap := x0.cap) rfl) rfl rfl ?_
      refine tr_p (y_lss rfl rfl) rfl rfl ?_
      refine tr_nil ?_
      refine tr_thenN ?_
      refine tr_cond rfl (fun g2 => ?_) (fun g2 => ?_)
      · replace H := H.1 g2
        refine tr_skip ?_
        refine tr_thenN ?_
        refine tr_seq ?_
        refine tr_block ?_
        refine tr_seq ?_
        refine tr_draw mixed [0, 0, 3, 7, 0, 0, 48, 112, 255] (by kernel_rfl) ?_
        refine g_p 0 1 rfl (by kernel_rfl) (y_move rfl) rfl rfl ?_
        refine g_p 1 3 rfl (by kernel_rfl) (y_move rfl) rfl rfl ?_
        obtain ⟨a3, e4, H⟩ := H
        refine g_p 2 7 rfl (by kernel_rfl) (f_idx (s := x0) Try.runUnderlying51 Try.sizeOf66 rfl rfl e4) rfl rfl ?_
        obtain ⟨y5, k6, H⟩ := H
        refine g_h 3 15 rfl (by kernel_rfl) (y_ldS Try.isAgg66 Try.sizeOf66 rfl rfl) k6 rfl rfl ?_
        refine g_p 4 31 rfl (by kernel_rfl) (y_move rfl) rfl rfl ?_
        refine g_p 5 63 rfl (by kernel_rfl) (y_move rfl) rfl rfl ?_
        obtain ⟨a7, e8, H⟩ := H
        refine g_p 6 127 rfl (by kernel_rfl) (f_idx (s := x1) Try.runUnderlying51 Try.sizeOf66 rfl rfl e8) rfl rfl ?_
        obtain ⟨y9, k10, H⟩ := H
        refine g_h 7 255 rfl (by kernel_rfl) (y_ldS Try.isAgg66 Try.sizeOf66 rfl rfl) k10 rfl rfl ?_
        refine g_p 8 511 rfl (by kernel_rfl) (st_neq (b := ((((y5.Cell.View == y9.Cell.View) && ((y5.Cell.Key.toList == y9.Cell.Key.toList) && ((y5.Cell.Start == y9.Cell.Start) && true)))) && ((((y5.Agg.Count == y9.Agg.Count) && ((y5.Agg.Sum == y9.Agg.Sum) && ((y5.Agg.Min == y9.Agg.Min) && ((y5.Agg.Max == y9.Agg.Max) && true))))) && true))) eqg_66 (fun w => eqst_66 y5 y9 9997 w) rfl rfl) rfl rfl ?_
        refine g_d (by kernel_rfl) ?_
        refine tr_thenN ?_
        refine tr_cond rfl (fun g11 => ?_) (fun g11 => ?_)
        · replace H := H.1 g11
          refine tr_seq ?_
          refine tr_region ?_
          refine tr_p (y_assign rfl) rfl rfl ?_
          refine tr_nil ?_
          refine tr_thenN ?_
          refine tr_ret ?_
          refine tr_blockR ?_
          refine tr_thenR ?_
          refine tr_thenR ?_
          refine tr_blockR ?_
          refine tr_thenR ?_
          exact tr_ret1 rfl rfl ⟨_, rfl, H⟩
        · replace H := H.2 g11
          refine tr_skip ?_
          refine tr_blockN ?_
          refine tr_thenN ?_
          refine tr_region ?_
          refine tr_p (y_move rfl) rfl rfl ?_
          refine tr_p (y_add rfl rfl) rfl rfl ?_
          refine tr_p (y_assign rfl) rfl rfl ?_
          refine tr_nil ?_
          refine tr_thenN ?_
          exact tr_join [(0, x0.enc), (1, x1.enc), (5, (.int .i64 (IntKind.wrap .i64 (x5 + 1))))] ⟨rfl, rfl, rfl, trivial⟩ ⟨_, _, _, rfl, H⟩
      · replace H := H.2 g2
        refine tr_exit ?_
        refine tr_thenE ?_
        refine tr_thenE ?_
        refine tr_hit ?_
        refine tr_thenN ?_
        refine tr_seq ?_
        refine tr_region ?_
        refine tr_p (y_assign rfl) rfl rfl ?_
        refine tr_nil ?_
        refine tr_thenN ?_
        refine tr_ret ?_
        exact tr_ret1 rfl rfl ⟨_, rfl, H⟩
def F.spatelaw2_GrownRows.l2 (Q : Bool → H → Prop) (C1 : Sl → Int → H → Prop) : Nat → Sl → Int → Int → H → Prop
  | 0, _, _, _, _ => False
  | q2 + 1, x0, x3, x4, h =>
    idxA x0 x3 1 fun a2 =>
    ldL h a2 fun y4 =>
    ((decide (x4 < (y4.len : Int))) = true →
    idxA x0 x3 1 fun a7 =>
    ldL h a7 fun y9 =>
    idxA y9 x4 7 fun a11 =>
    stH h a11 ((⟨(⟨x3, (⟨#[116, 111, 108, 100]⟩ : ByteArray), x4⟩ : S_api_Cell), (⟨0, 0, 0, 0⟩ : S_api_Agg)⟩ : S_api_Row).cells) fun h13 =>
    (F.spatelaw2_GrownRows.l2 Q C1 q2) x0 x3 (IntKind.wrap .i64 (x4 + 1)) h13) ∧
    ((decide (x4 < (y4.len : Int))) = false →
    C1 x0 (IntKind.wrap .i64 (x3 + 1)) h)
def F.spatelaw2_GrownRows.l4 (Q : Bool → H → Prop) (C1 : Sl → Sl → Int → H → Prop) : Nat → Sl → Sl → Int → Int → H → Prop
  | 0, _, _, _, _, _ => False
  | q4 + 1, x0, x5, x6, x7, h =>
    ((decide (x7 < (x0.len : Int))) = true →
    idxA x5 x7 1 fun a19 =>
    ldL h a19 fun y21 =>
    newL h (((⟨(⟨x7, (⟨#[109, 111, 114, 101]⟩ : ByteArray), x6⟩ : S_api_Cell), (⟨0, 0, 0, 0⟩ : S_api_Agg)⟩ : S_api_Row).cells).toArray) ty_66 1 fun s24 h23 =>
    runL PP (Builtin.append_ #[51, 51] 51 #[y21.enc, s24.enc]) h23 fun s26 h25 =>
    idxA x5 x7 1 fun a27 =>
    stH h25 a27 [s26.enc] fun h29 =>
    (F.spatelaw2_GrownRows.l4 Q C1 q4) x0 x5 x6 (IntKind.wrap .i64 (x7 + 1)) h29) ∧
    ((decide (x7 < (x0.len : Int))) = false →
    C1 x0 x5 (IntKind.wrap .i64 (x6 + 1)) h)
def F.spatelaw2_GrownRows.j7 (Q : Bool → H → Prop) (C1 : Sl → Sl → Int → H → Prop) (C2 : Sl → Sl → Int → Int → Int → H → Prop) (x0 : Sl) (x5 : Sl) (x8 : Int) (x9 : Int) (x10 : Int) (h : H) : Prop :=
  C2 x0 x5 x8 x9 (IntKind.wrap .i64 (x10 + 1)) h
def F.spatelaw2_GrownRows.j9 (Q : Bool → H → Prop) (C1 : Sl → Sl → Int → H → Prop) (C2 : Sl → Sl → Int → Int → Int → H → Prop) (x0 : Sl) (x5 : Sl) (x8 : Int) (x9 : Int) (x10 : Int) (x117 : Bool) (h : H) : Prop :=
  (x117 = true →
  Q false h) ∧
  (x117 = false →
  F.spatelaw2_GrownRows.j7 Q C1 C2 x0 x5 x8 x9 x10 h)
def F.spatelaw2_GrownRows.j8 (Q : Bool → H → Prop) (C1 : Sl → Sl → Int → H → Prop) (C2 : Sl → Sl → Int → Int → Int → H → Prop) (x0 : Sl) (x5 : Sl) (x8 : Int) (x9 : Int) (x10 : Int) (x11 : Addr) (h : H) : Prop :=
  idxA x5 x8 1 fun a41 =>
  ldL h a41 fun y43 =>
  idxA y43 x10 7 fun a45 =>
  ld_S_api_Row h a45 fun y47 =>
  ld_S_api_Row h x11 fun y49 =>
  ((!((((y47.Cell.View == y49.Cell.View) && ((y47.Cell.Key.toList == y49.Cell.Key.toList) && ((y47.Cell.Start == y49.Cell.Start) && true)))) && ((((y47.Agg.Count == y49.Agg.Count) && ((y47.Agg.Sum == y49.Agg.Sum) && ((y47.Agg.Min == y49.Agg.Min) && ((y47.Agg.Max == y49.Agg.Max) && true))))) && true))) = true →
  F.spatelaw2_GrownRows.j9 Q C1 C2 x0 x5 x8 x9 x10 true h) ∧
  ((!((((y47.Cell.View == y49.Cell.View) && ((y47.Cell.Key.toList == y49.Cell.Key.toList) && ((y47.Cell.Start == y49.Cell.Start) && true)))) && ((((y47.Agg.Count == y49.Agg.Count) && ((y47.Agg.Sum == y49.Agg.Sum) && ((y47.Agg.Min == y49.Agg.Min) && ((y47.Agg.Max == y49.Agg.Max) && true))))) && true))) = false →
  ((decide (x10 < x9)) = true →
  idxA x0 x8 1 fun a53 =>
  ldL h a53 fun y55 =>
  idxA y55 x10 7 fun a57 =>
  ld_S_api_Row h a57 fun y59 =>
  ld_S_api_Row h x11 fun y61 =>
  F.spatelaw2_GrownRows.j9 Q C1 C2 x0 x5 x8 x9 x10 (!((((y59.Cell.View == y61.Cell.View) && ((y59.Cell.Key.toList == y61.Cell.Key.toList) && ((y59.Cell.Start == y61.Cell.Start) && true)))) && ((((y59.Agg.Count == y61.Agg.Count) && ((y59.Agg.Sum == y61.Agg.Sum) && ((y59.Agg.Min == y61.Agg.Min) && ((y59.Agg.Max == y61.Agg.Max) && true))))) && true))) h) ∧
  ((decide (x10 < x9)) = false →
  F.spatelaw2_GrownRows.j9 Q C1 C2 x0 x5 x8 x9 x10 false h))
def F.spatelaw2_GrownRows.l6 (Q : Bool → H → Prop) (C1 : Sl → Sl → Int → H → Prop) : Nat → Sl → Sl → Int → Int → Int → H → Prop
  | 0, _, _, _, _, _, _ => False
  | q6 + 1, x0, x5, x8, x9, x10, h =>
    ((decide (x10 < (IntKind.wrap .i64 (x9 + 40)))) = true →
    new h (((⟨(⟨0, (⟨#[]⟩ : ByteArray), 0⟩ : S_api_Cell), (⟨0, 0, 0, 0⟩ : S_api_Agg)⟩ : S_api_Row) : S_api_Row).cells.toArray) ty_66 fun a38 h37 =>
    stH h37 a38 ((⟨(⟨x8, (⟨#[116, 111, 108, 100]⟩ : ByteArray), x10⟩ : S_api_Cell), (⟨0, 0, 0, 0⟩ : S_api_Agg)⟩ : S_api_Row).cells) fun h39 =>
    ((decide (x10 ≥ x9)) = true →
    stH h39 a38 ((⟨(⟨x8, (⟨#[109, 111, 114, 101]⟩ : ByteArray), (IntKind.wrap .i64 (x10 - x9))⟩ : S_api_Cell), (⟨0, 0, 0, 0⟩ : S_api_Agg)⟩ : S_api_Row).cells) fun h64 =>
    F.spatelaw2_GrownRows.j8 Q C1 (F.spatelaw2_GrownRows.l6 Q C1 q6) x0 x5 x8 x9 x10 a38 h64) ∧
    ((decide (x10 ≥ x9)) = false →
    F.spatelaw2_GrownRows.j8 Q C1 (F.spatelaw2_GrownRows.l6 Q C1 q6) x0 x5 x8 x9 x10 a38 h39)) ∧
    ((decide (x10 < (IntKind.wrap .i64 (x9 + 40)))) = false →
    C1 x0 x5 (IntKind.wrap .i64 (x8 + 1)) h)
def F.spatelaw2_GrownRows.l5 (Q : Bool → H → Prop) : Nat → Sl → Sl → Int → H → Prop
  | 0, _, _, _, _ => False
  | q5 + 1, x0, x5, x8, h =>
    ((decide (x8 < (x0.len : Int))) = true →
    idxA x0 x8 1 fun a32 =>
    ldL h a32 fun y34 =>
    ∃ m, F.spatelaw2_GrownRows.l6 Q (F.spatelaw2_GrownRows.l5 Q q5) m x0 x5 x8 (y34.len : Int) 0 h) ∧
    ((decide (x8 < (x0.len : Int))) = false →
    Q true h)
def F.spatelaw2_GrownRows.l3 (Q : Bool → H → Prop) : Nat → Sl → Sl → Int → H → Prop
  | 0, _, _, _, _ => False
  | q3 + 1, x0, x5, x6, h =>
    ((decide (x6 < 40)) = true →
    ∃ m, F.spatelaw2_GrownRows.l4 Q (F.spatelaw2_GrownRows.l3 Q q3) m x0 x5 x6 0 h) ∧
    ((decide (x6 < 40)) = false →
    ∃ m, F.spatelaw2_GrownRows.l5 Q m x0 x5 0 h)
def F.spatelaw2_GrownRows.l1 (Q : Bool → H → Prop) : Nat → Sl → Int → H → Prop
  | 0, _, _, _ => False
  | q1 + 1, x0, x3, h =>
    ((decide (x3 < (x0.len : Int))) = true →
    ∃ m, F.spatelaw2_GrownRows.l2 Q (F.spatelaw2_GrownRows.l1 Q q1) m x0 x3 0 h) ∧
    ((decide (x3 < (x0.len : Int))) = false →
    runL PP (Builtin.append_ #[53, 53] 53 #[(⟨none, 0, 0⟩ : Sl).enc, x0.enc]) h fun s16 h15 =>
    ∃ m, F.spatelaw2_GrownRows.l3 Q m x0 s16 0 h15)
/-- spate/spatelaw2.GrownRows -/
def F.spatelaw2_GrownRows (p0 : Sl) (h : H) (Q : Bool → H → Prop) : Prop :=
  ∃ m, F.spatelaw2_GrownRows.l1 Q m p0 0 h
theorem F.spatelaw2_GrownRows_ok {p0 : Sl} {h : H} {Q : Bool → H → Prop} (H : F.spatelaw2_GrownRows p0 h Q) : Fn PP 36 ([p0.enc] : List Value).toArray h fun r h' => ∃ r0, r = (.bool r0) ∧ Q r0 h' := by
  unfold F.spatelaw2_GrownRows at H
  refine fn_of Try.func36 Try.ntmps36 rfl rfl fun w0 => ?_
  refine tr_sub [(0, p0.enc)] ⟨rfl, trivial⟩ ?_
  refine tr_seq ?_
  refine tr_region ?_
  refine tr_p (y_assign rfl) rfl rfl ?_
  refine tr_nil ?_
  refine tr_thenN ?_
  refine tr_seq ?_
  refine tr_seq ?_
  refine tr_region ?_
  refine tr_p (y_assign rfl) rfl rfl ?_
  refine tr_nil ?_
  refine tr_thenN ?_
  refine tr_block ?_
  obtain ⟨m68, H⟩ := H
  refine tr_sub [(0, p0.enc), (3, (.int .i64 0))] ⟨rfl, rfl, trivial⟩ ?_
  refine tr_loop_j (fun m L' h => ∃ (x0 : Sl) (x3 : Int), L' = [(0, x0.enc), (3, (.int .i64 x3))] ∧ F.spatelaw2_GrownRows.l1 Q m x0 x3 h) ?_ ?_ m68 ⟨_, _, rfl, H⟩
  · rintro L' h ⟨_, _, _, H⟩; exact H
  · rintro q1 L' h ⟨x0, x3, rfl, H⟩
    unfold F.spatelaw2_GrownRows.l1 at H
    refine tr_seq ?_
    refine tr_seq ?_
    refine tr_region ?_
    refine tr_p (y_move rfl) rfl rfl ?_
    refine tr_p (y_move rfl) rfl rfl ?_
    refine tr_p (y_len (ts := #[]) Try.runUnderlying53 (o := x0.ptr) (n := x0.len) (cap := x0.cap) rfl) rfl rfl ?_
    refine tr_p (y_lss rfl rfl) rfl rfl ?_
    refine tr_nil ?_
    refine tr_thenN ?_
    refine tr_cond rfl (fun g1 => ?_) (fun g1 => ?_)
    · replace H := H.1 g1
      refine tr_skip ?_
      refine tr_thenN ?_
      refine tr_seq ?_
      refine tr_block ?_
      refine tr_seq ?_
      refine tr_region ?_
      refine tr_p (y_assign rfl) rfl rfl ?_
      refine tr_nil ?_
      refine tr_thenN ?_
      refine tr_block ?_
      obtain ⟨m14, H⟩ := H
      refine tr_sub [(0, x0.enc), (3, (.int .i64 x3)), (4, (.int .i64 0))] ⟨rfl, rfl, rfl, trivial⟩ ?_
      refine tr_loop_j (fun m L' h => ∃ (x0 : Sl) (x3 : Int) (x4 : Int), L' = [(0, x0.enc), (3, (.int .i64 x3)), (4, (.int .i64 x4))] ∧ F.spatelaw2_GrownRows.l2 Q (F.spatelaw2_GrownRows.l1 Q q1) m x0 x3 x4 h) ?_ ?_ m14 ⟨_, _, _, rfl, H⟩
      · rintro L' h ⟨_, _, _, _, H⟩; exact H
      · rintro q2 L' h ⟨x0, x3, x4, rfl, H⟩
        unfold F.spatelaw2_GrownRows.l2 at H
        refine tr_seq ?_
        refine tr_seq ?_
        refine tr_region ?_
        refine tr_p (y_move rfl) rfl rfl ?_
        refine tr_p (y_move rfl) rfl rfl ?_
        refine tr_p (y_move rfl) rfl rfl ?_
        obtain ⟨a2, e3, H⟩ := H
        refine tr_p (f_idx (s := x0) Try.runUnderlying53 Try.sizeOf51 rfl rfl e3) rfl rfl ?_
        obtain ⟨y4, k5, H⟩ := H
        refine tr_h (y_ld Try.isAgg51 rfl) k5 rfl rfl ?_
        refine tr_p (y_len (ts := #[]) Try.runUnderlying51 (o := y4.ptr) (n := y4.len) (cap := y4.cap) rfl) rfl rfl ?_
        refine tr_p (y_lss rfl rfl) rfl rfl ?_
        refine tr_nil ?_
        refine tr_thenN ?_
        refine tr_cond rfl (fun g6 => ?_) (fun g6 => ?_)
        · replace H := H.1 g6
          refine tr_skip ?_
          refine tr_thenN ?_
          refine tr_seq ?_
          refine tr_block ?_
          refine tr_region ?_
          refine tr_p (y_move rfl) rfl rfl ?_
          refine tr_p (y_move rfl) rfl rfl ?_
          obtain ⟨a7, e8, H⟩ := H
          refine tr_p (f_idx (s := x0) Try.runUnderlying53 Try.sizeOf51 rfl rfl e8) rfl rfl ?_
          obtain ⟨y9, k10, H⟩ := H
          refine tr_h (y_ld Try.isAgg51 rfl) k10 rfl rfl ?_
          refine tr_p (y_move rfl) rfl rfl ?_
          refine tr_p (y_move rfl) rfl rfl ?_
          refine tr_p (y_move rfl) rfl rfl ?_
          refine tr_p (f_build rfl (bd_34_0_1_2 x3 (⟨#[116, 111, 108, 100]⟩ : ByteArray) x4)) rfl rfl ?_
          refine tr_p (f_build rfl (bd_66_0 (⟨x3, (⟨#[116, 111, 108, 100]⟩ : ByteArray), x4⟩ : S_api_Cell))) rfl rfl ?_
          obtain ⟨a11, e12, H⟩ := H
          refine tr_p (f_idx (s := y9) Try.runUnderlying51 Try.sizeOf66 rfl rfl e12) rfl rfl ?_
          refine tr_e (f_store (vs := (⟨(⟨x3, (⟨#[116, 111, 108, 100]⟩ : ByteArray), x4⟩ : S_api_Cell), (⟨0, 0, 0, 0⟩ : S_api_Agg)⟩ : S_api_Row).cells) Try.sizeOf66 rfl rfl cellsOfStruct rfl (by intro v hv; exact ones_S_api_Row _ v hv) H) rfl rfl ?_
          rintro _ h13 ⟨rfl, H⟩
          refine tr_nil ?_
          refine tr_blockN ?_
          refine tr_thenN ?_
          refine tr_region ?_
          refine tr_p (y_move rfl) rfl rfl ?_
          refine tr_p (y_add rfl rfl) rfl rfl ?_
          refine tr_p (y_assign rfl) rfl rfl ?_
          refine tr_nil ?_
          refine tr_thenN ?_
          exact tr_join [(0, x0.enc), (3, (.int .i64 x3)), (4, (.int .i64 (IntKind.wrap .i64 (x4 + 1))))] ⟨rfl, rfl, rfl, trivial⟩ ⟨_, _, _, rfl, H⟩
        · replace H := H.2 g6
          refine tr_exit ?_
          refine tr_thenE ?_
          refine tr_thenE ?_
          refine tr_hit ?_
          refine tr_blockN ?_
          refine tr_thenN ?_
          refine tr_region ?_
          refine tr_p (y_move rfl) rfl rfl ?_
          refine tr_p (y_add rfl rfl) rfl rfl ?_
          refine tr_p (y_assign rfl) rfl rfl ?_
          refine tr_nil ?_
          refine tr_thenN ?_
          exact tr_join [(0, x0.enc), (3, (.int .i64 (IntKind.wrap .i64 (x3 + 1))))] ⟨rfl, rfl, trivial⟩ ⟨_, _, rfl, H⟩
    · replace H := H.2 g1
      refine tr_exit ?_
      refine tr_thenE ?_
      refine tr_thenE ?_
      refine tr_hit ?_
      refine tr_thenN ?_
      refine tr_seq ?_
      refine tr_region ?_
      refine tr_p (y_assign rfl) rfl rfl ?_
      refine tr_nil ?_
      refine tr_thenN ?_
      refine tr_seq ?_
      refine tr_region ?_
      refine tr_p (y_move rfl) rfl rfl ?_
      refine tr_p (y_move rfl) rfl rfl ?_
      refine tr_e (f_app rfl H) rfl rfl ?_
      rintro _ h15 ⟨s16, rfl, H⟩
      refine tr_p (y_assign rfl) rfl rfl ?_
      refine tr_nil ?_
      refine tr_thenN ?_
      refine tr_seq ?_
      refine tr_seq ?_
      refine tr_region ?_
      refine tr_p (y_assign rfl) rfl rfl ?_
      refine tr_nil ?_
      refine tr_thenN ?_
      refine tr_block ?_
      obtain ⟨m67, H⟩ := H
      refine tr_sub [(0, x0.enc), (5, s16.enc), (6, (.int .i64 0))] ⟨rfl, rfl, rfl, trivial⟩ ?_
      refine tr_loop_j (fun m L' h => ∃ (x0 : Sl) (x5 : Sl) (x6 : Int), L' = [(0, x0.enc), (5, x5.enc), (6, (.int .i64 x6))] ∧ F.spatelaw2_GrownRows.l3 Q m x0 x5 x6 h) ?_ ?_ m67 ⟨_, _, _, rfl, H⟩
      · rintro L' h ⟨_, _, _, _, H⟩; exact H
      · rintro q3 L' h ⟨x0, x5, x6, rfl, H⟩
        unfold F.spatelaw2_GrownRows.l3 at H
        refine tr_seq ?_
        refine tr_seq ?_
        refine tr_region ?_
        refine tr_p (y_move rfl) rfl rfl ?_
        refine tr_p (y_lss rfl rfl) rfl rfl ?_
        refine tr_nil ?_
        refine tr_thenN ?_
        refine tr_cond rfl (fun g17 => ?_) (fun g17 => ?_)
        · replace H := H.1 g17
          refine tr_skip ?_
          refine tr_thenN ?_
          refine tr_seq ?_
          refine tr_block ?_
          refine tr_seq ?_
          refine tr_region ?_
          refine tr_p (y_assign rfl) rfl rfl ?_
          refine tr_nil ?_
          refine tr_thenN ?_
          refine tr_block ?_
          obtain ⟨m30, H⟩ := H
          refine tr_sub [(0, x0.enc), (5, x5.enc), (6, (.int .i64 x6)), (7, (.int .i64 0))] ⟨rfl, rfl, rfl, rfl, trivial⟩ ?_
          refine tr_loop_j (fun m L' h => ∃ (x0 : Sl) (x5 : Sl) (x6 : Int) (x7 : Int), L' = [(0, x0.enc), (5, x5.enc), (6, (.int .i64 x6)), (7, (.int .i64 x7))] ∧ F.spatelaw2_GrownRows.l4 Q (F.spatelaw2_GrownRows.l3 Q q3) m x0 x5 x6 x7 h) ?_ ?_ m30 ⟨_, _, _, _, rfl, H⟩
          · rintro L' h ⟨_, _, _, _, _, H⟩; exact H
          · rintro q4 L' h ⟨x0, x5, x6, x7, rfl, H⟩
            unfold F.spatelaw2_GrownRows.l4 at H
            refine tr_seq ?_
            refine tr_seq ?_
            refine tr_region ?_
            refine tr_p (y_move rfl) rfl rfl ?_
            refine tr_p (y_move rfl) rfl rfl ?_
            refine tr_p (y_len (ts := #[]) Try.runUnderlying53 (o := x0.ptr) (n := x0.len) (cap := x0.cap) rfl) rfl rfl ?_
            refine tr_p (y_lss rfl rfl) rfl rfl ?_
            refine tr_nil ?_
            refine tr_thenN ?_
            refine tr_cond rfl (fun g18 => ?_) (fun g18 => ?_)
            · replace H := H.1 g18
              refine tr_skip ?_
              refine tr_thenN ?_
              refine tr_seq ?_
              refine tr_block ?_
              refine tr_region ?_
              refine tr_p (y_move rfl) rfl rfl ?_
              refine tr_p (y_move rfl) rfl rfl ?_
              refine tr_p (y_move rfl) rfl rfl ?_
              refine tr_p (y_move rfl) rfl rfl ?_
              obtain ⟨a19, e20, H⟩ := H
              refine tr_p (f_idx (s := x5) Try.runUnderlying53 Try.sizeOf51 rfl rfl e20) rfl rfl ?_
              obtain ⟨y21, k22, H⟩ := H
              refine tr_h (y_ld Try.isAgg51 rfl) k22 rfl rfl ?_
              refine tr_p (y_move rfl) rfl rfl ?_
              refine tr_p (y_move rfl) rfl rfl ?_
              refine tr_p (f_build rfl (bd_34_0_1_2 x7 (⟨#[109, 111, 114, 101]⟩ : ByteArray) x6)) rfl rfl ?_
              refine tr_p (f_build rfl (bd_66_0 (⟨x7, (⟨#[109, 111, 114, 101]⟩ : ByteArray), x6⟩ : S_api_Cell))) rfl rfl ?_
              refine tr_e (f_buildL (cs := ((⟨(⟨x7, (⟨#[109, 111, 114, 101]⟩ : ByteArray), x6⟩ : S_api_Cell), (⟨0, 0, 0, 0⟩ : S_api_Agg)⟩ : S_api_Row).cells).toArray) rfl rfl (bl_51_1_0 (⟨(⟨x7, (⟨#[109, 111, 114, 101]⟩ : ByteArray), x6⟩ : S_api_Cell), (⟨0, 0, 0, 0⟩ : S_api_Agg)⟩ : S_api_Row)) H) rfl rfl ?_
              rintro _ h23 ⟨s24, rfl, H⟩
              refine tr_e (f_app rfl H) rfl rfl ?_
              rintro _ h25 ⟨s26, rfl, H⟩
              obtain ⟨a27, e28, H⟩ := H
              refine tr_p (f_idx (s := x5) Try.runUnderlying53 Try.sizeOf51 rfl rfl e28) rfl rfl ?_
              refine tr_e (f_store (vs := [s26.enc]) Try.sizeOf51 rfl rfl rfl rfl (one1 rfl) H) rfl rfl ?_
              rintro _ h29 ⟨rfl, H⟩
              refine tr_nil ?_
              refine tr_blockN ?_
              refine tr_thenN ?_
              refine tr_region ?_
              refine tr_p (y_move rfl) rfl rfl ?_
              refine tr_p (y_add rfl rfl) rfl rfl ?_
              refine tr_p (y_assign rfl) rfl rfl ?_
              refine tr_nil ?_
              refine tr_thenN ?_
              exact tr_join [(0, x0.enc), (5, x5.enc), (6, (.int .i64 x6)), (7, (.int .i64 (IntKind.wrap .i64 (x7 + 1))))] ⟨rfl, rfl, rfl, rfl, trivial⟩ ⟨_, _, _, _, rfl, H⟩
            · replace H := H.2 g18
              refine tr_exit ?_
              refine tr_thenE ?_
              refine tr_thenE ?_
              refine tr_hit ?_
              refine tr_blockN ?_
              refine tr_thenN ?_
              refine tr_region ?_
              refine tr_p (y_move rfl) rfl rfl ?_
              refine tr_p (y_add rfl rfl) rfl rfl ?_
              refine tr_p (y_assign rfl) rfl rfl ?_
              refine tr_nil ?_
              refine tr_thenN ?_
              exact tr_join [(0, x0.enc), (5, x5.enc), (6, (.int .i64 (IntKind.wrap .i64 (x6 + 1))))] ⟨rfl, rfl, rfl, trivial⟩ ⟨_, _, _, rfl, H⟩
        · replace H := H.2 g17
          refine tr_exit ?_
          refine tr_thenE ?_
          refine tr_thenE ?_
          refine tr_hit ?_
          refine tr_thenN ?_
          refine tr_seq ?_
          refine tr_seq ?_
          refine tr_region ?_
          refine tr_p (y_assign rfl) rfl rfl ?_
          refine tr_nil ?_
          refine tr_thenN ?_
          refine tr_block ?_
          obtain ⟨m66, H⟩ := H
          refine tr_sub [(0, x0.enc), (5, x5.enc), (8, (.int .i64 0))] ⟨rfl, rfl, rfl, trivial⟩ ?_
          refine tr_loop_j (fun m L' h => ∃ (x0 : Sl) (x5 : Sl) (x8 : Int), L' = [(0, x0.enc), (5, x5.enc), (8, (.int .i64 x8))] ∧ F.spatelaw2_GrownRows.l5 Q m x0 x5 x8 h) ?_ ?_ m66 ⟨_, _, _, rfl, H⟩
          · rintro L' h ⟨_, _, _, _, H⟩; exact H
          · rintro q5 L' h ⟨x0, x5, x8, rfl, H⟩
            unfold F.spatelaw2_GrownRows.l5 at H
            refine tr_seq ?_
            refine tr_seq ?_
            refine tr_region ?_
            refine tr_p (y_move rfl) rfl rfl ?_
            refine tr_p (y_move rfl) rfl rfl ?_
            refine tr_p (y_len (ts := #[]) Try.runUnderlying53 (o := x0.ptr) (n := x0.len) (cap := x0.cap) rfl) rfl rfl ?_
            refine tr_p (y_lss rfl rfl) rfl rfl ?_
            refine tr_nil ?_
            refine tr_thenN ?_
            refine tr_cond rfl (fun g31 => ?_) (fun g31 => ?_)
            · replace H := H.1 g31
              refine tr_skip ?_
              refine tr_thenN ?_
              refine tr_seq ?_
              refine tr_block ?_
              refine tr_seq ?_
              refine tr_region ?_
              refine tr_p (y_move rfl) rfl rfl ?_
              refine tr_p (y_move rfl) rfl rfl ?_
              obtain ⟨a32, e33, H⟩ := H
              refine tr_p (f_idx (s := x0) Try.runUnderlying53 Try.sizeOf51 rfl rfl e33) rfl rfl ?_
              obtain ⟨y34, k35, H⟩ := H
              refine tr_h (y_ld Try.isAgg51 rfl) k35 rfl rfl ?_
              refine tr_p (y_len (ts := #[]) Try.runUnderlying51 (o := y34.ptr) (n := y34.len) (cap := y34.cap) rfl) rfl rfl ?_
              refine tr_p (y_assign rfl) rfl rfl ?_
              refine tr_nil ?_
              refine tr_thenN ?_
              refine tr_seq ?_
              refine tr_region ?_
              refine tr_p (y_assign rfl) rfl rfl ?_
              refine tr_nil ?_
              refine tr_thenN ?_
              refine tr_block ?_
              obtain ⟨m65, H⟩ := H
              refine tr_sub [(0, x0.enc), (5, x5.enc), (8, (.int .i64 x8)), (9, (.int .i64 (y34.len : Int))), (10, (.int .i64 0))] ⟨rfl, rfl, rfl, rfl, rfl, trivial⟩ ?_
              refine tr_loop_j (fun m L' h => ∃ (x0 : Sl) (x5 : Sl) (x8 : Int) (x9 : Int) (x10 : Int), L' = [(0, x0.enc), (5, x5.enc), (8, (.int .i64 x8)), (9, (.int .i64 x9)), (10, (.int .i64 x10))] ∧ F.spatelaw2_GrownRows.l6 Q (F.spatelaw2_GrownRows.l5 Q q5) m x0 x5 x8 x9 x10 h) ?_ ?_ m65 ⟨_, _, _, _, _, rfl, H⟩
              · rintro L' h ⟨_, _, _, _, _, _, H⟩; exact H
              · rintro q6 L' h ⟨x0, x5, x8, x9, x10, rfl, H⟩
                unfold F.spatelaw2_GrownRows.l6 at H
                refine tr_seq ?_
                refine tr_seq ?_
                refine tr_region ?_
                refine tr_p (y_move rfl) rfl rfl ?_
                refine tr_p (y_move rfl) rfl rfl ?_
                refine tr_p (y_add rfl rfl) rfl rfl ?_
                refine tr_p (y_lss rfl rfl) rfl rfl ?_
                refine tr_nil ?_
                refine tr_thenN ?_
                refine tr_cond rfl (fun g36 => ?_) (fun g36 => ?_)
                · replace H := H.1 g36
                  refine tr_skip ?_
                  refine tr_thenN ?_
                  refine tr_seq_j (fun L' h => ∃ (x0 : Sl) (x5 : Sl) (x8 : Int) (x9 : Int) (x10 : Int), L' = [(0, x0.enc), (5, x5.enc), (8, (.int .i64 x8)), (9, (.int .i64 x9)), (10, (.int .i64 x10))] ∧ F.spatelaw2_GrownRows.j7 Q (F.spatelaw2_GrownRows.l5 Q q5) (F.spatelaw2_GrownRows.l6 Q (F.spatelaw2_GrownRows.l5 Q q5) q6) x0 x5 x8 x9 x10 h) ?_ ?_
                  · rintro L' h ⟨x0, x5, x8, x9, x10, rfl, H⟩
                    unfold F.spatelaw2_GrownRows.j7 at H
                    refine tr_region ?_
                    refine tr_p (y_move rfl) rfl rfl ?_
                    refine tr_p (y_add rfl rfl) rfl rfl ?_
                    refine tr_p (y_assign rfl) rfl rfl ?_
                    refine tr_nil ?_
                    refine tr_thenN ?_
                    exact tr_join [(0, x0.enc), (5, x5.enc), (8, (.int .i64 x8)), (9, (.int .i64 x9)), (10, (.int .i64 (IntKind.wrap .i64 (x10 + 1))))] ⟨rfl, rfl, rfl, rfl, rfl, trivial⟩ ⟨_, _, _, _, _, rfl, H⟩
                  · refine tr_block ?_
                    refine tr_seq ?_
                    refine tr_region ?_
                    refine tr_p (y_move rfl) rfl rfl ?_
                    refine tr_p (y_move rfl) rfl rfl ?_
                    refine tr_p (f_build rfl (bd_34_0_1_2 x8 (⟨#[116, 111, 108, 100]⟩ : ByteArray) x10)) rfl rfl ?_
                    refine tr_p (f_build rfl (bd_66_0 (⟨x8, (⟨#[116, 111, 108, 100]⟩ : ByteArray), x10⟩ : S_api_Cell))) rfl rfl ?_
                    refine tr_e (f_alloc (cs := ((⟨(⟨0, (⟨#[]⟩ : ByteArray), 0⟩ : S_api_Cell), (⟨0, 0, 0, 0⟩ : S_api_Agg)⟩ : S_api_Row) : S_api_Row).cells.toArray) Try.zeroValue66 rfl H) rfl rfl ?_
                    rintro _ h37 ⟨a38, rfl, H⟩
                    refine tr_e (f_store (vs := (⟨(⟨x8, (⟨#[116, 111, 108, 100]⟩ : ByteArray), x10⟩ : S_api_Cell), (⟨0, 0, 0, 0⟩ : S_api_Agg)⟩ : S_api_Row).cells) Try.sizeOf66 rfl rfl cellsOfStruct rfl (by intro v hv; exact ones_S_api_Row _ v hv) H) rfl rfl ?_
                    rintro _ h39 ⟨rfl, H⟩
                    refine tr_nil ?_
                    refine tr_thenN ?_
                    refine tr_seq_j (fun L' h => ∃ (x0 : Sl) (x5 : Sl) (x8 : Int) (x9 : Int) (x10 : Int) (x11 : Addr), L' = [(0, x0.enc), (5, x5.enc), (8, (.int .i64 x8)), (9, (.int .i64 x9)), (10, (.int .i64 x10)), (11, (.pointer (some x11)))] ∧ F.spatelaw2_GrownRows.j8 Q (F.spatelaw2_GrownRows.l5 Q q5) (F.spatelaw2_GrownRows.l6 Q (F.spatelaw2_GrownRows.l5 Q q5) q6) x0 x5 x8 x9 x10 x11 h) ?_ ?_
                    · rintro L' h ⟨x0, x5, x8, x9, x10, x11, rfl, H⟩
                      unfold F.spatelaw2_GrownRows.j8 at H
                      refine tr_seq_j (fun L' h => ∃ (x0 : Sl) (x5 : Sl) (x8 : Int) (x9 : Int) (x10 : Int) (x117 : Bool), L' = [(0, x0.enc), (5, x5.enc), (8, (.int .i64 x8)), (9, (.int .i64 x9)), (10, (.int .i64 x10)), (117, (.bool x117))] ∧ F.spatelaw2_GrownRows.j9 Q (F.spatelaw2_GrownRows.l5 Q q5) (F.spatelaw2_GrownRows.l6 Q (F.spatelaw2_GrownRows.l5 Q q5) q6) x0 x5 x8 x9 x10 x117 h) ?_ ?_
                      · rintro L' h ⟨x0, x5, x8, x9, x10, x117, rfl, H⟩
                        unfold F.spatelaw2_GrownRows.j9 at H
                        refine tr_cond rfl (fun g40 => ?_) (fun g40 => ?_)
                        · replace H := H.1 g40
                          refine tr_seq ?_
                          refine tr_region ?_
                          refine tr_p (y_assign rfl) rfl rfl ?_
                          refine tr_nil ?_
                          refine tr_thenN ?_
                          refine tr_ret ?_
                          refine tr_blockR ?_
                          refine tr_thenR ?_
                          refine tr_thenR ?_
                          refine tr_blockR ?_
                          refine tr_blockR ?_
                          refine tr_thenR ?_
                          refine tr_thenR ?_
                          refine tr_blockR ?_
                          refine tr_thenR ?_
                          exact tr_ret1 rfl rfl ⟨_, rfl, H⟩
                        · replace H := H.2 g40
                          refine tr_skip ?_
                          refine tr_blockN ?_
                          refine tr_thenN ?_
                          exact tr_join [(0, x0.enc), (5, x5.enc), (8, (.int .i64 x8)), (9, (.int .i64 x9)), (10, (.int .i64 x10))] ⟨rfl, rfl, rfl, rfl, rfl, trivial⟩ ⟨_, _, _, _, _, rfl, H⟩
                      · refine tr_draw mixed [0, 0, 3, 7, 0, 31, 63, 0, 255, 511, 1023, 1023, 4095, 8191, 16383, 16383, 65535, 131071, 16383, 524287, 1048575, 16383, 4194303, 8388607, 16777215] (by kernel_rfl) ?_
                        refine g_p 0 1 rfl (by kernel_rfl) (y_move rfl) rfl rfl ?_
                        refine g_p 1 3 rfl (by kernel_rfl) (y_move rfl) rfl rfl ?_
                        obtain ⟨a41, e42, H⟩ := H
                        refine g_p 2 7 rfl (by kernel_rfl) (f_idx (s := x5) Try.runUnderlying53 Try.sizeOf51 rfl rfl e42) rfl rfl ?_
                        obtain ⟨y43, k44, H⟩ := H
                        refine g_h 3 15 rfl (by kernel_rfl) (y_ld Try.isAgg51 rfl) k44 rfl rfl ?_
                        refine g_p 4 31 rfl (by kernel_rfl) (y_move rfl) rfl rfl ?_
                        obtain ⟨a45, e46, H⟩ := H
                        refine g_p 5 63 rfl (by kernel_rfl) (f_idx (s := y43) Try.runUnderlying51 Try.sizeOf66 rfl rfl e46) rfl rfl ?_
                        obtain ⟨y47, k48, H⟩ := H
                        refine g_h 6 127 rfl (by kernel_rfl) (y_ldS Try.isAgg66 Try.sizeOf66 rfl rfl) k48 rfl rfl ?_
                        obtain ⟨y49, k50, H⟩ := H
                        refine g_h 7 255 rfl (by kernel_rfl) (y_ldS Try.isAgg66 Try.sizeOf66 rfl rfl) k50 rfl rfl ?_
                        refine g_p 8 511 rfl (by kernel_rfl) (st_neq (b := ((((y47.Cell.View == y49.Cell.View) && ((y47.Cell.Key.toList == y49.Cell.Key.toList) && ((y47.Cell.Start == y49.Cell.Start) && true)))) && ((((y47.Agg.Count == y49.Agg.Count) && ((y47.Agg.Sum == y49.Agg.Sum) && ((y47.Agg.Min == y49.Agg.Min) && ((y47.Agg.Max == y49.Agg.Max) && true))))) && true))) eqg_66 (fun w => eqst_66 y47 y49 9997 w) rfl rfl) rfl rfl ?_
                        refine g_p 9 1023 rfl (by kernel_rfl) (y_move rfl) rfl rfl ?_
                        refine g_split (t := 102) rfl (fun g51 => ?_) (fun g51 => ?_)
                        · replace H := H.1 g51
                          refine g_s 10 2047 rfl (by kernel_rfl) rfl rfl ?_
                          refine g_s 11 4095 rfl (by kernel_rfl) rfl rfl ?_
                          refine g_s 12 8191 rfl (by kernel_rfl) rfl rfl ?_
                          refine g_s 13 16383 rfl (by kernel_rfl) rfl rfl ?_
                          refine g_s 14 32767 rfl (by kernel_rfl) rfl rfl ?_
                          refine g_s 15 65535 rfl (by kernel_rfl) rfl rfl ?_
                          refine g_s 16 131071 rfl (by kernel_rfl) rfl rfl ?_
                          refine g_s 17 262143 rfl (by kernel_rfl) rfl rfl ?_
                          refine g_s 18 524287 rfl (by kernel_rfl) rfl rfl ?_
                          refine g_s 19 1048575 rfl (by kernel_rfl) rfl rfl ?_
                          refine g_s 20 2097151 rfl (by kernel_rfl) rfl rfl ?_
                          refine g_s 21 4194303 rfl (by kernel_rfl) rfl rfl ?_
                          refine g_s 22 8388607 rfl (by kernel_rfl) rfl rfl ?_
                          refine g_s 23 16777215 rfl (by kernel_rfl) rfl rfl ?_
                          refine g_p 24 33554431 rfl (by kernel_rfl) (y_pick_t rfl rfl) rfl rfl ?_
                          refine g_d (by kernel_rfl) ?_
                          refine tr_thenN ?_
                          exact tr_join [(0, x0.enc), (5, x5.enc), (8, (.int .i64 x8)), (9, (.int .i64 x9)), (10, (.int .i64 x10)), (117, (.bool true))] ⟨rfl, rfl, rfl, rfl, rfl, rfl, trivial⟩ ⟨_, _, _, _, _, _, rfl, H⟩
                        · replace H := H.2 g51
                          refine g_p 10 2047 rfl (by kernel_rfl) (y_move rfl) rfl rfl ?_
                          refine g_p 11 4095 rfl (by kernel_rfl) (y_move rfl) rfl rfl ?_
                          refine g_p 12 8191 rfl (by kernel_rfl) (y_lss rfl rfl) rfl rfl ?_
                          refine g_p 13 16383 rfl (by kernel_rfl) (y_move rfl) rfl rfl ?_
                          refine g_split (t := 106) rfl (fun g52 => ?_) (fun g52 => ?_)
                          · replace H := H.1 g52
                            refine g_p 14 32767 rfl (by kernel_rfl) (y_move rfl) rfl rfl ?_
                            refine g_p 15 65535 rfl (by kernel_rfl) (y_move rfl) rfl rfl ?_
                            obtain ⟨a53, e54, H⟩ := H
                            refine g_p 16 131071 rfl (by kernel_rfl) (f_idx (s := x0) Try.runUnderlying53 Try.sizeOf51 rfl rfl e54) rfl rfl ?_
                            obtain ⟨y55, k56, H⟩ := H
                            refine g_h 17 262143 rfl (by kernel_rfl) (y_ld Try.isAgg51 rfl) k56 rfl rfl ?_
                            refine g_p 18 524287 rfl (by kernel_rfl) (y_move rfl) rfl rfl ?_
                            obtain ⟨a57, e58, H⟩ := H
                            refine g_p 19 1048575 rfl (by kernel_rfl) (f_idx (s := y55) Try.runUnderlying51 Try.sizeOf66 rfl rfl e58) rfl rfl ?_
                            obtain ⟨y59, k60, H⟩ := H
                            refine g_h 20 2097151 rfl (by kernel_rfl) (y_ldS Try.isAgg66 Try.sizeOf66 rfl rfl) k60 rfl rfl ?_
                            obtain ⟨y61, k62, H⟩ := H
                            refine g_h 21 4194303 rfl (by kernel_rfl) (y_ldS Try.isAgg66 Try.sizeOf66 rfl rfl) k62 rfl rfl ?_
                            refine g_p 22 8388607 rfl (by kernel_rfl) (st_neq (b := ((((y59.Cell.View == y61.Cell.View) && ((y59.Cell.Key.toList == y61.Cell.Key.toList) && ((y59.Cell.Start == y61.Cell.Start) && true)))) && ((((y59.Agg.Count == y61.Agg.Count) && ((y59.Agg.Sum == y61.Agg.Sum) && ((y59.Agg.Min == y61.Agg.Min) && ((y59.Agg.Max == y61.Agg.Max) && true))))) && true))) eqg_66 (fun w => eqst_66 y59 y61 9997 w) rfl rfl) rfl rfl ?_
                            refine g_p 23 16777215 rfl (by kernel_rfl) (y_pick_t rfl rfl) rfl rfl ?_
                            refine g_p 24 33554431 rfl (by kernel_rfl) (y_pick_f rfl rfl) rfl rfl ?_
                            refine g_d (by kernel_rfl) ?_
                            refine tr_thenN ?_
                            exact tr_join [(0, x0.enc), (5, x5.enc), (8, (.int .i64 x8)), (9, (.int .i64 x9)), (10, (.int .i64 x10)), (117, (.bool (!((((y59.Cell.View == y61.Cell.View) && ((y59.Cell.Key.toList == y61.Cell.Key.toList) && ((y59.Cell.Start == y61.Cell.Start) && true)))) && ((((y59.Agg.Count == y61.Agg.Count) && ((y59.Agg.Sum == y61.Agg.Sum) && ((y59.Agg.Min == y61.Agg.Min) && ((y59.Agg.Max == y61.Agg.Max) && true))))) && true)))))] ⟨rfl, rfl, rfl, rfl, rfl, rfl, trivial⟩ ⟨_, _, _, _, _, _, rfl, H⟩
                          · replace H := H.2 g52
                            refine g_s 14 32767 rfl (by kernel_rfl) rfl rfl ?_
                            refine g_s 15 65535 rfl (by kernel_rfl) rfl rfl ?_
                            refine g_s 16 131071 rfl (by kernel_rfl) rfl rfl ?_
                            refine g_s 17 262143 rfl (by kernel_rfl) rfl rfl ?_
                            refine g_s 18 524287 rfl (by kernel_rfl) rfl rfl ?_
                            refine g_s 19 1048575 rfl (by kernel_rfl) rfl rfl ?_
                            refine g_s 20 2097151 rfl (by kernel_rfl) rfl rfl ?_
                            refine g_s 21 4194303 rfl (by kernel_rfl) rfl rfl ?_
                            refine g_s 22 8388607 rfl (by kernel_rfl) rfl rfl ?_
                            refine g_p 23 16777215 rfl (by kernel_rfl) (y_pick_f rfl rfl) rfl rfl ?_
                            refine g_p 24 33554431 rfl (by kernel_rfl) (y_pick_f rfl rfl) rfl rfl ?_
                            refine g_d (by kernel_rfl) ?_
                            refine tr_thenN ?_
                            exact tr_join [(0, x0.enc), (5, x5.enc), (8, (.int .i64 x8)), (9, (.int .i64 x9)), (10, (.int .i64 x10)), (117, (.bool false))] ⟨rfl, rfl, rfl, rfl, rfl, rfl, trivial⟩ ⟨_, _, _, _, _, _, rfl, H⟩
                    · refine tr_seq ?_
                      refine tr_region ?_
                      refine tr_p (y_move rfl) rfl rfl ?_
                      refine tr_p (y_move rfl) rfl rfl ?_
                      refine tr_p (y_geq rfl rfl) rfl rfl ?_
                      refine tr_nil ?_
                      refine tr_thenN ?_
                      refine tr_cond rfl (fun g63 => ?_) (fun g63 => ?_)
                      · replace H := H.1 g63
                        refine tr_region ?_
                        refine tr_p (y_move rfl) rfl rfl ?_
                        refine tr_p (y_move rfl) rfl rfl ?_
                        refine tr_p (y_move rfl) rfl rfl ?_
                        refine tr_p (y_sub rfl rfl) rfl rfl ?_
                        refine tr_p (f_build rfl (bd_34_0_1_2 x8 (⟨#[109, 111, 114, 101]⟩ : ByteArray) (IntKind.wrap .i64 (x10 - x9)))) rfl rfl ?_
                        refine tr_p (f_build rfl (bd_66_0 (⟨x8, (⟨#[109, 111, 114, 101]⟩ : ByteArray), (IntKind.wrap .i64 (x10 - x9))⟩ : S_api_Cell))) rfl rfl ?_
                        refine tr_e (f_store (vs := (⟨(⟨x8, (⟨#[109, 111, 114, 101]⟩ : ByteArray), (IntKind.wrap .i64 (x10 - x9))⟩ : S_api_Cell), (⟨0, 0, 0, 0⟩ : S_api_Agg)⟩ : S_api_Row).cells) Try.sizeOf66 rfl rfl cellsOfStruct rfl (by intro v hv; exact ones_S_api_Row _ v hv) H) rfl rfl ?_
                        rintro _ h64 ⟨rfl, H⟩
                        refine tr_nil ?_
                        refine tr_thenN ?_
                        exact tr_join [(0, x0.enc), (5, x5.enc), (8, (.int .i64 x8)), (9, (.int .i64 x9)), (10, (.int .i64 x10)), (11, (.pointer (some a38)))] ⟨rfl, rfl, rfl, rfl, rfl, rfl, trivial⟩ ⟨_, _, _, _, _, _, rfl, H⟩
                      · replace H := H.2 g63
                        refine tr_skip ?_
                        refine tr_thenN ?_
                        exact tr_join [(0, x0.enc), (5, x5.enc), (8, (.int .i64 x8)), (9, (.int .i64 x9)), (10, (.int .i64 x10)), (11, (.pointer (some a38)))] ⟨rfl, rfl, rfl, rfl, rfl, rfl, trivial⟩ ⟨_, _, _, _, _, _, rfl, H⟩
                · replace H := H.2 g36
                  refine tr_exit ?_
                  refine tr_thenE ?_
                  refine tr_thenE ?_
                  refine tr_hit ?_
                  refine tr_blockN ?_
                  refine tr_thenN ?_
                  refine tr_region ?_
                  refine tr_p (y_move rfl) rfl rfl ?_
                  refine tr_p (y_add rfl rfl) rfl rfl ?_
                  refine tr_p (y_assign rfl) rfl rfl ?_
                  refine tr_nil ?_
                  refine tr_thenN ?_
                  exact tr_join [(0, x0.enc), (5, x5.enc), (8, (.int .i64 (IntKind.wrap .i64 (x8 + 1))))] ⟨rfl, rfl, rfl, trivial⟩ ⟨_, _, _, rfl, H⟩
            · replace H := H.2 g31
              refine tr_exit ?_
              refine tr_thenE ?_
              refine tr_thenE ?_
              refine tr_hit ?_
              refine tr_thenN ?_
              refine tr_seq ?_
              refine tr_region ?_
              refine tr_p (y_assign rfl) rfl rfl ?_
              refine tr_nil ?_
              refine tr_thenN ?_
              refine tr_ret ?_
              exact tr_ret1 rfl rfl ⟨_, rfl, H⟩
end Go.Proofs.Ytidpbnbjpglhfaa.V
namespace Go.Proofs.Ytidpbnbjpglhfaa.V
open Go
set_option linter.unusedVariables false
set_option maxRecDepth 100000
def F.spatelaw2_GrownInts.l2 (Q : Bool → H → Prop) (C1 : Sl → Int → H → Prop) : Nat → Sl → Int → Int → H → Prop
  | 0, _, _, _, _ => False
  | q2 + 1, x0, x3, x4, h =>
    idxA x0 x3 1 fun a2 =>
    ldL h a2 fun y4 =>
    ((decide (x4 < (y4.len : Int))) = true →
    idxA x0 x3 1 fun a7 =>
    ldL h a7 fun y9 =>
    idxA y9 x4 1 fun a11 =>
    stH h a11 [(.int .i64 (IntKind.wrap .i64 ((IntKind.wrap .i64 (1000 * x3)) + x4)))] fun h13 =>
    (F.spatelaw2_GrownInts.l2 Q C1 q2) x0 x3 (IntKind.wrap .i64 (x4 + 1)) h13) ∧
    ((decide (x4 < (y4.len : Int))) = false →
    C1 x0 (IntKind.wrap .i64 (x3 + 1)) h)
def F.spatelaw2_GrownInts.l4 (Q : Bool → H → Prop) (C1 : Sl → Sl → Int → H → Prop) : Nat → Sl → Sl → Int → Int → H → Prop
  | 0, _, _, _, _, _ => False
  | q4 + 1, x0, x5, x6, x7, h =>
    ((decide (x7 < (x0.len : Int))) = true →
    idxA x5 x7 1 fun a19 =>
    ldL h a19 fun y21 =>
    newL h #[(.int .i64 (IntKind.wrap .i64 ((IntKind.wrap .i64 ((IntKind.wrap .i64 (0 - (IntKind.wrap .i64 (1000 * x7)))) - x6)) - 1)))] ty_3 1 fun s24 h23 =>
    runL PP (Builtin.append_ #[23, 23] 23 #[y21.enc, s24.enc]) h23 fun s26 h25 =>
    idxA x5 x7 1 fun a27 =>
    stH h25 a27 [s26.enc] fun h29 =>
    (F.spatelaw2_GrownInts.l4 Q C1 q4) x0 x5 x6 (IntKind.wrap .i64 (x7 + 1)) h29) ∧
    ((decide (x7 < (x0.len : Int))) = false →
    C1 x0 x5 (IntKind.wrap .i64 (x6 + 1)) h)
def F.spatelaw2_GrownInts.j7 (Q : Bool → H → Prop) (C1 : Sl → Sl → Int → H → Prop) (C2 : Sl → Sl → Int → Int → Int → H → Prop) (x0 : Sl) (x5 : Sl) (x8 : Int) (x9 : Int) (x10 : Int) (h : H) : Prop :=
  C2 x0 x5 x8 x9 (IntKind.wrap .i64 (x10 + 1)) h
def F.spatelaw2_GrownInts.j8 (Q : Bool → H → Prop) (C1 : Sl → Sl → Int → H → Prop) (C2 : Sl → Sl → Int → Int → Int → H → Prop) (x0 : Sl) (x5 : Sl) (x8 : Int) (x9 : Int) (x10 : Int) (x134 : Bool) (h : H) : Prop :=
  (x134 = true →
  Q false h) ∧
  (x134 = false →
  F.spatelaw2_GrownInts.j7 Q C1 C2 x0 x5 x8 x9 x10 h)
def F.spatelaw2_GrownInts.l6 (Q : Bool → H → Prop) (C1 : Sl → Sl → Int → H → Prop) : Nat → Sl → Sl → Int → Int → Int → H → Prop
  | 0, _, _, _, _, _, _ => False
  | q6 + 1, x0, x5, x8, x9, x10, h =>
    ((decide (x10 < (IntKind.wrap .i64 (x9 + 40)))) = true →
    ((decide (x10 < x9)) = true →
    idxA x0 x8 1 fun a39 =>
    ldL h a39 fun y41 =>
    idxA y41 x10 1 fun a43 =>
    ldI .i64 h a43 fun y45 =>
    (((y45 != (IntKind.wrap .i64 ((IntKind.wrap .i64 (1000 * x8)) + x10)))) = true →
    F.spatelaw2_GrownInts.j8 Q C1 (F.spatelaw2_GrownInts.l6 Q C1 q6) x0 x5 x8 x9 x10 true h) ∧
    (((y45 != (IntKind.wrap .i64 ((IntKind.wrap .i64 (1000 * x8)) + x10)))) = false →
    idxA x5 x8 1 fun a48 =>
    ldL h a48 fun y50 =>
    idxA y50 x10 1 fun a52 =>
    ldI .i64 h a52 fun y54 =>
    (((y54 != (IntKind.wrap .i64 ((IntKind.wrap .i64 (1000 * x8)) + x10)))) = true →
    F.spatelaw2_GrownInts.j8 Q C1 (F.spatelaw2_GrownInts.l6 Q C1 q6) x0 x5 x8 x9 x10 true h) ∧
    (((y54 != (IntKind.wrap .i64 ((IntKind.wrap .i64 (1000 * x8)) + x10)))) = false →
    ((decide (x10 ≥ x9)) = true →
    idxA x5 x8 1 fun a58 =>
    ldL h a58 fun y60 =>
    idxA y60 x10 1 fun a62 =>
    ldI .i64 h a62 fun y64 =>
    F.spatelaw2_GrownInts.j8 Q C1 (F.spatelaw2_GrownInts.l6 Q C1 q6) x0 x5 x8 x9 x10 ((y64 != (IntKind.wrap .i64 ((IntKind.wrap .i64 ((IntKind.wrap .i64 (0 - (IntKind.wrap .i64 (1000 * x8)))) - (IntKind.wrap .i64 (x10 - x9)))) - 1)))) h) ∧
    ((decide (x10 ≥ x9)) = false →
    F.spatelaw2_GrownInts.j8 Q C1 (F.spatelaw2_GrownInts.l6 Q C1 q6) x0 x5 x8 x9 x10 false h)))) ∧
    ((decide (x10 < x9)) = false →
    ((decide (x10 ≥ x9)) = true →
    idxA x5 x8 1 fun a67 =>
    ldL h a67 fun y69 =>
    idxA y69 x10 1 fun a71 =>
    ldI .i64 h a71 fun y73 =>
    F.spatelaw2_GrownInts.j8 Q C1 (F.spatelaw2_GrownInts.l6 Q C1 q6) x0 x5 x8 x9 x10 ((y73 != (IntKind.wrap .i64 ((IntKind.wrap .i64 ((IntKind.wrap .i64 (0 - (IntKind.wrap .i64 (1000 * x8)))) - (IntKind.wrap .i64 (x10 - x9)))) - 1)))) h) ∧
    ((decide (x10 ≥ x9)) = false →
    F.spatelaw2_GrownInts.j8 Q C1 (F.spatelaw2_GrownInts.l6 Q C1 q6) x0 x5 x8 x9 x10 false h))) ∧
    ((decide (x10 < (IntKind.wrap .i64 (x9 + 40)))) = false →
    C1 x0 x5 (IntKind.wrap .i64 (x8 + 1)) h)
def F.spatelaw2_GrownInts.l5 (Q : Bool → H → Prop) : Nat → Sl → Sl → Int → H → Prop
  | 0, _, _, _, _ => False
  | q5 + 1, x0, x5, x8, h =>
    ((decide (x8 < (x0.len : Int))) = true →
    idxA x0 x8 1 fun a32 =>
    ldL h a32 fun y34 =>
    ∃ m, F.spatelaw2_GrownInts.l6 Q (F.spatelaw2_GrownInts.l5 Q q5) m x0 x5 x8 (y34.len : Int) 0 h) ∧
    ((decide (x8 < (x0.len : Int))) = false →
    Q true h)
def F.spatelaw2_GrownInts.l3 (Q : Bool → H → Prop) : Nat → Sl → Sl → Int → H → Prop
  | 0, _, _, _, _ => False
  | q3 + 1, x0, x5, x6, h =>
    ((decide (x6 < 40)) = true →
    ∃ m, F.spatelaw2_GrownInts.l4 Q (F.spatelaw2_GrownInts.l3 Q q3) m x0 x5 x6 0 h) ∧
    ((decide (x6 < 40)) = false →
    ∃ m, F.spatelaw2_GrownInts.l5 Q m x0 x5 0 h)
def F.spatelaw2_GrownInts.l1 (Q : Bool → H → Prop) : Nat → Sl → Int → H → Prop
  | 0, _, _, _ => False
  | q1 + 1, x0, x3, h =>
    ((decide (x3 < (x0.len : Int))) = true →
    ∃ m, F.spatelaw2_GrownInts.l2 Q (F.spatelaw2_GrownInts.l1 Q q1) m x0 x3 0 h) ∧
    ((decide (x3 < (x0.len : Int))) = false →
    runL PP (Builtin.append_ #[25, 25] 25 #[(⟨none, 0, 0⟩ : Sl).enc, x0.enc]) h fun s16 h15 =>
    ∃ m, F.spatelaw2_GrownInts.l3 Q m x0 s16 0 h15)
/-- spate/spatelaw2.GrownInts -/
def F.spatelaw2_GrownInts (p0 : Sl) (h : H) (Q : Bool → H → Prop) : Prop :=
  ∃ m, F.spatelaw2_GrownInts.l1 Q m p0 0 h
theorem F.spatelaw2_GrownInts_ok {p0 : Sl} {h : H} {Q : Bool → H → Prop} (H : F.spatelaw2_GrownInts p0 h Q) : Fn PP 37 ([p0.enc] : List Value).toArray h fun r h' => ∃ r0, r = (.bool r0) ∧ Q r0 h' := by
  unfold F.spatelaw2_GrownInts at H
  refine fn_of Try.func37 Try.ntmps37 rfl rfl fun w0 => ?_
  refine tr_sub [(0, p0.enc)] ⟨rfl, trivial⟩ ?_
  refine tr_seq ?_
  refine tr_region ?_
  refine tr_p (y_assign rfl) rfl rfl ?_
  refine tr_nil ?_
  refine tr_thenN ?_
  refine tr_seq ?_
  refine tr_seq ?_
  refine tr_region ?_
  refine tr_p (y_assign rfl) rfl rfl ?_
  refine tr_nil ?_
  refine tr_thenN ?_
  refine tr_block ?_
  obtain ⟨m78, H⟩ := H
  refine tr_sub [(0, p0.enc), (3, (.int .i64 0))] ⟨rfl, rfl, trivial⟩ ?_
  refine tr_loop_j (fun m L' h => ∃ (x0 : Sl) (x3 : Int), L' = [(0, x0.enc), (3, (.int .i64 x3))] ∧ F.spatelaw2_GrownInts.l1 Q m x0 x3 h) ?_ ?_ m78 ⟨_, _, rfl, H⟩
  · rintro L' h ⟨_, _, _, H⟩; exact H
  · rintro q1 L' h ⟨x0, x3, rfl, H⟩
    unfold F.spatelaw2_GrownInts.l1 at H
    refine tr_seq ?_
    refine tr_seq ?_
    refine tr_region ?_
    refine tr_p (y_move rfl) rfl rfl ?_
    refine tr_p (y_move rfl) rfl rfl ?_
    refine tr_p (y_len (ts := #[]) Try.runUnderlying25 (o := x0.ptr) (n := x0.len) (cap := x0.cap) rfl) rfl rfl ?_
    refine tr_p (y_lss rfl rfl) rfl rfl ?_
    refine tr_nil ?_
    refine tr_thenN ?_
    refine tr_cond rfl (fun g1 => ?_) (fun g1 => ?_)
    · replace H := H.1 g1
      refine tr_skip ?_
      refine tr_thenN ?_
      refine tr_seq ?_
      refine tr_block ?_
      refine tr_seq ?_
      refine tr_region ?_
      refine tr_p (y_assign rfl) rfl rfl ?_
      refine tr_nil ?_
      refine tr_thenN ?_
      refine tr_block ?_
      obtain ⟨m14, H⟩ := H
      refine tr_sub [(0, x0.enc), (3, (.int .i64 x3)), (4, (.int .i64 0))] ⟨rfl, rfl, rfl, trivial⟩ ?_
      refine tr_loop_j (fun m L' h => ∃ (x0 : Sl) (x3 : Int) (x4 : Int), L' = [(0, x0.enc), (3, (.int .i64 x3)), (4, (.int .i64 x4))] ∧ F.spatelaw2_GrownInts.l2 Q (F.spatelaw2_GrownInts.l1 Q q1) m x0 x3 x4 h) ?_ ?_ m14 ⟨_, _, _, rfl, H⟩
      · rintro L' h ⟨_, _, _, _, H⟩; exact H
      · rintro q2 L' h ⟨x0, x3, x4, rfl, H⟩
        unfold F.spatelaw2_GrownInts.l2 at H
        refine tr_seq ?_
        refine tr_seq ?_
        refine tr_region ?_
        refine tr_p (y_move rfl) rfl rfl ?_
        refine tr_p (y_move rfl) rfl rfl ?_
        refine tr_p (y_move rfl) rfl rfl ?_
        obtain ⟨a2, e3, H⟩ := H
        refine tr_p (f_idx (s := x0) Try.runUnderlying25 Try.sizeOf23 rfl rfl e3) rfl rfl ?_
        obtain ⟨y4, k5, H⟩ := H
        refine tr_h (y_ld Try.isAgg23 rfl) k5 rfl rfl ?_
        refine tr_p (y_len (ts := #[]) Try.runUnderlying23 (o := y4.ptr) (n := y4.len) (cap := y4.cap) rfl) rfl rfl ?_
        refine tr_p (y_lss rfl rfl) rfl rfl ?_
        refine tr_nil ?_
        refine tr_thenN ?_
        refine tr_cond rfl (fun g6 => ?_) (fun g6 => ?_)
        · replace H := H.1 g6
          refine tr_skip ?_
          refine tr_thenN ?_
          refine tr_seq ?_
          refine tr_block ?_
          refine tr_region ?_
          refine tr_p (y_move rfl) rfl rfl ?_
          refine tr_p (y_move rfl) rfl rfl ?_
          obtain ⟨a7, e8, H⟩ := H
          refine tr_p (f_idx (s := x0) Try.runUnderlying25 Try.sizeOf23 rfl rfl e8) rfl rfl ?_
          obtain ⟨y9, k10, H⟩ := H
          refine tr_h (y_ld Try.isAgg23 rfl) k10 rfl rfl ?_
          refine tr_p (y_move rfl) rfl rfl ?_
          refine tr_p (y_move rfl) rfl rfl ?_
          refine tr_p (y_mul rfl rfl) rfl rfl ?_
          refine tr_p (y_move rfl) rfl rfl ?_
          refine tr_p (y_add rfl rfl) rfl rfl ?_
          obtain ⟨a11, e12, H⟩ := H
          refine tr_p (f_idx (s := y9) Try.runUnderlying23 Try.sizeOf3 rfl rfl e12) rfl rfl ?_
          refine tr_e (f_store (vs := [(.int .i64 (IntKind.wrap .i64 ((IntKind.wrap .i64 (1000 * x3)) + x4)))]) Try.sizeOf3 rfl rfl rfl rfl (one1 rfl) H) rfl rfl ?_
          rintro _ h13 ⟨rfl, H⟩
          refine tr_nil ?_
          refine tr_blockN ?_
          refine tr_thenN ?_
          refine tr_region ?_
          refine tr_p (y_move rfl) rfl rfl ?_
          refine tr_p (y_add rfl rfl) rfl rfl ?_
          refine tr_p (y_assign rfl) rfl rfl ?_
          refine tr_nil ?_
          refine tr_thenN ?_
          exact tr_join [(0, x0.enc), (3, (.int .i64 x3)), (4, (.int .i64 (IntKind.wrap .i64 (x4 + 1))))] ⟨rfl, rfl, rfl, trivial⟩ ⟨_, _, _, rfl, H⟩
        · replace H := H.2 g6
          refine tr_exit ?_
          refine tr_thenE ?_
          refine tr_thenE ?_
          refine tr_hit ?_
          refine tr_blockN ?_
          refine tr_thenN ?_
          refine tr_region ?_
          refine tr_p (y_move rfl) rfl rfl ?_
          refine tr_p (y_add rfl rfl) rfl rfl ?_
          refine tr_p (y_assign rfl) rfl rfl ?_
          refine tr_nil ?_
          refine tr_thenN ?_
          exact tr_join [(0, x0.enc), (3, (.int .i64 (IntKind.wrap .i64 (x3 + 1))))] ⟨rfl, rfl, trivial⟩ ⟨_, _, rfl, H⟩
    · replace H := H.2 g1
      refine tr_exit ?_
      refine tr_thenE ?_
      refine tr_thenE ?_
      refine tr_hit ?_
      refine tr_thenN ?_
      refine tr_seq ?_
      refine tr_region ?_
      refine tr_p (y_assign rfl) rfl rfl ?_
      refine tr_nil ?_
      refine tr_thenN ?_
      refine tr_seq ?_
      refine tr_region ?_
      refine tr_p (y_move rfl) rfl rfl ?_
      refine tr_p (y_move rfl) rfl rfl ?_
      refine tr_e (f_app rfl H) rfl rfl ?_
      rintro _ h15 ⟨s16, rfl, H⟩
      refine tr_p (y_assign rfl) rfl rfl ?_
      refine tr_nil ?_
      refine tr_thenN ?_
      refine tr_seq ?_
      refine tr_seq ?_
      refine tr_region ?_
      refine tr_p (y_assign rfl) rfl rfl ?_
      refine tr_nil ?_
      refine tr_thenN ?_
      refine tr_block ?_
      obtain ⟨m77, H⟩ := H
      refine tr_sub [(0, x0.enc), (5, s16.enc), (6, (.int .i64 0))] ⟨rfl, rfl, rfl, trivial⟩ ?_
      refine tr_loop_j (fun m L' h => ∃ (x0 : Sl) (x5 : Sl) (x6 : Int), L' = [(0, x0.enc), (5, x5.enc), (6, (.int .i64 x6))] ∧ F.spatelaw2_GrownInts.l3 Q m x0 x5 x6 h) ?_ ?_ m77 ⟨_, _, _, rfl, H⟩
      · rintro L' h ⟨_, _, _, _, H⟩; exact H
      · rintro q3 L' h ⟨x0, x5, x6, rfl, H⟩
        unfold F.spatelaw2_GrownInts.l3 at H
        refine tr_seq ?_
        refine tr_seq ?_
        refine tr_region ?_
        refine tr_p (y_move rfl) rfl rfl ?_
        refine tr_p (y_lss rfl rfl) rfl rfl ?_
        refine tr_nil ?_
        refine tr_thenN ?_
        refine tr_cond rfl (fun g17 => ?_) (fun g17 => ?_)
        · replace H := H.1 g17
          refine tr_skip ?_
          refine tr_thenN ?_
          refine tr_seq ?_
          refine tr_block ?_
          refine tr_seq ?_
          refine tr_region ?_
          refine tr_p (y_assign rfl) rfl rfl ?_
          refine tr_nil ?_
          refine tr_thenN ?_
          refine tr_block ?_
          obtain ⟨m30, H⟩ := H
          refine tr_sub [(0, x0.enc), (5, x5.enc), (6, (.int .i64 x6)), (7, (.int .i64 0))] ⟨rfl, rfl, rfl, rfl, trivial⟩ ?_
          refine tr_loop_j (fun m L' h => ∃ (x0 : Sl) (x5 : Sl) (x6 : Int) (x7 : Int), L' = [(0, x0.enc), (5, x5.enc), (6, (.int .i64 x6)), (7, (.int .i64 x7))] ∧ F.spatelaw2_GrownInts.l4 Q (F.spatelaw2_GrownInts.l3 Q q3) m x0 x5 x6 x7 h) ?_ ?_ m30 ⟨_, _, _, _, rfl, H⟩
          · rintro L' h ⟨_, _, _, _, _, H⟩; exact H
          · rintro q4 L' h ⟨x0, x5, x6, x7, rfl, H⟩
            unfold F.spatelaw2_GrownInts.l4 at H
            refine tr_seq ?_
            refine tr_seq ?_
            refine tr_region ?_
            refine tr_p (y_move rfl) rfl rfl ?_
            refine tr_p (y_move rfl) rfl rfl ?_
            refine tr_p (y_len (ts := #[]) Try.runUnderlying25 (o := x0.ptr) (n := x0.len) (cap := x0.cap) rfl) rfl rfl ?_
            refine tr_p (y_lss rfl rfl) rfl rfl ?_
            refine tr_nil ?_
            refine tr_thenN ?_
            refine tr_cond rfl (fun g18 => ?_) (fun g18 => ?_)
            · replace H := H.1 g18
              refine tr_skip ?_
              refine tr_thenN ?_
              refine tr_seq ?_
              refine tr_block ?_
              refine tr_region ?_
              refine tr_p (y_move rfl) rfl rfl ?_
              refine tr_p (y_move rfl) rfl rfl ?_
              refine tr_p (y_move rfl) rfl rfl ?_
              refine tr_p (y_move rfl) rfl rfl ?_
              obtain ⟨a19, e20, H⟩ := H
              refine tr_p (f_idx (s := x5) Try.runUnderlying25 Try.sizeOf23 rfl rfl e20) rfl rfl ?_
              obtain ⟨y21, k22, H⟩ := H
              refine tr_h (y_ld Try.isAgg23 rfl) k22 rfl rfl ?_
              refine tr_p (y_move rfl) rfl rfl ?_
              refine tr_p (y_mul rfl rfl) rfl rfl ?_
              refine tr_p (y_sub rfl rfl) rfl rfl ?_
              refine tr_p (y_move rfl) rfl rfl ?_
              refine tr_p (y_sub rfl rfl) rfl rfl ?_
              refine tr_p (y_sub rfl rfl) rfl rfl ?_
              refine tr_e (f_buildL (cs := #[(.int .i64 (IntKind.wrap .i64 ((IntKind.wrap .i64 ((IntKind.wrap .i64 (0 - (IntKind.wrap .i64 (1000 * x7)))) - x6)) - 1)))]) rfl rfl (bl_23_1_0 (IntKind.wrap .i64 ((IntKind.wrap .i64 ((IntKind.wrap .i64 (0 - (IntKind.wrap .i64 (1000 * x7)))) - x6)) - 1))) H) rfl rfl ?_
              rintro _ h23 ⟨s24, rfl, H⟩
              refine tr_e (f_app rfl H) rfl rfl ?_
              rintro _ h25 ⟨s26, rfl, H⟩
              obtain ⟨a27, e28, H⟩ := H
              refine tr_p (f_idx (s := x5) Try.runUnderlying25 Try.sizeOf23 rfl rfl e28) rfl rfl ?_
              refine tr_e (f_store (vs := [s26.enc]) Try.sizeOf23 rfl rfl rfl rfl (one1 rfl) H) rfl rfl ?_
              rintro _ h29 ⟨rfl, H⟩
              refine tr_nil ?_
              refine tr_blockN ?_
              refine tr_thenN ?_
              refine tr_region ?_
              refine tr_p (y_move rfl) rfl rfl ?_
              refine tr_p (y_add rfl rfl) rfl rfl ?_
              refine tr_p (y_assign rfl) rfl rfl ?_
              refine tr_nil ?_
              refine tr_thenN ?_
              exact tr_join [(0, x0.enc), (5, x5.enc), (6, (.int .i64 x6)), (7, (.int .i64 (IntKind.wrap .i64 (x7 + 1))))] ⟨rfl, rfl, rfl, rfl, trivial⟩ ⟨_, _, _, _, rfl, H⟩
            · replace H := H.2 g18
              refine tr_exit ?_
              refine tr_thenE ?_
              refine tr_thenE ?_
              refine tr_hit ?_
              refine tr_blockN ?_
              refine tr_thenN ?_
              refine tr_region ?_
              refine tr_p (y_move rfl) rfl rfl ?_
              refine tr_p (y_add rfl rfl) rfl rfl ?_
              refine tr_p (y_assign rfl) rfl rfl ?_
              refine tr_nil ?_
              refine tr_thenN ?_
              exact tr_join [(0, x0.enc), (5, x5.enc), (6, (.int .i64 (IntKind.wrap .i64 (x6 + 1))))] ⟨rfl, rfl, rfl, trivial⟩ ⟨_, _, _, rfl, H⟩
        · replace H := H.2 g17
          refine tr_exit ?_
          refine tr_thenE ?_
          refine tr_thenE ?_
          refine tr_hit ?_
          refine tr_thenN ?_
          refine tr_seq ?_
          refine tr_seq ?_
          refine tr_region ?_
          refine tr_p (y_assign rfl) rfl rfl ?_
          refine tr_nil ?_
          refine tr_thenN ?_
          refine tr_block ?_
          obtain ⟨m76, H⟩ := H
          refine tr_sub [(0, x0.enc), (5, x5.enc), (8, (.int .i64 0))] ⟨rfl, rfl, rfl, trivial⟩ ?_
          refine tr_loop_j (fun m L' h => ∃ (x0 : Sl) (x5 : Sl) (x8 : Int), L' = [(0, x0.enc), (5, x5.enc), (8, (.int .i64 x8))] ∧ F.spatelaw2_GrownInts.l5 Q m x0 x5 x8 h) ?_ ?_ m76 ⟨_, _, _, rfl, H⟩
          · rintro L' h ⟨_, _, _, _, H⟩; exact H
          · rintro q5 L' h ⟨x0, x5, x8, rfl, H⟩
            unfold F.spatelaw2_GrownInts.l5 at H
            refine tr_seq ?_
            refine tr_seq ?_
            refine tr_region ?_
            refine tr_p (y_move rfl) rfl rfl ?_
            refine tr_p (y_move rfl) rfl rfl ?_
            refine tr_p (y_len (ts := #[]) Try.runUnderlying25 (o := x0.ptr) (n := x0.len) (cap := x0.cap) rfl) rfl rfl ?_
            refine tr_p (y_lss rfl rfl) rfl rfl ?_
            refine tr_nil ?_
            refine tr_thenN ?_
            refine tr_cond rfl (fun g31 => ?_) (fun g31 => ?_)
            · replace H := H.1 g31
              refine tr_skip ?_
              refine tr_thenN ?_
              refine tr_seq ?_
              refine tr_block ?_
              refine tr_seq ?_
              refine tr_region ?_
              refine tr_p (y_move rfl) rfl rfl ?_
              refine tr_p (y_move rfl) rfl rfl ?_
              obtain ⟨a32, e33, H⟩ := H
              refine tr_p (f_idx (s := x0) Try.runUnderlying25 Try.sizeOf23 rfl rfl e33) rfl rfl ?_
              obtain ⟨y34, k35, H⟩ := H
              refine tr_h (y_ld Try.isAgg23 rfl) k35 rfl rfl ?_
              refine tr_p (y_len (ts := #[]) Try.runUnderlying23 (o := y34.ptr) (n := y34.len) (cap := y34.cap) rfl) rfl rfl ?_
              refine tr_p (y_assign rfl) rfl rfl ?_
              refine tr_nil ?_
              refine tr_thenN ?_
              refine tr_seq ?_
              refine tr_region ?_
              refine tr_p (y_assign rfl) rfl rfl ?_
              refine tr_nil ?_
              refine tr_thenN ?_
              refine tr_block ?_
              obtain ⟨m75, H⟩ := H
              refine tr_sub [(0, x0.enc), (5, x5.enc), (8, (.int .i64 x8)), (9, (.int .i64 (y34.len : Int))), (10, (.int .i64 0))] ⟨rfl, rfl, rfl, rfl, rfl, trivial⟩ ?_
              refine tr_loop_j (fun m L' h => ∃ (x0 : Sl) (x5 : Sl) (x8 : Int) (x9 : Int) (x10 : Int), L' = [(0, x0.enc), (5, x5.enc), (8, (.int .i64 x8)), (9, (.int .i64 x9)), (10, (.int .i64 x10))] ∧ F.spatelaw2_GrownInts.l6 Q (F.spatelaw2_GrownInts.l5 Q q5) m x0 x5 x8 x9 x10 h) ?_ ?_ m75 ⟨_, _, _, _, _, rfl, H⟩
              · rintro L' h ⟨_, _, _, _, _, _, H⟩; exact H
              · rintro q6 L' h ⟨x0, x5, x8, x9, x10, rfl, H⟩
                unfold F.spatelaw2_GrownInts.l6 at H
                refine tr_seq ?_
                refine tr_seq ?_
                refine tr_region ?_
                refine tr_p (y_move rfl) rfl rfl ?_
                refine tr_p (y_move rfl) rfl rfl ?_
                refine tr_p (y_add rfl rfl) rfl rfl ?_
                refine tr_p (y_lss rfl rfl) rfl rfl ?_
                refine tr_nil ?_
                refine tr_thenN ?_
                refine tr_cond rfl (fun g36 => ?_) (fun g36 => ?_)
                · replace H := H.1 g36
                  refine tr_skip ?_
                  refine tr_thenN ?_
                  refine tr_seq_j (fun L' h => ∃ (x0 : Sl) (x5 : Sl) (x8 : Int) (x9 : Int) (x10 : Int), L' = [(0, x0.enc), (5, x5.enc), (8, (.int .i64 x8)), (9, (.int .i64 x9)), (10, (.int .i64 x10))] ∧ F.spatelaw2_GrownInts.j7 Q (F.spatelaw2_GrownInts.l5 Q q5) (F.spatelaw2_GrownInts.l6 Q (F.spatelaw2_GrownInts.l5 Q q5) q6) x0 x5 x8 x9 x10 h) ?_ ?_
                  · rintro L' h ⟨x0, x5, x8, x9, x10, rfl, H⟩
                    unfold F.spatelaw2_GrownInts.j7 at H
                    refine tr_region ?_
                    refine tr_p (y_move rfl) rfl rfl ?_
                    refine tr_p (y_add rfl rfl) rfl rfl ?_
                    refine tr_p (y_assign rfl) rfl rfl ?_
                    refine tr_nil ?_
                    refine tr_thenN ?_
                    exact tr_join [(0, x0.enc), (5, x5.enc), (8, (.int .i64 x8)), (9, (.int .i64 x9)), (10, (.int .i64 (IntKind.wrap .i64 (x10 + 1))))] ⟨rfl, rfl, rfl, rfl, rfl, trivial⟩ ⟨_, _, _, _, _, rfl, H⟩
                  · refine tr_block ?_
                    refine tr_seq_j (fun L' h => ∃ (x0 : Sl) (x5 : Sl) (x8 : Int) (x9 : Int) (x10 : Int) (x134 : Bool), L' = [(0, x0.enc), (5, x5.enc), (8, (.int .i64 x8)), (9, (.int .i64 x9)), (10, (.int .i64 x10)), (134, (.bool x134))] ∧ F.spatelaw2_GrownInts.j8 Q (F.spatelaw2_GrownInts.l5 Q q5) (F.spatelaw2_GrownInts.l6 Q (F.spatelaw2_GrownInts.l5 Q q5) q6) x0 x5 x8 x9 x10 x134 h) ?_ ?_
                    · rintro L' h ⟨x0, x5, x8, x9, x10, x134, rfl, H⟩
                      unfold F.spatelaw2_GrownInts.j8 at H
                      refine tr_cond rfl (fun g37 => ?_) (fun g37 => ?_)
                      · replace H := H.1 g37
                        refine tr_seq ?_
                        refine tr_region ?_
                        refine tr_p (y_assign rfl) rfl rfl ?_
                        refine tr_nil ?_
                        refine tr_thenN ?_
                        refine tr_ret ?_
                        refine tr_blockR ?_
                        refine tr_thenR ?_
                        refine tr_thenR ?_
                        refine tr_blockR ?_
                        refine tr_blockR ?_
                        refine tr_thenR ?_
                        refine tr_thenR ?_
                        refine tr_blockR ?_
                        refine tr_thenR ?_
                        exact tr_ret1 rfl rfl ⟨_, rfl, H⟩
                      · replace H := H.2 g37
                        refine tr_skip ?_
                        refine tr_blockN ?_
                        refine tr_thenN ?_
                        exact tr_join [(0, x0.enc), (5, x5.enc), (8, (.int .i64 x8)), (9, (.int .i64 x9)), (10, (.int .i64 x10))] ⟨rfl, rfl, rfl, rfl, rfl, trivial⟩ ⟨_, _, _, _, _, rfl, H⟩
                    · refine tr_region ?_
                      refine tr_p (y_move rfl) rfl rfl ?_
                      refine tr_p (y_move rfl) rfl rfl ?_
                      refine tr_p (y_lss rfl rfl) rfl rfl ?_
                      refine tr_p (y_move rfl) rfl rfl ?_
                      refine tr_split (t := 84) rfl (fun g38 => ?_) (fun g38 => ?_)
                      · replace H := H.1 g38
                        refine tr_p (y_move rfl) rfl rfl ?_
                        refine tr_p (y_move rfl) rfl rfl ?_
                        obtain ⟨a39, e40, H⟩ := H
                        refine tr_p (f_idx (s := x0) Try.runUnderlying25 Try.sizeOf23 rfl rfl e40) rfl rfl ?_
                        obtain ⟨y41, k42, H⟩ := H
                        refine tr_h (y_ld Try.isAgg23 rfl) k42 rfl rfl ?_
                        refine tr_p (y_move rfl) rfl rfl ?_
                        obtain ⟨a43, e44, H⟩ := H
                        refine tr_p (f_idx (s := y41) Try.runUnderlying23 Try.sizeOf3 rfl rfl e44) rfl rfl ?_
                        obtain ⟨y45, k46, H⟩ := H
                        refine tr_h (y_ld Try.isAgg3 rfl) k46 rfl rfl ?_
                        refine tr_p (y_move rfl) rfl rfl ?_
                        refine tr_p (y_mul rfl rfl) rfl rfl ?_
                        refine tr_p (y_move rfl) rfl rfl ?_
                        refine tr_p (y_add rfl rfl) rfl rfl ?_
                        refine tr_p (y_neq rfl rfl) rfl rfl ?_
                        refine tr_p (y_move rfl) rfl rfl ?_
                        refine tr_split (t := 97) rfl (fun g47 => ?_) (fun g47 => ?_)
                        · replace H := H.1 g47
                          refine tr_s rfl rfl ?_
                          refine tr_s rfl rfl ?_
                          refine tr_s rfl rfl ?_
                          refine tr_s rfl rfl ?_
                          refine tr_s rfl rfl ?_
                          refine tr_s rfl rfl ?_
                          refine tr_s rfl rfl ?_
                          refine tr_s rfl rfl ?_
                          refine tr_s rfl rfl ?_
                          refine tr_s rfl rfl ?_
                          refine tr_s rfl rfl ?_
                          refine tr_s rfl rfl ?_
                          refine tr_p (y_pick_t rfl rfl) rfl rfl ?_
                          refine tr_p (y_pick_t rfl rfl) rfl rfl ?_
                          refine tr_p (y_move rfl) rfl rfl ?_
                          refine tr_s rfl rfl ?_
                          refine tr_s rfl rfl ?_
                          refine tr_s rfl rfl ?_
                          refine tr_s rfl rfl ?_
                          refine tr_s rfl rfl ?_
                          refine tr_s rfl rfl ?_
                          refine tr_s rfl rfl ?_
                          refine tr_s rfl rfl ?_
                          refine tr_s rfl rfl ?_
                          refine tr_s rfl rfl ?_
                          refine tr_s rfl rfl ?_
                          refine tr_s rfl rfl ?_
                          refine tr_s rfl rfl ?_
                          refine tr_s rfl rfl ?_
                          refine tr_s rfl rfl ?_
                          refine tr_s rfl rfl ?_
                          refine tr_s rfl rfl ?_
                          refine tr_s rfl rfl ?_
                          refine tr_s rfl rfl ?_
                          refine tr_s rfl rfl ?_
                          refine tr_s rfl rfl ?_
                          refine tr_p (y_pick_t rfl rfl) rfl rfl ?_
                          refine tr_nil ?_
                          refine tr_thenN ?_
                          exact tr_join [(0, x0.enc), (5, x5.enc), (8, (.int .i64 x8)), (9, (.int .i64 x9)), (10, (.int .i64 x10)), (134, (.bool true))] ⟨rfl, rfl, rfl, rfl, rfl, rfl, trivial⟩ ⟨_, _, _, _, _, _, rfl, H⟩
                        · replace H := H.2 g47
                          refine tr_p (y_move rfl) rfl rfl ?_
                          refine tr_p (y_move rfl) rfl rfl ?_
                          obtain ⟨a48, e49, H⟩ := H
                          refine tr_p (f_idx (s := x5) Try.runUnderlying25 Try.sizeOf23 rfl rfl e49) rfl rfl ?_
                          obtain ⟨y50, k51, H⟩ := H
                          refine tr_h (y_ld Try.isAgg23 rfl) k51 rfl rfl ?_
                          refine tr_p (y_move rfl) rfl rfl ?_
                          obtain ⟨a52, e53, H⟩ := H
                          refine tr_p (f_idx (s := y50) Try.runUnderlying23 Try.sizeOf3 rfl rfl e53) rfl rfl ?_
                          obtain ⟨y54, k55, H⟩ := H
                          refine tr_h (y_ld Try.isAgg3 rfl) k55 rfl rfl ?_
                          refine tr_p (y_move rfl) rfl rfl ?_
                          refine tr_p (y_mul rfl rfl) rfl rfl ?_
                          refine tr_p (y_move rfl) rfl rfl ?_
                          refine tr_p (y_add rfl rfl) rfl rfl ?_
                          refine tr_p (y_neq rfl rfl) rfl rfl ?_
                          refine tr_p (y_pick_f rfl rfl) rfl rfl ?_
                          refine tr_p (y_pick_t rfl rfl) rfl rfl ?_
                          refine tr_p (y_move rfl) rfl rfl ?_
                          refine tr_split (t := 112) rfl (fun g56 => ?_) (fun g56 => ?_)
                          · replace H := H.1 g56
                            refine tr_s rfl rfl ?_
                            refine tr_s rfl rfl ?_
                            refine tr_s rfl rfl ?_
                            refine tr_s rfl rfl ?_
                            refine tr_s rfl rfl ?_
                            refine tr_s rfl rfl ?_
                            refine tr_s rfl rfl ?_
                            refine tr_s rfl rfl ?_
                            refine tr_s rfl rfl ?_
                            refine tr_s rfl rfl ?_
                            refine tr_s rfl rfl ?_
                            refine tr_s rfl rfl ?_
                            refine tr_s rfl rfl ?_
                            refine tr_s rfl rfl ?_
                            refine tr_s rfl rfl ?_
                            refine tr_s rfl rfl ?_
                            refine tr_s rfl rfl ?_
                            refine tr_s rfl rfl ?_
                            refine tr_s rfl rfl ?_
                            refine tr_s rfl rfl ?_
                            refine tr_s rfl rfl ?_
                            refine tr_p (y_pick_t rfl rfl) rfl rfl ?_
                            refine tr_nil ?_
                            refine tr_thenN ?_
                            exact tr_join [(0, x0.enc), (5, x5.enc), (8, (.int .i64 x8)), (9, (.int .i64 x9)), (10, (.int .i64 x10)), (134, (.bool true))] ⟨rfl, rfl, rfl, rfl, rfl, rfl, trivial⟩ ⟨_, _, _, _, _, _, rfl, H⟩
                          · replace H := H.2 g56
                            refine tr_p (y_move rfl) rfl rfl ?_
                            refine tr_p (y_move rfl) rfl rfl ?_
                            refine tr_p (y_geq rfl rfl) rfl rfl ?_
                            refine tr_p (y_move rfl) rfl rfl ?_
                            refine tr_split (t := 116) rfl (fun g57 => ?_) (fun g57 => ?_)
                            · replace H := H.1 g57
                              refine tr_p (y_move rfl) rfl rfl ?_
                              refine tr_p (y_move rfl) rfl rfl ?_
                              obtain ⟨a58, e59, H⟩ := H
                              refine tr_p (f_idx (s := x5) Try.runUnderlying25 Try.sizeOf23 rfl rfl e59) rfl rfl ?_
                              obtain ⟨y60, k61, H⟩ := H
                              refine tr_h (y_ld Try.isAgg23 rfl) k61 rfl rfl ?_
                              refine tr_p (y_move rfl) rfl rfl ?_
                              obtain ⟨a62, e63, H⟩ := H
                              refine tr_p (f_idx (s := y60) Try.runUnderlying23 Try.sizeOf3 rfl rfl e63) rfl rfl ?_
                              obtain ⟨y64, k65, H⟩ := H
                              refine tr_h (y_ld Try.isAgg3 rfl) k65 rfl rfl ?_
                              refine tr_p (y_move rfl) rfl rfl ?_
                              refine tr_p (y_mul rfl rfl) rfl rfl ?_
                              refine tr_p (y_sub rfl rfl) rfl rfl ?_
                              refine tr_p (y_move rfl) rfl rfl ?_
                              refine tr_p (y_move rfl) rfl rfl ?_
                              refine tr_p (y_sub rfl rfl) rfl rfl ?_
                              refine tr_p (y_sub rfl rfl) rfl rfl ?_
                              refine tr_p (y_sub rfl rfl) rfl rfl ?_
                              refine tr_p (y_neq rfl rfl) rfl rfl ?_
                              refine tr_p (y_pick_t rfl rfl) rfl rfl ?_
                              refine tr_p (y_pick_f rfl rfl) rfl rfl ?_
                              refine tr_nil ?_
                              refine tr_thenN ?_
                              exact tr_join [(0, x0.enc), (5, x5.enc), (8, (.int .i64 x8)), (9, (.int .i64 x9)), (10, (.int .i64 x10)), (134, (.bool ((y64 != (IntKind.wrap .i64 ((IntKind.wrap .i64 ((IntKind.wrap .i64 (0 - (IntKind.wrap .i64 (1000 * x8)))) - (IntKind.wrap .i64 (x10 - x9)))) - 1))))))] ⟨rfl, rfl, rfl, rfl, rfl, rfl, trivial⟩ ⟨_, _, _, _, _, _, rfl, H⟩
                            · replace H := H.2 g57
                              refine tr_s rfl rfl ?_
                              refine tr_s rfl rfl ?_
                              refine tr_s rfl rfl ?_
                              refine tr_s rfl rfl ?_
                              refine tr_s rfl rfl ?_
                              refine tr_s rfl rfl ?_
                              refine tr_s rfl rfl ?_
                              refine tr_s rfl rfl ?_
                              refine tr_s rfl rfl ?_
                              refine tr_s rfl rfl ?_
                              refine tr_s rfl rfl ?_
                              refine tr_s rfl rfl ?_
                              refine tr_s rfl rfl ?_
                              refine tr_s rfl rfl ?_
                              refine tr_s rfl rfl ?_
                              refine tr_s rfl rfl ?_
                              refine tr_p (y_pick_f rfl rfl) rfl rfl ?_
                              refine tr_p (y_pick_f rfl rfl) rfl rfl ?_
                              refine tr_nil ?_
                              refine tr_thenN ?_
                              exact tr_join [(0, x0.enc), (5, x5.enc), (8, (.int .i64 x8)), (9, (.int .i64 x9)), (10, (.int .i64 x10)), (134, (.bool false))] ⟨rfl, rfl, rfl, rfl, rfl, rfl, trivial⟩ ⟨_, _, _, _, _, _, rfl, H⟩
                      · replace H := H.2 g38
                        refine tr_s rfl rfl ?_
                        refine tr_s rfl rfl ?_
                        refine tr_s rfl rfl ?_
                        refine tr_s rfl rfl ?_
                        refine tr_s rfl rfl ?_
                        refine tr_s rfl rfl ?_
                        refine tr_s rfl rfl ?_
                        refine tr_s rfl rfl ?_
                        refine tr_s rfl rfl ?_
                        refine tr_s rfl rfl ?_
                        refine tr_s rfl rfl ?_
                        refine tr_s rfl rfl ?_
                        refine tr_s rfl rfl ?_
                        refine tr_s rfl rfl ?_
                        refine tr_s rfl rfl ?_
                        refine tr_s rfl rfl ?_
                        refine tr_s rfl rfl ?_
                        refine tr_s rfl rfl ?_
                        refine tr_s rfl rfl ?_
                        refine tr_s rfl rfl ?_
                        refine tr_s rfl rfl ?_
                        refine tr_s rfl rfl ?_
                        refine tr_s rfl rfl ?_
                        refine tr_s rfl rfl ?_
                        refine tr_s rfl rfl ?_
                        refine tr_s rfl rfl ?_
                        refine tr_p (y_pick_f rfl rfl) rfl rfl ?_
                        refine tr_p (y_move rfl) rfl rfl ?_
                        refine tr_p (y_move rfl) rfl rfl ?_
                        refine tr_p (y_move rfl) rfl rfl ?_
                        refine tr_p (y_geq rfl rfl) rfl rfl ?_
                        refine tr_p (y_move rfl) rfl rfl ?_
                        refine tr_split (t := 116) rfl (fun g66 => ?_) (fun g66 => ?_)
                        · replace H := H.1 g66
                          refine tr_p (y_move rfl) rfl rfl ?_
                          refine tr_p (y_move rfl) rfl rfl ?_
                          obtain ⟨a67, e68, H⟩ := H
                          refine tr_p (f_idx (s := x5) Try.runUnderlying25 Try.sizeOf23 rfl rfl e68) rfl rfl ?_
                          obtain ⟨y69, k70, H⟩ := H
                          refine tr_h (y_ld Try.isAgg23 rfl) k70 rfl rfl ?_
                          refine tr_p (y_move rfl) rfl rfl ?_
                          obtain ⟨a71, e72, H⟩ := H
                          refine tr_p (f_idx (s := y69) Try.runUnderlying23 Try.sizeOf3 rfl rfl e72) rfl rfl ?_
                          obtain ⟨y73, k74, H⟩ := H
                          refine tr_h (y_ld Try.isAgg3 rfl) k74 rfl rfl ?_
                          refine tr_p (y_move rfl) rfl rfl ?_
                          refine tr_p (y_mul rfl rfl) rfl rfl ?_
                          refine tr_p (y_sub rfl rfl) rfl rfl ?_
                          refine tr_p (y_move rfl) rfl rfl ?_
                          refine tr_p (y_move rfl) rfl rfl ?_
                          refine tr_p (y_sub rfl rfl) rfl rfl ?_
                          refine tr_p (y_sub rfl rfl) rfl rfl ?_
                          refine tr_p (y_sub rfl rfl) rfl rfl ?_
                          refine tr_p (y_neq rfl rfl) rfl rfl ?_
                          refine tr_p (y_pick_t rfl rfl) rfl rfl ?_
                          refine tr_p (y_pick_f rfl rfl) rfl rfl ?_
                          refine tr_nil ?_
                          refine tr_thenN ?_
                          exact tr_join [(0, x0.enc), (5, x5.enc), (8, (.int .i64 x8)), (9, (.int .i64 x9)), (10, (.int .i64 x10)), (134, (.bool ((y73 != (IntKind.wrap .i64 ((IntKind.wrap .i64 ((IntKind.wrap .i64 (0 - (IntKind.wrap .i64 (1000 * x8)))) - (IntKind.wrap .i64 (x10 - x9)))) - 1))))))] ⟨rfl, rfl, rfl, rfl, rfl, rfl, trivial⟩ ⟨_, _, _, _, _, _, rfl, H⟩
                        · replace H := H.2 g66
                          refine tr_s rfl rfl ?_
                          refine tr_s rfl rfl ?_
                          refine tr_s rfl rfl ?_
                          refine tr_s rfl rfl ?_
                          refine tr_s rfl rfl ?_
                          refine tr_s rfl rfl ?_
                          refine tr_s rfl rfl ?_
                          refine tr_s rfl rfl ?_
                          refine tr_s rfl rfl ?_
                          refine tr_s rfl rfl ?_
                          refine tr_s rfl rfl ?_
                          refine tr_s rfl rfl ?_
                          refine tr_s rfl rfl ?_
                          refine tr_s rfl rfl ?_
                          refine tr_s rfl rfl ?_
                          refine tr_s rfl rfl ?_
                          refine tr_p (y_pick_f rfl rfl) rfl rfl ?_
                          refine tr_p (y_pick_f rfl rfl) rfl rfl ?_
                          refine tr_nil ?_
                          refine tr_thenN ?_
                          exact tr_join [(0, x0.enc), (5, x5.enc), (8, (.int .i64 x8)), (9, (.int .i64 x9)), (10, (.int .i64 x10)), (134, (.bool false))] ⟨rfl, rfl, rfl, rfl, rfl, rfl, trivial⟩ ⟨_, _, _, _, _, _, rfl, H⟩
                · replace H := H.2 g36
                  refine tr_exit ?_
                  refine tr_thenE ?_
                  refine tr_thenE ?_
                  refine tr_hit ?_
                  refine tr_blockN ?_
                  refine tr_thenN ?_
                  refine tr_region ?_
                  refine tr_p (y_move rfl) rfl rfl ?_
                  refine tr_p (y_add rfl rfl) rfl rfl ?_
                  refine tr_p (y_assign rfl) rfl rfl ?_
                  refine tr_nil ?_
                  refine tr_thenN ?_
                  exact tr_join [(0, x0.enc), (5, x5.enc), (8, (.int .i64 (IntKind.wrap .i64 (x8 + 1))))] ⟨rfl, rfl, rfl, trivial⟩ ⟨_, _, _, rfl, H⟩
            · replace H := H.2 g31
              refine tr_exit ?_
              refine tr_thenE ?_
              refine tr_thenE ?_
              refine tr_hit ?_
              refine tr_thenN ?_
              refine tr_seq ?_
              refine tr_region ?_
              refine tr_p (y_assign rfl) rfl rfl ?_
              refine tr_nil ?_
              refine tr_thenN ?_
              refine tr_ret ?_
              exact tr_ret1 rfl rfl ⟨_, rfl, H⟩
def F.spatelaw8_MergeBook.j2 (Q : Bool → H → Prop) (C1 : Int → Sl → Sl → Sl → Sl → Sl → Sl → Sl → Sl → Sl → Sl → Int → H → Prop) (x0 : Int) (x11 : Sl) (x12 : Sl) (x13 : Sl) (x14 : Sl) (x15 : Sl) (x16 : Sl) (x17 : Sl) (x18 : Sl) (x19 : Sl) (x20 : Sl) (x21 : Int) (h : H) : Prop :=
  C1 x0 x11 x12 x13 x14 x15 x16 x17 x18 x19 x20 (IntKind.wrap .i64 (x21 + 1)) h
def F.spatelaw8_MergeBook.j4 (Q : Bool → H → Prop) (C1 : Int → Sl → Sl → Sl → Sl → Sl → Sl → Sl → Sl → Sl → Sl → Int → H → Prop) (C2 : Int → Sl → Sl → Sl → Sl → Sl → Sl → Sl → Sl → Sl → Sl → Int → Sl → Sl → Int → H → Prop) (x0 : Int) (x11 : Sl) (x12 : Sl) (x13 : Sl) (x14 : Sl) (x15 : Sl) (x16 : Sl) (x17 : Sl) (x18 : Sl) (x19 : Sl) (x20 : Sl) (x21 : Int) (x22 : Sl) (x23 : Sl) (x24 : Int) (h : H) : Prop :=
  C2 x0 x11 x12 x13 x14 x15 x16 x17 x18 x19 x20 x21 x22 x23 (IntKind.wrap .i64 (x24 + 1)) h
def F.spatelaw8_MergeBook.j5 (Q : Bool → H → Prop) (C1 : Int → Sl → Sl → Sl → Sl → Sl → Sl → Sl → Sl → Sl → Sl → Int → H → Prop) (C2 : Int → Sl → Sl → Sl → Sl → Sl → Sl → Sl → Sl → Sl → Sl → Int → Sl → Sl → Int → H → Prop) (x0 : Int) (x11 : Sl) (x12 : Sl) (x13 : Sl) (x14 : Sl) (x15 : Sl) (x16 : Sl) (x17 : Sl) (x18 : Sl) (x19 : Sl) (x20 : Sl) (x21 : Int) (x22 : Sl) (x23 : Sl) (x24 : Int) (x155 : Bool) (h : H) : Prop :=
  (x155 = true →
  Q false h) ∧
  (x155 = false →
  F.spatelaw8_MergeBook.j4 Q C1 C2 x0 x11 x12 x13 x14 x15 x16 x17 x18 x19 x20 x21 x22 x23 x24 h)
def F.spatelaw8_MergeBook.j6 (Q : Bool → H → Prop) (C1 : Int → Sl → Sl → Sl → Sl → Sl → Sl → Sl → Sl → Sl → Sl → Int → H → Prop) (x0 : Int) (x11 : Sl) (x12 : Sl) (x13 : Sl) (x14 : Sl) (x15 : Sl) (x16 : Sl) (x17 : Sl) (x18 : Sl) (x19 : Sl) (x20 : Sl) (x21 : Int) (x175 : Bool) (h : H) : Prop :=
  (x175 = true →
  Q false h) ∧
  (x175 = false →
  F.spatelaw8_MergeBook.j2 Q C1 x0 x11 x12 x13 x14 x15 x16 x17 x18 x19 x20 x21 h)
def F.spatelaw8_MergeBook.l3 (Q : Bool → H → Prop) (C1 : Int → Sl → Sl → Sl → Sl → Sl → Sl → Sl → Sl → Sl → Sl → Int → H → Prop) : Nat → Int → Sl → Sl → Sl → Sl → Sl → Sl → Sl → Sl → Sl → Sl → Int → Sl → Sl → Int → H → Prop
  | 0, _, _, _, _, _, _, _, _, _, _, _, _, _, _, _, _ => False
  | q3 + 1, x0, x11, x12, x13, x14, x15, x16, x17, x18, x19, x20, x21, x22, x23, x24, h =>
    ((decide (x24 < 3)) = true →
    newL h #[x19.enc, x12.enc] ty_51 2 fun s39 h38 =>
    F.merge_Rows x0 s39 h38 fun r41 h40 =>
    newL h40 #[x19.enc] ty_51 1 fun s43 h42 =>
    F.merge_Rows x0 s43 h42 fun r45 h44 =>
    newL h44 #[(⟨none, 0, 0⟩ : Sl).enc, x19.enc] ty_51 2 fun s47 h46 =>
    F.merge_Rows x0 s47 h46 fun r49 h48 =>
    newL h48 #[r41.enc, r45.enc, r49.enc] ty_51 3 fun s51 h50 =>
    runL PP (Builtin.append_ #[53, 53] 53 #[x22.enc, s51.enc]) h50 fun s53 h52 =>
    newL h52 #[x20.enc, x14.enc] ty_23 2 fun s55 h54 =>
    F.merge_Lists_int s55 h54 fun r57 h56 =>
    newL h56 #[x20.enc] ty_23 1 fun s59 h58 =>
    F.merge_Lists_int s59 h58 fun r61 h60 =>
    newL h60 #[(⟨none, 0, 0⟩ : Sl).enc, x20.enc] ty_23 2 fun s63 h62 =>
    F.merge_Lists_int s63 h62 fun r65 h64 =>
    newL h64 #[r57.enc, r61.enc, r65.enc] ty_23 3 fun s67 h66 =>
    runL PP (Builtin.append_ #[25, 25] 25 #[x23.enc, s67.enc]) h66 fun s69 h68 =>
    idxA s53 (IntKind.wrap .i64 (3 * x24)) 1 fun a71 =>
    ldL h68 a71 fun y73 =>
    F.spatelaw2_SameRows y73 x15 h68 fun r76 h75 =>
    ((!r76) = true →
    F.spatelaw8_MergeBook.j5 Q C1 (F.spatelaw8_MergeBook.l3 Q C1 q3) x0 x11 x12 x13 x14 x15 x16 x17 x18 x19 x20 x21 s53 s69 x24 true h75) ∧
    ((!r76) = false →
    idxA s53 (IntKind.wrap .i64 ((IntKind.wrap .i64 (3 * x24)) + 1)) 1 fun a78 =>
    ldL h75 a78 fun y80 =>
    F.spatelaw2_SameRows y80 x16 h75 fun r83 h82 =>
    ((!r83) = true →
    F.spatelaw8_MergeBook.j5 Q C1 (F.spatelaw8_MergeBook.l3 Q C1 q3) x0 x11 x12 x13 x14 x15 x16 x17 x18 x19 x20 x21 s53 s69 x24 true h82) ∧
    ((!r83) = false →
    idxA s53 (IntKind.wrap .i64 ((IntKind.wrap .i64 (3 * x24)) + 2)) 1 fun a85 =>
    ldL h82 a85 fun y87 =>
    F.spatelaw2_SameRows y87 x16 h82 fun r90 h89 =>
    ((!r90) = true →
    F.spatelaw8_MergeBook.j5 Q C1 (F.spatelaw8_MergeBook.l3 Q C1 q3) x0 x11 x12 x13 x14 x15 x16 x17 x18 x19 x20 x21 s53 s69 x24 true h89) ∧
    ((!r90) = false →
    idxA s69 (IntKind.wrap .i64 (3 * x24)) 1 fun a92 =>
    ldL h89 a92 fun y94 =>
    F.spatelaw8_same y94 x17 h89 fun r97 h96 =>
    ((!r97) = true →
    F.spatelaw8_MergeBook.j5 Q C1 (F.spatelaw8_MergeBook.l3 Q C1 q3) x0 x11 x12 x13 x14 x15 x16 x17 x18 x19 x20 x21 s53 s69 x24 true h96) ∧
    ((!r97) = false →
    idxA s69 (IntKind.wrap .i64 ((IntKind.wrap .i64 (3 * x24)) + 1)) 1 fun a99 =>
    ldL h96 a99 fun y101 =>
    F.spatelaw8_same y101 x18 h96 fun r104 h103 =>
    ((!r104) = true →
    F.spatelaw8_MergeBook.j5 Q C1 (F.spatelaw8_MergeBook.l3 Q C1 q3) x0 x11 x12 x13 x14 x15 x16 x17 x18 x19 x20 x21 s53 s69 x24 true h103) ∧
    ((!r104) = false →
    idxA s69 (IntKind.wrap .i64 ((IntKind.wrap .i64 (3 * x24)) + 2)) 1 fun a106 =>
    ldL h103 a106 fun y108 =>
    F.spatelaw8_same y108 x18 h103 fun r111 h110 =>
    F.spatelaw8_MergeBook.j5 Q C1 (F.spatelaw8_MergeBook.l3 Q C1 q3) x0 x11 x12 x13 x14 x15 x16 x17 x18 x19 x20 x21 s53 s69 x24 (!r111) h110)))))) ∧
    ((decide (x24 < 3)) = false →
    F.spatelaw2_GrownRows x22 h fun r114 h113 =>
    ((!r114) = true →
    F.spatelaw8_MergeBook.j6 Q C1 x0 x11 x12 x13 x14 x15 x16 x17 x18 x19 x20 x21 true h113) ∧
    ((!r114) = false →
    F.spatelaw2_GrownInts x23 h113 fun r117 h116 =>
    ((!r117) = true →
    F.spatelaw8_MergeBook.j6 Q C1 x0 x11 x12 x13 x14 x15 x16 x17 x18 x19 x20 x21 true h116) ∧
    ((!r117) = false →
    F.spatelaw2_SameRows x19 x11 h116 fun r120 h119 =>
    ((!r120) = true →
    F.spatelaw8_MergeBook.j6 Q C1 x0 x11 x12 x13 x14 x15 x16 x17 x18 x19 x20 x21 true h119) ∧
    ((!r120) = false →
    F.spatelaw8_same x20 x13 h119 fun r123 h122 =>
    F.spatelaw8_MergeBook.j6 Q C1 x0 x11 x12 x13 x14 x15 x16 x17 x18 x19 x20 x21 (!r123) h122))))
def F.spatelaw8_MergeBook.j8 (Q : Bool → H → Prop) (x0 : Int) (x12 : Sl) (x14 : Sl) (x19 : Sl) (x20 : Sl) (h : H) : Prop :=
  newL h #[x19.enc, x12.enc] ty_51 2 fun s126 h125 =>
  F.merge_Rows x0 s126 h125 fun r128 h127 =>
  newL h127 #[x19.enc, x12.enc] ty_51 2 fun s130 h129 =>
  F.spateref8_Rows x0 s130 h129 fun r132 h131 =>
  F.spatelaw2_SameRows r128 r132 h131 fun r134 h133 =>
  (r134 = true →
  newL h133 #[x20.enc, x14.enc] ty_23 2 fun s137 h136 =>
  F.merge_Lists_int s137 h136 fun r139 h138 =>
  newL h138 #[x20.enc, x14.enc] ty_23 2 fun s141 h140 =>
  F.spateref8_Lists s141 h140 fun r143 h142 =>
  F.spatelaw8_same r139 r143 h142 fun r145 h144 =>
  Q r145 h144) ∧
  (r134 = false →
  Q false h133)
def F.spatelaw8_MergeBook.j9 (Q : Bool → H → Prop) (x0 : Int) (x12 : Sl) (x14 : Sl) (x19 : Sl) (x20 : Sl) (x191 : Bool) (h : H) : Prop :=
  (x191 = true →
  idxA x20 0 1 fun a147 =>
  ldI .i64 h a147 fun y149 =>
  idxA x20 0 1 fun a151 =>
  stH h a151 [(.int .i64 (IntKind.wrap .i64 (y149 - 1)))] fun h153 =>
  F.spatelaw8_MergeBook.j8 Q x0 x12 x14 x19 x20 h153) ∧
  (x191 = false →
  F.spatelaw8_MergeBook.j8 Q x0 x12 x14 x19 x20 h)
def F.spatelaw8_MergeBook.j7 (Q : Bool → H → Prop) (x0 : Int) (x12 : Sl) (x14 : Sl) (x19 : Sl) (x20 : Sl) (h : H) : Prop :=
  ((decide ((x20.len : Int) > 0)) = true →
  idxA x20 0 1 fun a155 =>
  ldI .i64 h a155 fun y157 =>
  F.spatelaw8_MergeBook.j9 Q x0 x12 x14 x19 x20 (decide (y157 > (-4611686018427387904))) h) ∧
  ((decide ((x20.len : Int) > 0)) = false →
  F.spatelaw8_MergeBook.j9 Q x0 x12 x14 x19 x20 false h)
def F.spatelaw8_MergeBook.l1 (Q : Bool → H → Prop) : Nat → Int → Sl → Sl → Sl → Sl → Sl → Sl → Sl → Sl → Sl → Sl → Int → H → Prop
  | 0, _, _, _, _, _, _, _, _, _, _, _, _, _ => False
  | q1 + 1, x0, x11, x12, x13, x14, x15, x16, x17, x18, x19, x20, x21, h =>
    ((decide (x21 < 2)) = true →
    ∃ m, F.spatelaw8_MergeBook.l3 Q (F.spatelaw8_MergeBook.l1 Q q1) m x0 x11 x12 x13 x14 x15 x16 x17 x18 x19 x20 x21 (⟨none, 0, 0⟩ : Sl) (⟨none, 0, 0⟩ : Sl) 0 h) ∧
    ((decide (x21 < 2)) = false →
    ((decide ((x19.len : Int) > 0)) = true →
    idxA x19 0 7 fun a160 =>
    stH h (a160.add 3) ((⟨77, 7, 7, 7⟩ : S_api_Agg).cells) fun h162 =>
    F.spatelaw8_MergeBook.j7 Q x0 x12 x14 x19 x20 h162) ∧
    ((decide ((x19.len : Int) > 0)) = false →
    F.spatelaw8_MergeBook.j7 Q x0 x12 x14 x19 x20 h))
/-- spate/spatelaw8.MergeBook -/
def F.spatelaw8_MergeBook (p0 : Int) (p1 : Sl) (p2 : Sl) (p3 : Sl) (p4 : Sl) (h : H) (Q : Bool → H → Prop) : Prop :=
  F.spatelaw8_known  h fun r2 h1 =>
  ((!r2) = true →
  Q false h1) ∧
  ((!r2) = false →
  F.spatelaw8_ordered p1 h1 fun r5 h4 =>
  F.spatelaw8_ordered p2 h4 fun r7 h6 =>
  F.spatelaw8_rising p3 h6 fun r9 h8 =>
  F.spatelaw8_rising p4 h8 fun r11 h10 =>
  newL h10 #[r5.enc, r7.enc] ty_51 2 fun s13 h12 =>
  F.spateref8_Rows p0 s13 h12 fun r15 h14 =>
  newL h14 #[r5.enc] ty_51 1 fun s17 h16 =>
  F.spateref8_Rows p0 s17 h16 fun r19 h18 =>
  newL h18 #[r9.enc, r11.enc] ty_23 2 fun s21 h20 =>
  F.spateref8_Lists s21 h20 fun r23 h22 =>
  newL h22 #[r9.enc] ty_23 1 fun s25 h24 =>
  F.spateref8_Lists s25 h24 fun r27 h26 =>
  newL h26 (([]).toArray) ty_66 0 fun s29 h28 =>
  runL PP (Builtin.append_ #[51, 51] 51 #[s29.enc, r5.enc]) h28 fun s31 h30 =>
  newL h30 #[] ty_3 0 fun s33 h32 =>
  runL PP (Builtin.append_ #[23, 23] 23 #[s33.enc, r9.enc]) h32 fun s35 h34 =>
  ∃ m, F.spatelaw8_MergeBook.l1 Q m p0 r5 r7 r9 r11 r15 r19 r23 r27 s31 s35 0 h34)
theorem F.spatelaw8_MergeBook_ok {p0 : Int} {p1 : Sl} {p2 : Sl} {p3 : Sl} {p4 : Sl} {h : H} {Q : Bool → H → Prop} (H : F.spatelaw8_MergeBook p0 p1 p2 p3 p4 h Q) : Fn PP 14 ([(.int .i64 p0), p1.enc, p2.enc, p3.enc, p4.enc] : List Value).toArray h fun r h' => ∃ r0, r = (.bool r0) ∧ Q r0 h' := by
  unfold F.spatelaw8_MergeBook at H
  refine fn_of Try.func14 Try.ntmps14 rfl rfl fun w0 => ?_
  refine tr_sub [(0, (.int .i64 p0)), (1, p1.enc), (2, p2.enc), (3, p3.enc), (4, p4.enc)] ⟨rfl, rfl, rfl, rfl, rfl, trivial⟩ ?_
  refine tr_seq ?_
  refine tr_region ?_
  refine tr_p (y_assign rfl) rfl rfl ?_
  refine tr_nil ?_
  refine tr_thenN ?_
  refine tr_seq ?_
  refine tr_seq ?_
  refine tr_region ?_
  refine tr_e (e_call Try.call15 rfl (F.spatelaw8_known_ok H)) rfl rfl ?_
  rintro _ h1 ⟨r2, rfl, H⟩
  refine tr_p (y_not rfl) rfl rfl ?_
  refine tr_nil ?_
  refine tr_thenN ?_
  refine tr_cond rfl (fun g3 => ?_) (fun g3 => ?_)
  · replace H := H.1 g3
    refine tr_seq ?_
    refine tr_region ?_
    refine tr_p (y_assign rfl) rfl rfl ?_
    refine tr_nil ?_
    refine tr_thenN ?_
    refine tr_ret ?_
    refine tr_thenR ?_
    exact tr_ret1 rfl rfl ⟨_, rfl, H⟩
  · replace H := H.2 g3
    refine tr_skip ?_
    refine tr_thenN ?_
    refine tr_seq ?_
    refine tr_region ?_
    refine tr_p (y_move rfl) rfl rfl ?_
    refine tr_e (e_call Try.call29 rfl (F.spatelaw8_ordered_ok H)) rfl rfl ?_
    rintro _ h4 ⟨r5, rfl, H⟩
    refine tr_p (y_assign rfl) rfl rfl ?_
    refine tr_nil ?_
    refine tr_thenN ?_
    refine tr_seq ?_
    refine tr_region ?_
    refine tr_p (y_move rfl) rfl rfl ?_
    refine tr_e (e_call Try.call29 rfl (F.spatelaw8_ordered_ok H)) rfl rfl ?_
    rintro _ h6 ⟨r7, rfl, H⟩
    refine tr_p (y_assign rfl) rfl rfl ?_
    refine tr_nil ?_
    refine tr_thenN ?_
    refine tr_seq ?_
    refine tr_region ?_
    refine tr_p (y_move rfl) rfl rfl ?_
    refine tr_e (e_call Try.call16 rfl (F.spatelaw8_rising_ok H)) rfl rfl ?_
    rintro _ h8 ⟨r9, rfl, H⟩
    refine tr_p (y_assign rfl) rfl rfl ?_
    refine tr_nil ?_
    refine tr_thenN ?_
    refine tr_seq ?_
    refine tr_region ?_
    refine tr_p (y_move rfl) rfl rfl ?_
    refine tr_e (e_call Try.call16 rfl (F.spatelaw8_rising_ok H)) rfl rfl ?_
    rintro _ h10 ⟨r11, rfl, H⟩
    refine tr_p (y_assign rfl) rfl rfl ?_
    refine tr_nil ?_
    refine tr_thenN ?_
    refine tr_seq ?_
    refine tr_region ?_
    refine tr_p (y_move rfl) rfl rfl ?_
    refine tr_p (y_move rfl) rfl rfl ?_
    refine tr_p (y_move rfl) rfl rfl ?_
    refine tr_e (f_buildL (cs := #[r5.enc, r7.enc]) rfl rfl (bl_53_2_0_1 r5 r7) H) rfl rfl ?_
    rintro _ h12 ⟨s13, rfl, H⟩
    refine tr_e (e_call Try.call33 rfl (F.spateref8_Rows_ok H)) rfl rfl ?_
    rintro _ h14 ⟨r15, rfl, H⟩
    refine tr_p (y_assign rfl) rfl rfl ?_
    refine tr_nil ?_
    refine tr_thenN ?_
    refine tr_seq ?_
    refine tr_region ?_
    refine tr_p (y_move rfl) rfl rfl ?_
    refine tr_p (y_move rfl) rfl rfl ?_
    refine tr_e (f_buildL (cs := #[r5.enc]) rfl rfl (bl_53_1_0 r5) H) rfl rfl ?_
    rintro _ h16 ⟨s17, rfl, H⟩
    refine tr_e (e_call Try.call33 rfl (F.spateref8_Rows_ok H)) rfl rfl ?_
    rintro _ h18 ⟨r19, rfl, H⟩
    refine tr_p (y_assign rfl) rfl rfl ?_
    refine tr_nil ?_
    refine tr_thenN ?_
    refine tr_seq ?_
    refine tr_region ?_
    refine tr_p (y_move rfl) rfl rfl ?_
    refine tr_p (y_move rfl) rfl rfl ?_
    refine tr_e (f_buildL (cs := #[r9.enc, r11.enc]) rfl rfl (bl_25_2_0_1 r9 r11) H) rfl rfl ?_
    rintro _ h20 ⟨s21, rfl, H⟩
    refine tr_e (e_call Try.call17 rfl (F.spateref8_Lists_ok H)) rfl rfl ?_
    rintro _ h22 ⟨r23, rfl, H⟩
    refine tr_p (y_assign rfl) rfl rfl ?_
    refine tr_nil ?_
    refine tr_thenN ?_
    refine tr_seq ?_
    refine tr_region ?_
    refine tr_p (y_move rfl) rfl rfl ?_
    refine tr_e (f_buildL (cs := #[r9.enc]) rfl rfl (bl_25_1_0 r9) H) rfl rfl ?_
    rintro _ h24 ⟨s25, rfl, H⟩
    refine tr_e (e_call Try.call17 rfl (F.spateref8_Lists_ok H)) rfl rfl ?_
    rintro _ h26 ⟨r27, rfl, H⟩
    refine tr_p (y_assign rfl) rfl rfl ?_
    refine tr_nil ?_
    refine tr_thenN ?_
    refine tr_seq ?_
    refine tr_region ?_
    refine tr_e (f_buildL (cs := ([]).toArray) rfl rfl (bl_51_0_) H) rfl rfl ?_
    rintro _ h28 ⟨s29, rfl, H⟩
    refine tr_p (y_move rfl) rfl rfl ?_
    refine tr_e (f_app rfl H) rfl rfl ?_
    rintro _ h30 ⟨s31, rfl, H⟩
    refine tr_p (y_assign rfl) rfl rfl ?_
    refine tr_nil ?_
    refine tr_thenN ?_
    refine tr_seq ?_
    refine tr_region ?_
    refine tr_e (f_buildL (cs := #[]) rfl rfl (bl_23_0_) H) rfl rfl ?_
    rintro _ h32 ⟨s33, rfl, H⟩
    refine tr_p (y_move rfl) rfl rfl ?_
    refine tr_e (f_app rfl H) rfl rfl ?_
    rintro _ h34 ⟨s35, rfl, H⟩
    refine tr_p (y_assign rfl) rfl rfl ?_
    refine tr_nil ?_
    refine tr_thenN ?_
    refine tr_seq ?_
    refine tr_seq ?_
    refine tr_region ?_
    refine tr_p (y_assign rfl) rfl rfl ?_
    refine tr_nil ?_
    refine tr_thenN ?_
    refine tr_block ?_
    obtain ⟨m163, H⟩ := H
    refine tr_sub [(0, (.int .i64 p0)), (11, r5.enc), (12, r7.enc), (13, r9.enc), (14, r11.enc), (15, r15.enc), (16, r19.enc), (17, r23.enc), (18, r27.enc), (19, s31.enc), (20, s35.enc), (21, (.int .i64 0))] ⟨rfl, rfl, rfl, rfl, rfl, rfl, rfl, rfl, rfl, rfl, rfl, rfl, trivial⟩ ?_
    refine tr_loop_j (fun m L' h => ∃ (x0 : Int) (x11 : Sl) (x12 : Sl) (x13 : Sl) (x14 : Sl) (x15 : Sl) (x16 : Sl) (x17 : Sl) (x18 : Sl) (x19 : Sl) (x20 : Sl) (x21 : Int), L' = [(0, (.int .i64 x0)), (11, x11.enc), (12, x12.enc), (13, x13.enc), (14, x14.enc), (15, x15.enc), (16, x16.enc), (17, x17.enc), (18, x18.enc), (19, x19.enc), (20, x20.enc), (21, (.int .i64 x21))] ∧ F.spatelaw8_MergeBook.l1 Q m x0 x11 x12 x13 x14 x15 x16 x17 x18 x19 x20 x21 h) ?_ ?_ m163 ⟨_, _, _, _, _, _, _, _, _, _, _, _, rfl, H⟩
    · rintro L' h ⟨_, _, _, _, _, _, _, _, _, _, _, _, _, H⟩; exact H
    · rintro q1 L' h ⟨x0, x11, x12, x13, x14, x15, x16, x17, x18, x19, x20, x21, rfl, H⟩
      unfold F.spatelaw8_MergeBook.l1 at H
      refine tr_seq ?_
      refine tr_seq ?_
      refine tr_region ?_
      refine tr_p (y_move rfl) rfl rfl ?_
      refine tr_p (y_lss rfl rfl) rfl rfl ?_
      refine tr_nil ?_
      refine tr_thenN ?_
      refine tr_cond rfl (fun g36 => ?_) (fun g36 => ?_)
      · replace H := H.1 g36
        refine tr_skip ?_
        refine tr_thenN ?_
        refine tr_seq_j (fun L' h => ∃ (x0 : Int) (x11 : Sl) (x12 : Sl) (x13 : Sl) (x14 : Sl) (x15 : Sl) (x16 : Sl) (x17 : Sl) (x18 : Sl) (x19 : Sl) (x20 : Sl) (x21 : Int), L' = [(0, (.int .i64 x0)), (11, x11.enc), (12, x12.enc), (13, x13.enc), (14, x14.enc), (15, x15.enc), (16, x16.enc), (17, x17.enc), (18, x18.enc), (19, x19.enc), (20, x20.enc), (21, (.int .i64 x21))] ∧ F.spatelaw8_MergeBook.j2 Q (F.spatelaw8_MergeBook.l1 Q q1) x0 x11 x12 x13 x14 x15 x16 x17 x18 x19 x20 x21 h) ?_ ?_
        · rintro L' h ⟨x0, x11, x12, x13, x14, x15, x16, x17, x18, x19, x20, x21, rfl, H⟩
          unfold F.spatelaw8_MergeBook.j2 at H
          refine tr_region ?_
          refine tr_p (y_move rfl) rfl rfl ?_
          refine tr_p (y_add rfl rfl) rfl rfl ?_
          refine tr_p (y_assign rfl) rfl rfl ?_
          refine tr_nil ?_
          refine tr_thenN ?_
          exact tr_join [(0, (.int .i64 x0)), (11, x11.enc), (12, x12.enc), (13, x13.enc), (14, x14.enc), (15, x15.enc), (16, x16.enc), (17, x17.enc), (18, x18.enc), (19, x19.enc), (20, x20.enc), (21, (.int .i64 (IntKind.wrap .i64 (x21 + 1))))] ⟨rfl, rfl, rfl, rfl, rfl, rfl, rfl, rfl, rfl, rfl, rfl, rfl, trivial⟩ ⟨_, _, _, _, _, _, _, _, _, _, _, _, rfl, H⟩
        · refine tr_block ?_
          refine tr_seq ?_
          refine tr_region ?_
          refine tr_p (y_assign rfl) rfl rfl ?_
          refine tr_nil ?_
          refine tr_thenN ?_
          refine tr_seq ?_
          refine tr_region ?_
          refine tr_p (y_assign rfl) rfl rfl ?_
          refine tr_nil ?_
          refine tr_thenN ?_
          refine tr_seq ?_
          refine tr_seq ?_
          refine tr_region ?_
          refine tr_p (y_assign rfl) rfl rfl ?_
          refine tr_nil ?_
          refine tr_thenN ?_
          refine tr_block ?_
          obtain ⟨m124, H⟩ := H
          refine tr_sub [(0, (.int .i64 x0)), (11, x11.enc), (12, x12.enc), (13, x13.enc), (14, x14.enc), (15, x15.enc), (16, x16.enc), (17, x17.enc), (18, x18.enc), (19, x19.enc), (20, x20.enc), (21, (.int .i64 x21)), (22, (⟨none, 0, 0⟩ : Sl).enc), (23, (⟨none, 0, 0⟩ : Sl).enc), (24, (.int .i64 0))] ⟨rfl, rfl, rfl, rfl, rfl, rfl, rfl, rfl, rfl, rfl, rfl, rfl, rfl, rfl, rfl, trivial⟩ ?_
          refine tr_loop_j (fun m L' h => ∃ (x0 : Int) (x11 : Sl) (x12 : Sl) (x13 : Sl) (x14 : Sl) (x15 : Sl) (x16 : Sl) (x17 : Sl) (x18 : Sl) (x19 : Sl) (x20 : Sl) (x21 : Int) (x22 : Sl) (x23 : Sl) (x24 : Int), L' = [(0, (.int .i64 x0)), (11, x11.enc), (12, x12.enc), (13, x13.enc), (14, x14.enc), (15, x15.enc), (16, x16.enc), (17, x17.enc), (18, x18.enc), (19, x19.enc), (20, x20.enc), (21, (.int .i64 x21)), (22, x22.enc), (23, x23.enc), (24, (.int .i64 x24))] ∧ F.spatelaw8_MergeBook.l3 Q (F.spatelaw8_MergeBook.l1 Q q1) m x0 x11 x12 x13 x14 x15 x16 x17 x18 x19 x20 x21 x22 x23 x24 h) ?_ ?_ m124 ⟨_, _, _, _, _, _, _, _, _, _, _, _, _, _, _, rfl, H⟩
          · rintro L' h ⟨_, _, _, _, _, _, _, _, _, _, _, _, _, _, _, _, H⟩; exact H
          · rintro q3 L' h ⟨x0, x11, x12, x13, x14, x15, x16, x17, x18, x19, x20, x21, x22, x23, x24, rfl, H⟩
            unfold F.spatelaw8_MergeBook.l3 at H
            refine tr_seq ?_
            refine tr_seq ?_
            refine tr_region ?_
            refine tr_p (y_move rfl) rfl rfl ?_
            refine tr_p (y_lss rfl rfl) rfl rfl ?_
            refine tr_nil ?_
            refine tr_thenN ?_
            refine tr_cond rfl (fun g37 => ?_) (fun g37 => ?_)
            · replace H := H.1 g37
              refine tr_skip ?_
              refine tr_thenN ?_
              refine tr_seq_j (fun L' h => ∃ (x0 : Int) (x11 : Sl) (x12 : Sl) (x13 : Sl) (x14 : Sl) (x15 : Sl) (x16 : Sl) (x17 : Sl) (x18 : Sl) (x19 : Sl) (x20 : Sl) (x21 : Int) (x22 : Sl) (x23 : Sl) (x24 : Int), L' = [(0, (.int .i64 x0)), (11, x11.enc), (12, x12.enc), (13, x13.enc), (14, x14.enc), (15, x15.enc), (16, x16.enc), (17, x17.enc), (18, x18.enc), (19, x19.enc), (20, x20.enc), (21, (.int .i64 x21)), (22, x22.enc), (23, x23.enc), (24, (.int .i64 x24))] ∧ F.spatelaw8_MergeBook.j4 Q (F.spatelaw8_MergeBook.l1 Q q1) (F.spatelaw8_MergeBook.l3 Q (F.spatelaw8_MergeBook.l1 Q q1) q3) x0 x11 x12 x13 x14 x15 x16 x17 x18 x19 x20 x21 x22 x23 x24 h) ?_ ?_
              · rintro L' h ⟨x0, x11, x12, x13, x14, x15, x16, x17, x18, x19, x20, x21, x22, x23, x24, rfl, H⟩
                unfold F.spatelaw8_MergeBook.j4 at H
                refine tr_region ?_
                refine tr_p (y_move rfl) rfl rfl ?_
                refine tr_p (y_add rfl rfl) rfl rfl ?_
                refine tr_p (y_assign rfl) rfl rfl ?_
                refine tr_nil ?_
                refine tr_thenN ?_
                exact tr_join [(0, (.int .i64 x0)), (11, x11.enc), (12, x12.enc), (13, x13.enc), (14, x14.enc), (15, x15.enc), (16, x16.enc), (17, x17.enc), (18, x18.enc), (19, x19.enc), (20, x20.enc), (21, (.int .i64 x21)), (22, x22.enc), (23, x23.enc), (24, (.int .i64 (IntKind.wrap .i64 (x24 + 1))))] ⟨rfl, rfl, rfl, rfl, rfl, rfl, rfl, rfl, rfl, rfl, rfl, rfl, rfl, rfl, rfl, trivial⟩ ⟨_, _, _, _, _, _, _, _, _, _, _, _, _, _, _, rfl, H⟩
              · refine tr_block ?_
                refine tr_seq ?_
                refine tr_region ?_
                refine tr_p (y_move rfl) rfl rfl ?_
                refine tr_p (y_move rfl) rfl rfl ?_
                refine tr_p (y_move rfl) rfl rfl ?_
                refine tr_p (y_move rfl) rfl rfl ?_
                refine tr_e (f_buildL (cs := #[x19.enc, x12.enc]) rfl rfl (bl_53_2_0_1 x19 x12) H) rfl rfl ?_
                rintro _ h38 ⟨s39, rfl, H⟩
                refine tr_e (e_call Try.call31 rfl (F.merge_Rows_ok H)) rfl rfl ?_
                rintro _ h40 ⟨r41, rfl, H⟩
                refine tr_p (y_move rfl) rfl rfl ?_
                refine tr_p (y_move rfl) rfl rfl ?_
                refine tr_e (f_buildL (cs := #[x19.enc]) rfl rfl (bl_53_1_0 x19) H) rfl rfl ?_
                rintro _ h42 ⟨s43, rfl, H⟩
                refine tr_e (e_call Try.call31 rfl (F.merge_Rows_ok H)) rfl rfl ?_
                rintro _ h44 ⟨r45, rfl, H⟩
                refine tr_p (y_move rfl) rfl rfl ?_
                refine tr_p (y_move rfl) rfl rfl ?_
                refine tr_e (f_buildL (cs := #[(⟨none, 0, 0⟩ : Sl).enc, x19.enc]) rfl rfl (bl_53_2_0_1 (⟨none, 0, 0⟩ : Sl) x19) H) rfl rfl ?_
                rintro _ h46 ⟨s47, rfl, H⟩
                refine tr_e (e_call Try.call31 rfl (F.merge_Rows_ok H)) rfl rfl ?_
                rintro _ h48 ⟨r49, rfl, H⟩
                refine tr_e (f_buildL (cs := #[r41.enc, r45.enc, r49.enc]) rfl rfl (bl_53_3_0_1_2 r41 r45 r49) H) rfl rfl ?_
                rintro _ h50 ⟨s51, rfl, H⟩
                refine tr_e (f_app rfl H) rfl rfl ?_
                rintro _ h52 ⟨s53, rfl, H⟩
                refine tr_p (y_assign rfl) rfl rfl ?_
                refine tr_nil ?_
                refine tr_thenN ?_
                refine tr_seq ?_
                refine tr_region ?_
                refine tr_p (y_move rfl) rfl rfl ?_
                refine tr_p (y_move rfl) rfl rfl ?_
                refine tr_p (y_move rfl) rfl rfl ?_
                refine tr_e (f_buildL (cs := #[x20.enc, x14.enc]) rfl rfl (bl_25_2_0_1 x20 x14) H) rfl rfl ?_
                rintro _ h54 ⟨s55, rfl, H⟩
                refine tr_e (e_call Try.call18 rfl (F.merge_Lists_int_ok H)) rfl rfl ?_
                rintro _ h56 ⟨r57, rfl, H⟩
                refine tr_p (y_move rfl) rfl rfl ?_
                refine tr_e (f_buildL (cs := #[x20.enc]) rfl rfl (bl_25_1_0 x20) H) rfl rfl ?_
                rintro _ h58 ⟨s59, rfl, H⟩
                refine tr_e (e_call Try.call18 rfl (F.merge_Lists_int_ok H)) rfl rfl ?_
                rintro _ h60 ⟨r61, rfl, H⟩
                refine tr_p (y_move rfl) rfl rfl ?_
                refine tr_e (f_buildL (cs := #[(⟨none, 0, 0⟩ : Sl).enc, x20.enc]) rfl rfl (bl_25_2_0_1 (⟨none, 0, 0⟩ : Sl) x20) H) rfl rfl ?_
                rintro _ h62 ⟨s63, rfl, H⟩
                refine tr_e (e_call Try.call18 rfl (F.merge_Lists_int_ok H)) rfl rfl ?_
                rintro _ h64 ⟨r65, rfl, H⟩
                refine tr_e (f_buildL (cs := #[r57.enc, r61.enc, r65.enc]) rfl rfl (bl_25_3_0_1_2 r57 r61 r65) H) rfl rfl ?_
                rintro _ h66 ⟨s67, rfl, H⟩
                refine tr_e (f_app rfl H) rfl rfl ?_
                rintro _ h68 ⟨s69, rfl, H⟩
                refine tr_p (y_assign rfl) rfl rfl ?_
                refine tr_nil ?_
                refine tr_thenN ?_
                refine tr_seq_j (fun L' h => ∃ (x0 : Int) (x11 : Sl) (x12 : Sl) (x13 : Sl) (x14 : Sl) (x15 : Sl) (x16 : Sl) (x17 : Sl) (x18 : Sl) (x19 : Sl) (x20 : Sl) (x21 : Int) (x22 : Sl) (x23 : Sl) (x24 : Int) (x155 : Bool), L' = [(0, (.int .i64 x0)), (11, x11.enc), (12, x12.enc), (13, x13.enc), (14, x14.enc), (15, x15.enc), (16, x16.enc), (17, x17.enc), (18, x18.enc), (19, x19.enc), (20, x20.enc), (21, (.int .i64 x21)), (22, x22.enc), (23, x23.enc), (24, (.int .i64 x24)), (155, (.bool x155))] ∧ F.spatelaw8_MergeBook.j5 Q (F.spatelaw8_MergeBook.l1 Q q1) (F.spatelaw8_MergeBook.l3 Q (F.spatelaw8_MergeBook.l1 Q q1) q3) x0 x11 x12 x13 x14 x15 x16 x17 x18 x19 x20 x21 x22 x23 x24 x155 h) ?_ ?_
                · rintro L' h ⟨x0, x11, x12, x13, x14, x15, x16, x17, x18, x19, x20, x21, x22, x23, x24, x155, rfl, H⟩
                  unfold F.spatelaw8_MergeBook.j5 at H
                  refine tr_cond rfl (fun g70 => ?_) (fun g70 => ?_)
                  · replace H := H.1 g70
                    refine tr_seq ?_
                    refine tr_region ?_
                    refine tr_p (y_assign rfl) rfl rfl ?_
                    refine tr_nil ?_
                    refine tr_thenN ?_
                    refine tr_ret ?_
                    refine tr_blockR ?_
                    refine tr_thenR ?_
                    refine tr_thenR ?_
                    refine tr_blockR ?_
                    refine tr_thenR ?_
                    refine tr_blockR ?_
                    refine tr_thenR ?_
                    refine tr_thenR ?_
                    refine tr_blockR ?_
                    refine tr_thenR ?_
                    exact tr_ret1 rfl rfl ⟨_, rfl, H⟩
                  · replace H := H.2 g70
                    refine tr_skip ?_
                    refine tr_blockN ?_
                    refine tr_thenN ?_
                    exact tr_join [(0, (.int .i64 x0)), (11, x11.enc), (12, x12.enc), (13, x13.enc), (14, x14.enc), (15, x15.enc), (16, x16.enc), (17, x17.enc), (18, x18.enc), (19, x19.enc), (20, x20.enc), (21, (.int .i64 x21)), (22, x22.enc), (23, x23.enc), (24, (.int .i64 x24))] ⟨rfl, rfl, rfl, rfl, rfl, rfl, rfl, rfl, rfl, rfl, rfl, rfl, rfl, rfl, rfl, trivial⟩ ⟨_, _, _, _, _, _, _, _, _, _, _, _, _, _, _, rfl, H⟩
                · refine tr_region ?_
                  refine tr_p (y_move rfl) rfl rfl ?_
                  refine tr_p (y_move rfl) rfl rfl ?_
                  refine tr_p (y_mul rfl rfl) rfl rfl ?_
                  obtain ⟨a71, e72, H⟩ := H
                  refine tr_p (f_idx (s := s53) Try.runUnderlying53 Try.sizeOf51 rfl rfl e72) rfl rfl ?_
                  obtain ⟨y73, k74, H⟩ := H
                  refine tr_h (y_ld Try.isAgg51 rfl) k74 rfl rfl ?_
                  refine tr_p (y_move rfl) rfl rfl ?_
                  refine tr_e (e_call Try.call32 rfl (F.spatelaw2_SameRows_ok H)) rfl rfl ?_
                  rintro _ h75 ⟨r76, rfl, H⟩
                  refine tr_p (y_not rfl) rfl rfl ?_
                  refine tr_p (y_move rfl) rfl rfl ?_
                  refine tr_split (t := 102) rfl (fun g77 => ?_) (fun g77 => ?_)
                  · replace H := H.1 g77
                    refine tr_s rfl rfl ?_
                    refine tr_s rfl rfl ?_
                    refine tr_s rfl rfl ?_
                    refine tr_s rfl rfl ?_
                    refine tr_s rfl rfl ?_
                    refine tr_s rfl rfl ?_
                    refine tr_s rfl rfl ?_
                    refine tr_s rfl rfl ?_
                    refine tr_s rfl rfl ?_
                    refine tr_p (y_pick_t rfl rfl) rfl rfl ?_
                    refine tr_p (y_move rfl) rfl rfl ?_
                    refine tr_s rfl rfl ?_
                    refine tr_s rfl rfl ?_
                    refine tr_s rfl rfl ?_
                    refine tr_s rfl rfl ?_
                    refine tr_s rfl rfl ?_
                    refine tr_s rfl rfl ?_
                    refine tr_s rfl rfl ?_
                    refine tr_s rfl rfl ?_
                    refine tr_s rfl rfl ?_
                    refine tr_p (y_pick_t rfl rfl) rfl rfl ?_
                    refine tr_p (y_move rfl) rfl rfl ?_
                    refine tr_s rfl rfl ?_
                    refine tr_s rfl rfl ?_
                    refine tr_s rfl rfl ?_
                    refine tr_s rfl rfl ?_
                    refine tr_s rfl rfl ?_
                    refine tr_s rfl rfl ?_
                    refine tr_s rfl rfl ?_
                    refine tr_s rfl rfl ?_
                    refine tr_p (y_pick_t rfl rfl) rfl rfl ?_
                    refine tr_p (y_move rfl) rfl rfl ?_
                    refine tr_s rfl rfl ?_
                    refine tr_s rfl rfl ?_
                    refine tr_s rfl rfl ?_
                    refine tr_s rfl rfl ?_
                    refine tr_s rfl rfl ?_
                    refine tr_s rfl rfl ?_
                    refine tr_s rfl rfl ?_
                    refine tr_s rfl rfl ?_
                    refine tr_s rfl rfl ?_
                    refine tr_p (y_pick_t rfl rfl) rfl rfl ?_
                    refine tr_p (y_move rfl) rfl rfl ?_
                    refine tr_s rfl rfl ?_
                    refine tr_s rfl rfl ?_
                    refine tr_s rfl rfl ?_
                    refine tr_s rfl rfl ?_
                    refine tr_s rfl rfl ?_
                    refine tr_s rfl rfl ?_
                    refine tr_s rfl rfl ?_
                    refine tr_s rfl rfl ?_
                    refine tr_s rfl rfl ?_
                    refine tr_p (y_pick_t rfl rfl) rfl rfl ?_
                    refine tr_nil ?_
                    refine tr_thenN ?_
                    exact tr_join [(0, (.int .i64 x0)), (11, x11.enc), (12, x12.enc), (13, x13.enc), (14, x14.enc), (15, x15.enc), (16, x16.enc), (17, x17.enc), (18, x18.enc), (19, x19.enc), (20, x20.enc), (21, (.int .i64 x21)), (22, s53.enc), (23, s69.enc), (24, (.int .i64 x24)), (155, (.bool true))] ⟨rfl, rfl, rfl, rfl, rfl, rfl, rfl, rfl, rfl, rfl, rfl, rfl, rfl, rfl, rfl, rfl, trivial⟩ ⟨_, _, _, _, _, _, _, _, _, _, _, _, _, _, _, _, rfl, H⟩
                  · replace H := H.2 g77
                    refine tr_p (y_move rfl) rfl rfl ?_
                    refine tr_p (y_move rfl) rfl rfl ?_
                    refine tr_p (y_mul rfl rfl) rfl rfl ?_
                    refine tr_p (y_add rfl rfl) rfl rfl ?_
                    obtain ⟨a78, e79, H⟩ := H
                    refine tr_p (f_idx (s := s53) Try.runUnderlying53 Try.sizeOf51 rfl rfl e79) rfl rfl ?_
                    obtain ⟨y80, k81, H⟩ := H
                    refine tr_h (y_ld Try.isAgg51 rfl) k81 rfl rfl ?_
                    refine tr_p (y_move rfl) rfl rfl ?_
                    refine tr_e (e_call Try.call32 rfl (F.spatelaw2_SameRows_ok H)) rfl rfl ?_
                    rintro _ h82 ⟨r83, rfl, H⟩
                    refine tr_p (y_not rfl) rfl rfl ?_
                    refine tr_p (y_pick_f rfl rfl) rfl rfl ?_
                    refine tr_p (y_move rfl) rfl rfl ?_
                    refine tr_split (t := 113) rfl (fun g84 => ?_) (fun g84 => ?_)
                    · replace H := H.1 g84
                      refine tr_s rfl rfl ?_
                      refine tr_s rfl rfl ?_
                      refine tr_s rfl rfl ?_
                      refine tr_s rfl rfl ?_
                      refine tr_s rfl rfl ?_
                      refine tr_s rfl rfl ?_
                      refine tr_s rfl rfl ?_
                      refine tr_s rfl rfl ?_
                      refine tr_s rfl rfl ?_
                      refine tr_p (y_pick_t rfl rfl) rfl rfl ?_
                      refine tr_p (y_move rfl) rfl rfl ?_
                      refine tr_s rfl rfl ?_
                      refine tr_s rfl rfl ?_
                      refine tr_s rfl rfl ?_
                      refine tr_s rfl rfl ?_
                      refine tr_s rfl rfl ?_
                      refine tr_s rfl rfl ?_
                      refine tr_s rfl rfl ?_
                      refine tr_s rfl rfl ?_
                      refine tr_p (y_pick_t rfl rfl) rfl rfl ?_
                      refine tr_p (y_move rfl) rfl rfl ?_
                      refine tr_s rfl rfl ?_
                      refine tr_s rfl rfl ?_
                      refine tr_s rfl rfl ?_
                      refine tr_s rfl rfl ?_
                      refine tr_s rfl rfl ?_
                      refine tr_s rfl rfl ?_
                      refine tr_s rfl rfl ?_
                      refine tr_s rfl rfl ?_
                      refine tr_s rfl rfl ?_
                      refine tr_p (y_pick_t rfl rfl) rfl rfl ?_
                      refine tr_p (y_move rfl) rfl rfl ?_
                      refine tr_s rfl rfl ?_
                      refine tr_s rfl rfl ?_
                      refine tr_s rfl rfl ?_
                      refine tr_s rfl rfl ?_
                      refine tr_s rfl rfl ?_
                      refine tr_s rfl rfl ?_
                      refine tr_s rfl rfl ?_
                      refine tr_s rfl rfl ?_
                      refine tr_s rfl rfl ?_
                      refine tr_p (y_pick_t rfl rfl) rfl rfl ?_
                      refine tr_nil ?_
                      refine tr_thenN ?_
                      exact tr_join [(0, (.int .i64 x0)), (11, x11.enc), (12, x12.enc), (13, x13.enc), (14, x14.enc), (15, x15.enc), (16, x16.enc), (17, x17.enc), (18, x18.enc), (19, x19.enc), (20, x20.enc), (21, (.int .i64 x21)), (22, s53.enc), (23, s69.enc), (24, (.int .i64 x24)), (155, (.bool true))] ⟨rfl, rfl, rfl, rfl, rfl, rfl, rfl, rfl, rfl, rfl, rfl, rfl, rfl, rfl, rfl, rfl, trivial⟩ ⟨_, _, _, _, _, _, _, _, _, _, _, _, _, _, _, _, rfl, H⟩
                    · replace H := H.2 g84
                      refine tr_p (y_move rfl) rfl rfl ?_
                      refine tr_p (y_move rfl) rfl rfl ?_
                      refine tr_p (y_mul rfl rfl) rfl rfl ?_
                      refine tr_p (y_add rfl rfl) rfl rfl ?_
                      obtain ⟨a85, e86, H⟩ := H
                      refine tr_p (f_idx (s := s53) Try.runUnderlying53 Try.sizeOf51 rfl rfl e86) rfl rfl ?_
                      obtain ⟨y87, k88, H⟩ := H
                      refine tr_h (y_ld Try.isAgg51 rfl) k88 rfl rfl ?_
                      refine tr_p (y_move rfl) rfl rfl ?_
                      refine tr_e (e_call Try.call32 rfl (F.spatelaw2_SameRows_ok H)) rfl rfl ?_
                      rintro _ h89 ⟨r90, rfl, H⟩
                      refine tr_p (y_not rfl) rfl rfl ?_
                      refine tr_p (y_pick_f rfl rfl) rfl rfl ?_
                      refine tr_p (y_move rfl) rfl rfl ?_
                      refine tr_split (t := 124) rfl (fun g91 => ?_) (fun g91 => ?_)
                      · replace H := H.1 g91
                        refine tr_s rfl rfl ?_
                        refine tr_s rfl rfl ?_
                        refine tr_s rfl rfl ?_
                        refine tr_s rfl rfl ?_
                        refine tr_s rfl rfl ?_
                        refine tr_s rfl rfl ?_
                        refine tr_s rfl rfl ?_
                        refine tr_s rfl rfl ?_
                        refine tr_p (y_pick_t rfl rfl) rfl rfl ?_
                        refine tr_p (y_move rfl) rfl rfl ?_
                        refine tr_s rfl rfl ?_
                        refine tr_s rfl rfl ?_
                        refine tr_s rfl rfl ?_
                        refine tr_s rfl rfl ?_
                        refine tr_s rfl rfl ?_
                        refine tr_s rfl rfl ?_
                        refine tr_s rfl rfl ?_
                        refine tr_s rfl rfl ?_
                        refine tr_s rfl rfl ?_
                        refine tr_p (y_pick_t rfl rfl) rfl rfl ?_
                        refine tr_p (y_move rfl) rfl rfl ?_
                        refine tr_s rfl rfl ?_
                        refine tr_s rfl rfl ?_
                        refine tr_s rfl rfl ?_
                        refine tr_s rfl rfl ?_
                        refine tr_s rfl rfl ?_
                        refine tr_s rfl rfl ?_
                        refine tr_s rfl rfl ?_
                        refine tr_s rfl rfl ?_
                        refine tr_s rfl rfl ?_
                        refine tr_p (y_pick_t rfl rfl) rfl rfl ?_
                        refine tr_nil ?_
                        refine tr_thenN ?_
                        exact tr_join [(0, (.int .i64 x0)), (11, x11.enc), (12, x12.enc), (13, x13.enc), (14, x14.enc), (15, x15.enc), (16, x16.enc), (17, x17.enc), (18, x18.enc), (19, x19.enc), (20, x20.enc), (21, (.int .i64 x21)), (22, s53.enc), (23, s69.enc), (24, (.int .i64 x24)), (155, (.bool true))] ⟨rfl, rfl, rfl, rfl, rfl, rfl, rfl, rfl, rfl, rfl, rfl, rfl, rfl, rfl, rfl, rfl, trivial⟩ ⟨_, _, _, _, _, _, _, _, _, _, _, _, _, _, _, _, rfl, H⟩
                      · replace H := H.2 g91
                        refine tr_p (y_move rfl) rfl rfl ?_
                        refine tr_p (y_move rfl) rfl rfl ?_
                        refine tr_p (y_mul rfl rfl) rfl rfl ?_
                        obtain ⟨a92, e93, H⟩ := H
                        refine tr_p (f_idx (s := s69) Try.runUnderlying25 Try.sizeOf23 rfl rfl e93) rfl rfl ?_
                        obtain ⟨y94, k95, H⟩ := H
                        refine tr_h (y_ld Try.isAgg23 rfl) k95 rfl rfl ?_
                        refine tr_p (y_move rfl) rfl rfl ?_
                        refine tr_e (e_call Try.call19 rfl (F.spatelaw8_same_ok H)) rfl rfl ?_
                        rintro _ h96 ⟨r97, rfl, H⟩
                        refine tr_p (y_not rfl) rfl rfl ?_
                        refine tr_p (y_pick_f rfl rfl) rfl rfl ?_
                        refine tr_p (y_move rfl) rfl rfl ?_
                        refine tr_split (t := 134) rfl (fun g98 => ?_) (fun g98 => ?_)
                        · replace H := H.1 g98
                          refine tr_s rfl rfl ?_
                          refine tr_s rfl rfl ?_
                          refine tr_s rfl rfl ?_
                          refine tr_s rfl rfl ?_
                          refine tr_s rfl rfl ?_
                          refine tr_s rfl rfl ?_
                          refine tr_s rfl rfl ?_
                          refine tr_s rfl rfl ?_
                          refine tr_s rfl rfl ?_
                          refine tr_p (y_pick_t rfl rfl) rfl rfl ?_
                          refine tr_p (y_move rfl) rfl rfl ?_
                          refine tr_s rfl rfl ?_
                          refine tr_s rfl rfl ?_
                          refine tr_s rfl rfl ?_
                          refine tr_s rfl rfl ?_
                          refine tr_s rfl rfl ?_
                          refine tr_s rfl rfl ?_
                          refine tr_s rfl rfl ?_
                          refine tr_s rfl rfl ?_
                          refine tr_s rfl rfl ?_
                          refine tr_p (y_pick_t rfl rfl) rfl rfl ?_
                          refine tr_nil ?_
                          refine tr_thenN ?_
                          exact tr_join [(0, (.int .i64 x0)), (11, x11.enc), (12, x12.enc), (13, x13.enc), (14, x14.enc), (15, x15.enc), (16, x16.enc), (17, x17.enc), (18, x18.enc), (19, x19.enc), (20, x20.enc), (21, (.int .i64 x21)), (22, s53.enc), (23, s69.enc), (24, (.int .i64 x24)), (155, (.bool true))] ⟨rfl, rfl, rfl, rfl, rfl, rfl, rfl, rfl, rfl, rfl, rfl, rfl, rfl, rfl, rfl, rfl, trivial⟩ ⟨_, _, _, _, _, _, _, _, _, _, _, _, _, _, _, _, rfl, H⟩
                        · replace H := H.2 g98
                          refine tr_p (y_move rfl) rfl rfl ?_
                          refine tr_p (y_move rfl) rfl rfl ?_
                          refine tr_p (y_mul rfl rfl) rfl rfl ?_
                          refine tr_p (y_add rfl rfl) rfl rfl ?_
                          obtain ⟨a99, e100, H⟩ := H
                          refine tr_p (f_idx (s := s69) Try.runUnderlying25 Try.sizeOf23 rfl rfl e100) rfl rfl ?_
                          obtain ⟨y101, k102, H⟩ := H
                          refine tr_h (y_ld Try.isAgg23 rfl) k102 rfl rfl ?_
                          refine tr_p (y_move rfl) rfl rfl ?_
                          refine tr_e (e_call Try.call19 rfl (F.spatelaw8_same_ok H)) rfl rfl ?_
                          rintro _ h103 ⟨r104, rfl, H⟩
                          refine tr_p (y_not rfl) rfl rfl ?_
                          refine tr_p (y_pick_f rfl rfl) rfl rfl ?_
                          refine tr_p (y_move rfl) rfl rfl ?_
                          refine tr_split (t := 145) rfl (fun g105 => ?_) (fun g105 => ?_)
                          · replace H := H.1 g105
                            refine tr_s rfl rfl ?_
                            refine tr_s rfl rfl ?_
                            refine tr_s rfl rfl ?_
                            refine tr_s rfl rfl ?_
                            refine tr_s rfl rfl ?_
                            refine tr_s rfl rfl ?_
                            refine tr_s rfl rfl ?_
                            refine tr_s rfl rfl ?_
                            refine tr_s rfl rfl ?_
                            refine tr_p (y_pick_t rfl rfl) rfl rfl ?_
                            refine tr_nil ?_
                            refine tr_thenN ?_
                            exact tr_join [(0, (.int .i64 x0)), (11, x11.enc), (12, x12.enc), (13, x13.enc), (14, x14.enc), (15, x15.enc), (16, x16.enc), (17, x17.enc), (18, x18.enc), (19, x19.enc), (20, x20.enc), (21, (.int .i64 x21)), (22, s53.enc), (23, s69.enc), (24, (.int .i64 x24)), (155, (.bool true))] ⟨rfl, rfl, rfl, rfl, rfl, rfl, rfl, rfl, rfl, rfl, rfl, rfl, rfl, rfl, rfl, rfl, trivial⟩ ⟨_, _, _, _, _, _, _, _, _, _, _, _, _, _, _, _, rfl, H⟩
                          · replace H := H.2 g105
                            refine tr_p (y_move rfl) rfl rfl ?_
                            refine tr_p (y_move rfl) rfl rfl ?_
                            refine tr_p (y_mul rfl rfl) rfl rfl ?_
                            refine tr_p (y_add rfl rfl) rfl rfl ?_
                            obtain ⟨a106, e107, H⟩ := H
                            refine tr_p (f_idx (s := s69) Try.runUnderlying25 Try.sizeOf23 rfl rfl e107) rfl rfl ?_
                            obtain ⟨y108, k109, H⟩ := H
                            refine tr_h (y_ld Try.isAgg23 rfl) k109 rfl rfl ?_
                            refine tr_p (y_move rfl) rfl rfl ?_
                            refine tr_e (e_call Try.call19 rfl (F.spatelaw8_same_ok H)) rfl rfl ?_
                            rintro _ h110 ⟨r111, rfl, H⟩
                            refine tr_p (y_not rfl) rfl rfl ?_
                            refine tr_p (y_pick_f rfl rfl) rfl rfl ?_
                            refine tr_nil ?_
                            refine tr_thenN ?_
                            exact tr_join [(0, (.int .i64 x0)), (11, x11.enc), (12, x12.enc), (13, x13.enc), (14, x14.enc), (15, x15.enc), (16, x16.enc), (17, x17.enc), (18, x18.enc), (19, x19.enc), (20, x20.enc), (21, (.int .i64 x21)), (22, s53.enc), (23, s69.enc), (24, (.int .i64 x24)), (155, (.bool (!r111)))] ⟨rfl, rfl, rfl, rfl, rfl, rfl, rfl, rfl, rfl, rfl, rfl, rfl, rfl, rfl, rfl, rfl, trivial⟩ ⟨_, _, _, _, _, _, _, _, _, _, _, _, _, _, _, _, rfl, H⟩
            · replace H := H.2 g37
              refine tr_exit ?_
              refine tr_thenE ?_
              refine tr_thenE ?_
              refine tr_hit ?_
              refine tr_thenN ?_
              refine tr_seq_j (fun L' h => ∃ (x0 : Int) (x11 : Sl) (x12 : Sl) (x13 : Sl) (x14 : Sl) (x15 : Sl) (x16 : Sl) (x17 : Sl) (x18 : Sl) (x19 : Sl) (x20 : Sl) (x21 : Int) (x175 : Bool), L' = [(0, (.int .i64 x0)), (11, x11.enc), (12, x12.enc), (13, x13.enc), (14, x14.enc), (15, x15.enc), (16, x16.enc), (17, x17.enc), (18, x18.enc), (19, x19.enc), (20, x20.enc), (21, (.int .i64 x21)), (175, (.bool x175))] ∧ F.spatelaw8_MergeBook.j6 Q (F.spatelaw8_MergeBook.l1 Q q1) x0 x11 x12 x13 x14 x15 x16 x17 x18 x19 x20 x21 x175 h) ?_ ?_
              · rintro L' h ⟨x0, x11, x12, x13, x14, x15, x16, x17, x18, x19, x20, x21, x175, rfl, H⟩
                unfold F.spatelaw8_MergeBook.j6 at H
                refine tr_cond rfl (fun g112 => ?_) (fun g112 => ?_)
                · replace H := H.1 g112
                  refine tr_seq ?_
                  refine tr_region ?_
                  refine tr_p (y_assign rfl) rfl rfl ?_
                  refine tr_nil ?_
                  refine tr_thenN ?_
                  refine tr_ret ?_
                  refine tr_blockR ?_
                  refine tr_thenR ?_
                  refine tr_thenR ?_
                  refine tr_blockR ?_
                  refine tr_thenR ?_
                  exact tr_ret1 rfl rfl ⟨_, rfl, H⟩
                · replace H := H.2 g112
                  refine tr_skip ?_
                  refine tr_blockN ?_
                  refine tr_thenN ?_
                  exact tr_join [(0, (.int .i64 x0)), (11, x11.enc), (12, x12.enc), (13, x13.enc), (14, x14.enc), (15, x15.enc), (16, x16.enc), (17, x17.enc), (18, x18.enc), (19, x19.enc), (20, x20.enc), (21, (.int .i64 x21))] ⟨rfl, rfl, rfl, rfl, rfl, rfl, rfl, rfl, rfl, rfl, rfl, rfl, trivial⟩ ⟨_, _, _, _, _, _, _, _, _, _, _, _, rfl, H⟩
              · refine tr_region ?_
                refine tr_p (y_move rfl) rfl rfl ?_
                refine tr_e (e_call Try.call36 rfl (F.spatelaw2_GrownRows_ok H)) rfl rfl ?_
                rintro _ h113 ⟨r114, rfl, H⟩
                refine tr_p (y_not rfl) rfl rfl ?_
                refine tr_p (y_move rfl) rfl rfl ?_
                refine tr_split (t := 159) rfl (fun g115 => ?_) (fun g115 => ?_)
                · replace H := H.1 g115
                  refine tr_s rfl rfl ?_
                  refine tr_s rfl rfl ?_
                  refine tr_s rfl rfl ?_
                  refine tr_p (y_pick_t rfl rfl) rfl rfl ?_
                  refine tr_p (y_move rfl) rfl rfl ?_
                  refine tr_s rfl rfl ?_
                  refine tr_s rfl rfl ?_
                  refine tr_s rfl rfl ?_
                  refine tr_s rfl rfl ?_
                  refine tr_p (y_pick_t rfl rfl) rfl rfl ?_
                  refine tr_p (y_move rfl) rfl rfl ?_
                  refine tr_s rfl rfl ?_
                  refine tr_s rfl rfl ?_
                  refine tr_s rfl rfl ?_
                  refine tr_s rfl rfl ?_
                  refine tr_p (y_pick_t rfl rfl) rfl rfl ?_
                  refine tr_nil ?_
                  refine tr_thenN ?_
                  exact tr_join [(0, (.int .i64 x0)), (11, x11.enc), (12, x12.enc), (13, x13.enc), (14, x14.enc), (15, x15.enc), (16, x16.enc), (17, x17.enc), (18, x18.enc), (19, x19.enc), (20, x20.enc), (21, (.int .i64 x21)), (175, (.bool true))] ⟨rfl, rfl, rfl, rfl, rfl, rfl, rfl, rfl, rfl, rfl, rfl, rfl, rfl, trivial⟩ ⟨_, _, _, _, _, _, _, _, _, _, _, _, _, rfl, H⟩
                · replace H := H.2 g115
                  refine tr_p (y_move rfl) rfl rfl ?_
                  refine tr_e (e_call Try.call37 rfl (F.spatelaw2_GrownInts_ok H)) rfl rfl ?_
                  rintro _ h116 ⟨r117, rfl, H⟩
                  refine tr_p (y_not rfl) rfl rfl ?_
                  refine tr_p (y_pick_f rfl rfl) rfl rfl ?_
                  refine tr_p (y_move rfl) rfl rfl ?_
                  refine tr_split (t := 164) rfl (fun g118 => ?_) (fun g118 => ?_)
                  · replace H := H.1 g118
                    refine tr_s rfl rfl ?_
                    refine tr_s rfl rfl ?_
                    refine tr_s rfl rfl ?_
                    refine tr_s rfl rfl ?_
                    refine tr_p (y_pick_t rfl rfl) rfl rfl ?_
                    refine tr_p (y_move rfl) rfl rfl ?_
                    refine tr_s rfl rfl ?_
                    refine tr_s rfl rfl ?_
                    refine tr_s rfl rfl ?_
                    refine tr_s rfl rfl ?_
                    refine tr_p (y_pick_t rfl rfl) rfl rfl ?_
                    refine tr_nil ?_
                    refine tr_thenN ?_
                    exact tr_join [(0, (.int .i64 x0)), (11, x11.enc), (12, x12.enc), (13, x13.enc), (14, x14.enc), (15, x15.enc), (16, x16.enc), (17, x17.enc), (18, x18.enc), (19, x19.enc), (20, x20.enc), (21, (.int .i64 x21)), (175, (.bool true))] ⟨rfl, rfl, rfl, rfl, rfl, rfl, rfl, rfl, rfl, rfl, rfl, rfl, rfl, trivial⟩ ⟨_, _, _, _, _, _, _, _, _, _, _, _, _, rfl, H⟩
                  · replace H := H.2 g118
                    refine tr_p (y_move rfl) rfl rfl ?_
                    refine tr_p (y_move rfl) rfl rfl ?_
                    refine tr_e (e_call Try.call32 rfl (F.spatelaw2_SameRows_ok H)) rfl rfl ?_
                    rintro _ h119 ⟨r120, rfl, H⟩
                    refine tr_p (y_not rfl) rfl rfl ?_
                    refine tr_p (y_pick_f rfl rfl) rfl rfl ?_
                    refine tr_p (y_move rfl) rfl rfl ?_
                    refine tr_split (t := 170) rfl (fun g121 => ?_) (fun g121 => ?_)
                    · replace H := H.1 g121
                      refine tr_s rfl rfl ?_
                      refine tr_s rfl rfl ?_
                      refine tr_s rfl rfl ?_
                      refine tr_s rfl rfl ?_
                      refine tr_p (y_pick_t rfl rfl) rfl rfl ?_
                      refine tr_nil ?_
                      refine tr_thenN ?_
                      exact tr_join [(0, (.int .i64 x0)), (11, x11.enc), (12, x12.enc), (13, x13.enc), (14, x14.enc), (15, x15.enc), (16, x16.enc), (17, x17.enc), (18, x18.enc), (19, x19.enc), (20, x20.enc), (21, (.int .i64 x21)), (175, (.bool true))] ⟨rfl, rfl, rfl, rfl, rfl, rfl, rfl, rfl, rfl, rfl, rfl, rfl, rfl, trivial⟩ ⟨_, _, _, _, _, _, _, _, _, _, _, _, _, rfl, H⟩
                    · replace H := H.2 g121
                      refine tr_p (y_move rfl) rfl rfl ?_
                      refine tr_p (y_move rfl) rfl rfl ?_
                      refine tr_e (e_call Try.call19 rfl (F.spatelaw8_same_ok H)) rfl rfl ?_
                      rintro _ h122 ⟨r123, rfl, H⟩
                      refine tr_p (y_not rfl) rfl rfl ?_
                      refine tr_p (y_pick_f rfl rfl) rfl rfl ?_
                      refine tr_nil ?_
                      refine tr_thenN ?_
                      exact tr_join [(0, (.int .i64 x0)), (11, x11.enc), (12, x12.enc), (13, x13.enc), (14, x14.enc), (15, x15.enc), (16, x16.enc), (17, x17.enc), (18, x18.enc), (19, x19.enc), (20, x20.enc), (21, (.int .i64 x21)), (175, (.bool (!r123)))] ⟨rfl, rfl, rfl, rfl, rfl, rfl, rfl, rfl, rfl, rfl, rfl, rfl, rfl, trivial⟩ ⟨_, _, _, _, _, _, _, _, _, _, _, _, _, rfl, H⟩
      · replace H := H.2 g36
        refine tr_exit ?_
        refine tr_thenE ?_
        refine tr_thenE ?_
        refine tr_hit ?_
        refine tr_thenN ?_
        refine tr_seq_j (fun L' h => ∃ (x0 : Int) (x12 : Sl) (x14 : Sl) (x19 : Sl) (x20 : Sl), L' = [(0, (.int .i64 x0)), (12, x12.enc), (14, x14.enc), (19, x19.enc), (20, x20.enc)] ∧ F.spatelaw8_MergeBook.j7 Q x0 x12 x14 x19 x20 h) ?_ ?_
        · rintro L' h ⟨x0, x12, x14, x19, x20, rfl, H⟩
          unfold F.spatelaw8_MergeBook.j7 at H
          refine tr_seq_j (fun L' h => ∃ (x0 : Int) (x12 : Sl) (x14 : Sl) (x19 : Sl) (x20 : Sl), L' = [(0, (.int .i64 x0)), (12, x12.enc), (14, x14.enc), (19, x19.enc), (20, x20.enc)] ∧ F.spatelaw8_MergeBook.j8 Q x0 x12 x14 x19 x20 h) ?_ ?_
          · rintro L' h ⟨x0, x12, x14, x19, x20, rfl, H⟩
            unfold F.spatelaw8_MergeBook.j8 at H
            refine tr_seq ?_
            refine tr_region ?_
            refine tr_p (y_move rfl) rfl rfl ?_
            refine tr_p (y_move rfl) rfl rfl ?_
            refine tr_p (y_move rfl) rfl rfl ?_
            refine tr_e (f_buildL (cs := #[x19.enc, x12.enc]) rfl rfl (bl_53_2_0_1 x19 x12) H) rfl rfl ?_
            rintro _ h125 ⟨s126, rfl, H⟩
            refine tr_e (e_call Try.call31 rfl (F.merge_Rows_ok H)) rfl rfl ?_
            rintro _ h127 ⟨r128, rfl, H⟩
            refine tr_p (y_move rfl) rfl rfl ?_
            refine tr_p (y_move rfl) rfl rfl ?_
            refine tr_p (y_move rfl) rfl rfl ?_
            refine tr_e (f_buildL (cs := #[x19.enc, x12.enc]) rfl rfl (bl_53_2_0_1 x19 x12) H) rfl rfl ?_
            rintro _ h129 ⟨s130, rfl, H⟩
            refine tr_e (e_call Try.call33 rfl (F.spateref8_Rows_ok H)) rfl rfl ?_
            rintro _ h131 ⟨r132, rfl, H⟩
            refine tr_e (e_call Try.call32 rfl (F.spatelaw2_SameRows_ok H)) rfl rfl ?_
            rintro _ h133 ⟨r134, rfl, H⟩
            refine tr_p (y_move rfl) rfl rfl ?_
            refine tr_split (t := 209) rfl (fun g135 => ?_) (fun g135 => ?_)
            · replace H := H.1 g135
              refine tr_p (y_move rfl) rfl rfl ?_
              refine tr_p (y_move rfl) rfl rfl ?_
              refine tr_e (f_buildL (cs := #[x20.enc, x14.enc]) rfl rfl (bl_25_2_0_1 x20 x14) H) rfl rfl ?_
              rintro _ h136 ⟨s137, rfl, H⟩
              refine tr_e (e_call Try.call18 rfl (F.merge_Lists_int_ok H)) rfl rfl ?_
              rintro _ h138 ⟨r139, rfl, H⟩
              refine tr_p (y_move rfl) rfl rfl ?_
              refine tr_p (y_move rfl) rfl rfl ?_
              refine tr_e (f_buildL (cs := #[x20.enc, x14.enc]) rfl rfl (bl_25_2_0_1 x20 x14) H) rfl rfl ?_
              rintro _ h140 ⟨s141, rfl, H⟩
              refine tr_e (e_call Try.call17 rfl (F.spateref8_Lists_ok H)) rfl rfl ?_
              rintro _ h142 ⟨r143, rfl, H⟩
              refine tr_e (e_call Try.call19 rfl (F.spatelaw8_same_ok H)) rfl rfl ?_
              rintro _ h144 ⟨r145, rfl, H⟩
              refine tr_p (y_pick_t rfl rfl) rfl rfl ?_
              refine tr_p (y_assign rfl) rfl rfl ?_
              refine tr_nil ?_
              refine tr_thenN ?_
              refine tr_ret ?_
              exact tr_ret1 rfl rfl ⟨_, rfl, H⟩
            · replace H := H.2 g135
              refine tr_s rfl rfl ?_
              refine tr_s rfl rfl ?_
              refine tr_s rfl rfl ?_
              refine tr_s rfl rfl ?_
              refine tr_s rfl rfl ?_
              refine tr_s rfl rfl ?_
              refine tr_s rfl rfl ?_
              refine tr_s rfl rfl ?_
              refine tr_s rfl rfl ?_
              refine tr_p (y_pick_f rfl rfl) rfl rfl ?_
              refine tr_p (y_assign rfl) rfl rfl ?_
              refine tr_nil ?_
              refine tr_thenN ?_
              refine tr_ret ?_
              exact tr_ret1 rfl rfl ⟨_, rfl, H⟩
          · refine tr_seq_j (fun L' h => ∃ (x0 : Int) (x12 : Sl) (x14 : Sl) (x19 : Sl) (x20 : Sl) (x191 : Bool), L' = [(0, (.int .i64 x0)), (12, x12.enc), (14, x14.enc), (19, x19.enc), (20, x20.enc), (191, (.bool x191))] ∧ F.spatelaw8_MergeBook.j9 Q x0 x12 x14 x19 x20 x191 h) ?_ ?_
            · rintro L' h ⟨x0, x12, x14, x19, x20, x191, rfl, H⟩
              unfold F.spatelaw8_MergeBook.j9 at H
              refine tr_cond rfl (fun g146 => ?_) (fun g146 => ?_)
              · replace H := H.1 g146
                refine tr_region ?_
                refine tr_p (y_move rfl) rfl rfl ?_
                refine tr_p (y_move rfl) rfl rfl ?_
                obtain ⟨a147, e148, H⟩ := H
                refine tr_p (f_idx (s := x20) Try.runUnderlying23 Try.sizeOf3 rfl rfl e148) rfl rfl ?_
                obtain ⟨y149, k150, H⟩ := H
                refine tr_h (y_ld Try.isAgg3 rfl) k150 rfl rfl ?_
                refine tr_p (y_sub rfl rfl) rfl rfl ?_
                obtain ⟨a151, e152, H⟩ := H
                refine tr_p (f_idx (s := x20) Try.runUnderlying23 Try.sizeOf3 rfl rfl e152) rfl rfl ?_
                refine tr_e (f_store (vs := [(.int .i64 (IntKind.wrap .i64 (y149 - 1)))]) Try.sizeOf3 rfl rfl rfl rfl (one1 rfl) H) rfl rfl ?_
                rintro _ h153 ⟨rfl, H⟩
                refine tr_nil ?_
                refine tr_thenN ?_
                exact tr_join [(0, (.int .i64 x0)), (12, x12.enc), (14, x14.enc), (19, x19.enc), (20, x20.enc)] ⟨rfl, rfl, rfl, rfl, rfl, trivial⟩ ⟨_, _, _, _, _, rfl, H⟩
              · replace H := H.2 g146
                refine tr_skip ?_
                refine tr_thenN ?_
                exact tr_join [(0, (.int .i64 x0)), (12, x12.enc), (14, x14.enc), (19, x19.enc), (20, x20.enc)] ⟨rfl, rfl, rfl, rfl, rfl, trivial⟩ ⟨_, _, _, _, _, rfl, H⟩
            · refine tr_region ?_
              refine tr_p (y_move rfl) rfl rfl ?_
              refine tr_p (y_len (ts := #[]) Try.runUnderlying23 (o := x20.ptr) (n := x20.len) (cap := x20.cap) rfl) rfl rfl ?_
              refine tr_p (y_gtr rfl rfl) rfl rfl ?_
              refine tr_p (y_move rfl) rfl rfl ?_
              refine tr_split (t := 186) rfl (fun g154 => ?_) (fun g154 => ?_)
              · replace H := H.1 g154
                refine tr_p (y_move rfl) rfl rfl ?_
                obtain ⟨a155, e156, H⟩ := H
                refine tr_p (f_idx (s := x20) Try.runUnderlying23 Try.sizeOf3 rfl rfl e156) rfl rfl ?_
                obtain ⟨y157, k158, H⟩ := H
                refine tr_h (y_ld Try.isAgg3 rfl) k158 rfl rfl ?_
                refine tr_p (y_gtr rfl rfl) rfl rfl ?_
                refine tr_p (y_pick_t rfl rfl) rfl rfl ?_
                refine tr_nil ?_
                refine tr_thenN ?_
                exact tr_join [(0, (.int .i64 x0)), (12, x12.enc), (14, x14.enc), (19, x19.enc), (20, x20.enc), (191, (.bool (decide (y157 > (-4611686018427387904)))))] ⟨rfl, rfl, rfl, rfl, rfl, rfl, trivial⟩ ⟨_, _, _, _, _, _, rfl, H⟩
              · replace H := H.2 g154
                refine tr_s rfl rfl ?_
                refine tr_s rfl rfl ?_
                refine tr_s rfl rfl ?_
                refine tr_s rfl rfl ?_
                refine tr_p (y_pick_f rfl rfl) rfl rfl ?_
                refine tr_nil ?_
                refine tr_thenN ?_
                exact tr_join [(0, (.int .i64 x0)), (12, x12.enc), (14, x14.enc), (19, x19.enc), (20, x20.enc), (191, (.bool false))] ⟨rfl, rfl, rfl, rfl, rfl, rfl, trivial⟩ ⟨_, _, _, _, _, _, rfl, H⟩
        · refine tr_seq ?_
          refine tr_region ?_
          refine tr_p (y_move rfl) rfl rfl ?_
          refine tr_p (y_len (ts := #[]) Try.runUnderlying51 (o := x19.ptr) (n := x19.len) (cap := x19.cap) rfl) rfl rfl ?_
          refine tr_p (y_gtr rfl rfl) rfl rfl ?_
          refine tr_nil ?_
          refine tr_thenN ?_
          refine tr_cond rfl (fun g159 => ?_) (fun g159 => ?_)
          · replace H := H.1 g159
            refine tr_region ?_
            refine tr_p (y_move rfl) rfl rfl ?_
            refine tr_p (f_build rfl (bd_64_0_1_2_3 77 7 7 7)) rfl rfl ?_
            obtain ⟨a160, e161, H⟩ := H
            refine tr_p (f_idx (s := x19) Try.runUnderlying51 Try.sizeOf66 rfl rfl e161) rfl rfl ?_
            refine tr_p (y_fa (off := 3) Try.runUnderlying66 fo_66_1 rfl) rfl rfl ?_
            refine tr_e (f_store (vs := (⟨77, 7, 7, 7⟩ : S_api_Agg).cells) Try.sizeOf64 rfl rfl cellsOfStruct rfl (by intro v hv; exact ones_S_api_Agg _ v hv) H) rfl rfl ?_
            rintro _ h162 ⟨rfl, H⟩
            refine tr_nil ?_
            refine tr_thenN ?_
            exact tr_join [(0, (.int .i64 x0)), (12, x12.enc), (14, x14.enc), (19, x19.enc), (20, x20.enc)] ⟨rfl, rfl, rfl, rfl, rfl, trivial⟩ ⟨_, _, _, _, _, rfl, H⟩
          · replace H := H.2 g159
            refine tr_skip ?_
            refine tr_thenN ?_
            exact tr_join [(0, (.int .i64 x0)), (12, x12.enc), (14, x14.enc), (19, x19.enc), (20, x20.enc)] ⟨rfl, rfl, rfl, rfl, rfl, trivial⟩ ⟨_, _, _, _, _, rfl, H⟩
end Go.Proofs.Ytidpbnbjpglhfaa.V
namespace Go.Proofs.Ytidpbnbjpglhfaa.V
open Go
set_option linter.unusedVariables false
set_option linter.unusedSimpArgs false
abbrev Cel := S_api_Cell
theorem elU : El PP 47 5 1 1 (.int .u8 0) := ⟨Try.underlying47, ⟨Try.t5, by kernel_rfl, by kernel_rfl, by kernel_rfl, by kernel_rfl⟩, rfl, by omega, by omega⟩
theorem cU_one (b : UInt8) : ∀ v ∈ cU b, v.oneCell' = true := one1 rfl
theorem Blk.cells3 {h : H} {n : Nat} {c : Cel} {e : TypeId} (k : Blk h n c.cells.toArray e) : Cells h ⟨n, 0, none⟩ c.cells := fun j v hv => by rw [add_lit, Nat.zero_add]; exact k.cell (by simpa using hv)
def mayC (c : Cel) : Int := if c.View < 0 ∨ c.View > 4 then 23 else if (c.Key.size : Int) > 32 then 21 else if c.Start < -2305843009213693952 ∨ c.Start > 2305843009213693952 then 22 else 0
theorem mayC_spec {h : H} {c : Cel} {Q : Int → H → Prop} (k : ∀ h', Ext h h' → Q (mayC c) h') : F.merge_may c h Q := by
  unfold F.merge_may
  refine new_of fun n h1 e1 e2 e3 e4 => ?_
  have k := k h1 e3
  unfold mayC at k
  simp only [F.merge_may.j1, F.merge_may.j2, add_lit, Nat.zero_add, ldI_iff (e2.cell (i := 0) (v := .int .i64 c.View) rfl), ldS_iff (e2.cell (i := 1) (v := .string c.Key) rfl), ldI_iff (e2.cell (i := 2) (v := .int .i64 c.Start) rfl), decide_eq_true_eq, decide_eq_false_iff_not]
  have hb : ¬ (c.View < 0 ∨ c.View > 4) → ((c.Key.size : Int) > 32 → Q 21 h1) ∧ (¬ (c.Key.size : Int) > 32 → (c.Start < -2305843009213693952 → (True → Q 22 h1) ∧ (true = false → Q 0 h1)) ∧ (¬ c.Start < -2305843009213693952 → (c.Start > 2305843009213693952 → Q 22 h1) ∧ (¬ c.Start > 2305843009213693952 → Q 0 h1))) := fun g => by
    rw [if_neg g] at k
    refine ⟨fun g1 => by rw [if_pos g1] at k; exact k, fun g1 => ?_⟩
    rw [if_neg g1] at k
    refine ⟨fun g2 => ⟨fun _ => by rw [if_pos (.inl g2)] at k; exact k, fun h => by cases h⟩, fun g2 => ⟨fun g3 => by rw [if_pos (.inr g3)] at k; exact k, fun g3 => by rw [if_neg (by omega)] at k; exact k⟩⟩
  refine ⟨fun g => ⟨fun _ => by rw [if_pos (.inl g)] at k; exact k, fun h => by cases h⟩, fun g => ⟨fun g2 => by rw [if_pos (.inr g2)] at k; exact k, fun g2 => hb (by omega)⟩⟩
def escL : List UInt8 → List UInt8
  | [] => []
  | b :: r => if b = 0 then 0 :: 255 :: escL r else b :: escL r
theorem escL_snoc (b : UInt8) : ∀ l, escL (l ++ [b]) = escL l ++ (if b = 0 then [0, 255] else [b])
  | [] => by by_cases h : b = 0 <;> simp [escL, h]
  | x :: r => by simp only [List.cons_append, escL, escL_snoc b r]; split <;> simp
theorem escL_len : ∀ l : List UInt8, (escL l).length ≤ 2 * l.length
  | [] => by simp [escL]
  | b :: r => by have := escL_len r; simp only [escL]; split <;> simp <;> omega
def beT (u : Nat) : Nat → List UInt8
  | 0 => []
  | j + 1 => UInt8.ofNat (u / 2 ^ (8 * j)) :: beT u j
theorem beT_len (u : Nat) : ∀ j, (beT u j).length = j
  | 0 => rfl
  | j + 1 => by simp [beT, beT_len u j]
def upU (n : Int) : Nat := (IntKind.wrap .u64 (IntKind.wrap .u64 n + 9223372036854775808)).toNat
def keyL (c : Cel) : List UInt8 := UInt8.ofNat c.View.toNat :: (escL c.Key.data.toList ++ [0, 1] ++ beT (upU c.Start) 8)
theorem wrap_u64 (n : Int) : IntKind.wrap .u64 n = n % 18446744073709551616 := by
  unfold IntKind.wrap; simp [IntKind.bits, IntKind.signed]
theorem wrap_u8 (n : Int) : IntKind.wrap .u8 n = n % 256 := by
  unfold IntKind.wrap; simp [IntKind.bits, IntKind.signed]
theorem upU_eq (n : Int) : ((upU n : Nat) : Int) = IntKind.wrap .u64 (IntKind.wrap .u64 n + 9223372036854775808) := by
  unfold upU
  rw [Int.toNat_of_nonneg]
  rw [wrap_u64]; omega
theorem fdiv_pow (u i : Nat) : Int.fdiv (u : Int) (2 ^ i : Int) = ((u / 2 ^ i : Nat) : Int) := by
  have e : (2 ^ i : Int) = ((2 ^ i : Nat) : Int) := by simp
  rw [e, Int.ofNat_fdiv]
theorem u8_of (n : Nat) : ((UInt8.ofNat n).toNat : Int) = IntKind.wrap .u8 (n : Int) := by
  rw [wrap_u8]; simp
theorem key_tail {h0 : H} {u : Nat} {Q : ByteArray → Int → H → Prop} {L0 : List UInt8} (hL0 : L0.length ≤ 1000) (k : ∀ h', Ext h0 h' → Q ⟨(L0 ++ beT u 8).toArray⟩ 0 h') :
    ∀ (j m : Nat) (h : H) (s : Sl) (L : List UInt8), j ≤ 8 → j < m → Ext h0 h → Owns h s 5 1 (L.flatMap cU) → Mine h0 s → L ++ beT u j = L0 ++ beT u 8 → F.merge_Key.l2 Q m s (u : Int) (8 * (j : Int) - 8) h
  | j, 0, h, s, L, _, hm, _, _, _, _ => by omega
  | j, m + 1, h, s, L, hj, hm, e0, ow, mi, hL => by
    unfold F.merge_Key.l2
    simp only [decide_eq_true_eq, decide_eq_false_iff_not]
    have hlen : L.length + j = L0.length + 8 := by have := congrArg List.length hL; simpa [beT_len] using this
    refine ⟨fun g => ⟨g, ?_⟩, fun g => ?_⟩
    · obtain ⟨i, rfl⟩ : ∃ i, j = i + 1 := ⟨j - 1, by omega⟩
      have hb : IntKind.wrap .u8 (Int.fdiv (u : Int) (2 ^ (min (8 * ((i + 1 : Nat) : Int) - 8).toNat (IntKind.bits .u64)) : Int)) = ((UInt8.ofNat (u / 2 ^ (8 * i))).toNat : Int) := by
        rw [u8_of, show (8 * ((i + 1 : Nat) : Int) - 8).toNat = 8 * i from by omega, show min (8 * i) (IntKind.bits .u64) = 8 * i from by simp [IntKind.bits]; omega]
        rw [fdiv_pow]
      rw [hb]
      refine push_mine (f := cU) (UInt8.ofNat (u / 2 ^ (8 * i))) e0 mi cU_len (by omega) elU ow cU_one (by omega) fun r h1 q1 q2 q3 q4 q5 => ?_
      rw [w64 (by omega) (by omega), show 8 * ((i + 1 : Nat) : Int) - 8 - 8 = 8 * (i : Int) - 8 from by omega]
      refine key_tail hL0 k i m h1 r _ (by omega) (by omega) q2 q1 q3 ?_
      rw [← hL]; simp [beT]
    · have : j = 0 := by omega
      subst this
      refine cvtT_of (l := L) Try.underlying47 Try.underlying5 Try.underlying9 ow.reads ?_
      have : L = L0 ++ beT u 8 := by simpa [beT] using hL
      rw [this]; exact k h e0
theorem key_loop {h0 : H} {c : Cel} {n : Nat} {Q : ByteArray → Int → H → Prop} {pre : UInt8} (hk : c.Key.size ≤ 32) (k : ∀ h', Ext h0 h' → Q ⟨(pre :: (escL c.Key.data.toList ++ [0, 1] ++ beT (upU c.Start) 8)).toArray⟩ 0 h') (hn : h0.size ≤ n) :
    ∀ (m i : Nat) (h : H) (s : Sl), i ≤ c.Key.size → c.Key.size - i < m → Ext h0 h → Blk h n c.cells.toArray 34 → n < h.size → Owns h s 5 1 ((pre :: escL (c.Key.data.toList.take i)).flatMap cU) → Mine h0 s → s.blk ≠ some n →
    F.merge_Key.l1 Q m ⟨n, 0, none⟩ s (c.Key.size : Int) (i : Int) h
  | 0, i, h, s, _, hm, _, _, _, _, _, _ => by omega
  | m + 1, i, h, s, hi, hm, e0, bl, hnl, ow, mi, hne => by
    unfold F.merge_Key.l1
    simp only [decide_eq_true_eq, decide_eq_false_iff_not, add_lit, Nat.zero_add]
    have hel := escL_len (c.Key.data.toList.take i)
    rw [List.length_take, ← size_data] at hel
    refine ⟨fun g => ?_, fun g => ?_⟩
    · rw [ldS_iff (bl.cell (i := 1) (v := .string c.Key) rfl)]
      obtain ⟨b, hb⟩ : ∃ b, c.Key.data.toList[i]? = some b := ⟨_, List.getElem?_eq_getElem (by rw [← size_data]; omega)⟩
      refine idxS_of hb rfl ?_
      have htk : escL (c.Key.data.toList.take (i + 1)) = escL (c.Key.data.toList.take i) ++ (if b = 0 then [0, 255] else [b]) := by rw [List.take_add_one, hb]; exact escL_snoc b _
      refine push_mine (f := cU) b e0 mi cU_len (by omega) elU ow cU_one (by simp; omega) fun r h1 q1 q2 q3 q4 q5 => ?_
      have bl1 : Blk h1 n c.cells.toArray 34 := q4.block bl hne
      have hg1 := q4.size
      have hne1 : r.blk ≠ some n := by
        rcases q5 with q5 | ⟨x, q5, q6⟩
        · rw [q5]; exact hne
        · rw [q5]; intro e; cases e; omega
      rw [ldS_iff (bl1.cell (i := 1) (v := .string c.Key) rfl)]
      refine idxS_of hb rfl ?_
      have hw : IntKind.wrap .i64 ((i : Int) + 1) = ((i + 1 : Nat) : Int) := by rw [w64 (by omega) (by omega)]; omega
      rw [hw, beq_iff_eq, beq_eq_false_iff_ne]
      have hb0 : (b.toNat : Int) = 0 ↔ b = 0 := by
        constructor
        · intro h; exact UInt8.toNat_inj.1 (by simpa using (by omega : b.toNat = 0))
        · intro h; subst h; rfl
      rw [hb0, Ne, hb0]
      refine ⟨fun g2 => ?_, fun g2 => ?_⟩
      · refine push_mine (f := cU) 255 q2 q3 cU_len (by omega) elU q1 cU_one (by simp; omega) fun r2 h2 p1 p2 p3 p4 p5 => ?_
        have hne2 : r2.blk ≠ some n := by
          rcases p5 with p5 | ⟨x, p5, p6⟩
          · rw [p5]; exact hne1
          · rw [p5]; intro e; cases e; omega
        refine key_loop hk k hn m (i + 1) h2 r2 (by omega) (by omega) p2 (p4.block bl1 hne1) (by have := p4.size; omega) ?_ p3 hne2
        rw [htk, if_pos g2]; subst g2; simpa using p1
      · refine key_loop hk k hn m (i + 1) h1 r (by omega) (by omega) q2 bl1 (by omega) ?_ q3 hne1
        rw [htk, if_neg g2]; simpa using q1
    · have hii : i = c.Key.size := by omega
      subst hii
      refine newL_of fun x h1 e1 e2 e3 e4 => ?_
      refine app_mine (f := cU) (M := [0, 1]) (e0.trans e3) mi cU_len (by omega) elU (ow.ext e3) (blk_reads (show Blk h1 x (([0, 1] : List UInt8).flatMap cU).toArray 5 from e2) rfl) cU_one (by simp; omega) fun r h2 q1 q2 q3 q4 q5 => ?_
      have bl1 : Blk h2 n c.cells.toArray 34 := q4.block (e3.block bl (fun f => f)) hne
      rw [ldI_iff (bl1.cell (i := 2) (v := .int .i64 c.Start) rfl), ← upU_eq]
      refine ⟨9, ?_⟩
      have ht : c.Key.data.toList.take c.Key.size = c.Key.data.toList := List.take_of_length_le (by rw [← size_data]; omega)
      rw [ht] at q1
      have hl2 := escL_len c.Key.data.toList
      rw [← size_data] at hl2
      refine key_tail (L0 := pre :: (escL c.Key.data.toList ++ [0, 1])) (by simp; omega) (by simpa using k) 8 9 h2 r _ (by omega) (by omega) q2 q1 q3 (by simp)
theorem Key_spec {h : H} {c : Cel} {Q : ByteArray → Int → H → Prop} (k0 : mayC c ≠ 0 → ∀ h', Ext h h' → Q ⟨#[]⟩ (mayC c) h') (k1 : mayC c = 0 → ∀ h', Ext h h' → Q ⟨(keyL c).toArray⟩ 0 h') : F.merge_Key c h Q := by
  unfold F.merge_Key
  refine new_of fun n h1 e1 e2 e3 e4 => ?_
  refine ⟨c, e2.cells3, mayC_spec fun h2 f1 => ?_⟩
  have e5 := e3.trans f1
  have bl : Blk h2 n c.cells.toArray 34 := f1.block e2 (fun f => f)
  refine ⟨fun g => k0 (by simpa using g) h2 e5, fun g => ?_⟩
  have hm : mayC c = 0 := by simpa using g
  simp only [add_lit, Nat.zero_add]
  rw [ldI_iff (bl.cell (i := 0) (v := .int .i64 c.View) rfl)]
  have hv : 0 ≤ c.View ∧ c.View ≤ 4 ∧ c.Key.size ≤ 32 := by
    unfold mayC at hm
    split at hm
    · omega
    · split at hm
      · omega
      · omega
  have hw : IntKind.wrap .u8 c.View = ((UInt8.ofNat c.View.toNat).toNat : Int) := by rw [u8_of, Int.toNat_of_nonneg hv.1]
  rw [hw]
  refine newL_of fun x h3 g1 g2 g3 g4 => ?_
  have bl3 : Blk h3 n c.cells.toArray 34 := g3.block bl (fun f => f)
  rw [ldS_iff (bl3.cell (i := 1) (v := .string c.Key) rfl)]
  have hs := e5.size
  have hs3 := e3.size
  have hf1 := f1.size
  refine ⟨c.Key.size + 1, ?_⟩
  refine key_loop (h0 := h) (pre := UInt8.ofNat c.View.toNat) hv.2.2 (fun h' e => k1 hm h' e) (by omega) _ 0 h3 _ (by omega) (by omega) (e5.trans g3) bl3 (by omega) (show Owns h3 ⟨some ⟨x, 0, none⟩, 1, 1⟩ 5 1 [.int .u8 ((UInt8.ofNat c.View.toNat).toNat : Int)] from blk_owns (m := 1) g2 rfl (by simp [maxLen])) (fun b hb => by simp [Sl.blk] at hb; omega) (by simp [Sl.blk]; omega)
end Go.Proofs.Ytidpbnbjpglhfaa.V
namespace Go.Proofs.Ytidpbnbjpglhfaa.V
open Go
set_option linter.unusedVariables false
set_option linter.unusedSimpArgs false
/-- The key's letters, and what lies behind them; or the error. -/
def unesc : List UInt8 → Except Int (List UInt8 × List UInt8)
  | [] => .error 11
  | b :: r => if b ≠ 0 then (match unesc r with | .ok p => .ok (b :: p.1, p.2) | .error e => .error e) else
    match r with
    | [] => .error 11
    | x :: r' => if x = 1 then .ok ([], r') else if x ≠ 255 then .error 12 else (match unesc r' with | .ok p => .ok (0 :: p.1, p.2) | .error e => .error e)
def beV : Nat → List UInt8 → Nat
  | u, [] => u
  | u, b :: r => beV (u * 256 + b.toNat) r
def zeroC : Cel := ⟨0, ⟨#[]⟩, 0⟩
def startOf (u : Nat) : Int := IntKind.wrap .i64 (IntKind.wrap .u64 ((u : Int) - 9223372036854775808))
def finC (v : UInt8) (key t : List UInt8) : Cel × Int :=
  if t.length < 8 then (zeroC, 11) else if t.length > 8 then (zeroC, 13) else
  if mayC ⟨(v.toNat : Int), ⟨key.toArray⟩, startOf (beV 0 t)⟩ ≠ 0 then (zeroC, mayC ⟨(v.toNat : Int), ⟨key.toArray⟩, startOf (beV 0 t)⟩) else (⟨(v.toNat : Int), ⟨key.toArray⟩, startOf (beV 0 t)⟩, 0)
def cellM : List UInt8 → Cel × Int
  | [] => (zeroC, 11)
  | v :: r => match unesc r with
    | .error e => (zeroC, e)
    | .ok p => finC v p.1 p.2
theorem unesc_ne {b : UInt8} {r : List UInt8} (h : b ≠ 0) : unesc (b :: r) = (match unesc r with | .ok p => .ok (b :: p.1, p.2) | .error e => .error e) := by
  rw [unesc.eq_def]; simp only [if_pos h]
theorem cellM_cons (v : UInt8) (r : List UInt8) : cellM (v :: r) = (match unesc r with | .error e => (zeroC, e) | .ok p => finC v p.1 p.2) := rfl
theorem or_byte {u : Nat} {b : UInt8} (hu : u < 72057594037927936) : bitsOf .or .u64 (IntKind.wrap .u64 ((u : Int) * (2 ^ (min (8 : Int).toNat (IntKind.bits .u64)) : Int))) (IntKind.wrap .u64 (b.toNat : Int)) = ((u * 256 + b.toNat : Nat) : Int) := by
  have hb : b.toNat < 256 := b.toNat_lt
  have e1 : IntKind.wrap .u64 ((u : Int) * (2 ^ (min (8 : Int).toNat (IntKind.bits .u64)) : Int)) = ((u * 256 : Nat) : Int) := by
    rw [show (2 ^ (min (8 : Int).toNat (IntKind.bits .u64)) : Int) = 256 from by simp [IntKind.bits], wrap_u64]; omega
  have e2 : IntKind.wrap .u64 (b.toNat : Int) = ((b.toNat : Nat) : Int) := by rw [wrap_u64]; omega
  rw [e1, e2]
  simp only [bitsOf]
  rw [BitVec.ofInt_natCast, BitVec.ofInt_natCast, BitVec.toNat_or, BitVec.toNat_ofNat, BitVec.toNat_ofNat, wrap_u64]
  have e3 : u * 256 % 2 ^ (IntKind.bits .u64) = u * 256 := Nat.mod_eq_of_lt (by simp [IntKind.bits]; omega)
  have e4 : b.toNat % 2 ^ (IntKind.bits .u64) = b.toNat := Nat.mod_eq_of_lt (by simp [IntKind.bits]; omega)
  rw [e3, e4]
  have e5 : u * 256 ||| b.toNat = u * 256 + b.toNat := by
    have := Nat.two_pow_add_eq_or_of_lt (i := 8) hb u
    rw [show (2 : Nat) ^ 8 * u = u * 256 from by omega] at this
    exact this.symm
  rw [e5]; omega
theorem st_cell {h : H} {n : Nat} {c d : Cel} {K : H → Prop} (b : Blk h n c.cells.toArray 34) (k : ∀ h', Blk h' n d.cells.toArray 34 → Only (· = n) h h' → h'.size = h.size → K h') : stH h ⟨n, 0, none⟩ d.cells K :=
  stH_of b (by simp [S_api_Cell.cells]) fun h' q1 q2 q3 => k h' (by rw [writeA_all (by simp [S_api_Cell.cells])] at q1; exact q1) q2 q3
theorem st_key {h : H} {n : Nat} {c : Cel} {s : ByteArray} {K : H → Prop} (b : Blk h n c.cells.toArray 34) (k : ∀ h', Blk h' n (⟨c.View, s, c.Start⟩ : Cel).cells.toArray 34 → Only (· = n) h h' → h'.size = h.size → K h') : stH h ⟨n, 1, none⟩ [.string s] K :=
  stH_of b (by simp [S_api_Cell.cells]) fun h' q1 q2 q3 => k h' (by
    have : writeA (S_api_Cell.cells c).toArray 1 [.string s] = (⟨c.View, s, c.Start⟩ : Cel).cells.toArray := by simp [writeA, S_api_Cell.cells]
    rw [this] at q1; exact q1) q2 q3
theorem st_start {h : H} {n : Nat} {c : Cel} {u : Int} {K : H → Prop} (b : Blk h n c.cells.toArray 34) (k : ∀ h', Blk h' n (⟨c.View, c.Key, u⟩ : Cel).cells.toArray 34 → Only (· = n) h h' → h'.size = h.size → K h') : stH h ⟨n, 2, none⟩ [.int .i64 u] K :=
  stH_of b (by simp [S_api_Cell.cells]) fun h' q1 q2 q3 => k h' (by
    have : writeA (S_api_Cell.cells c).toArray 2 [.int .i64 u] = (⟨c.View, c.Key, u⟩ : Cel).cells.toArray := by simp [writeA, S_api_Cell.cells]
    rw [this] at q1; exact q1) q2 q3
/-- An error is told. -/
theorem told_err {h0 h : H} {n : Nat} {c : Cel} {e : Int} {Q : Cel → Int → H → Prop} (k : ∀ h', Ext h0 h' → Q zeroC e h') (e0 : Ext h0 h) (hn : h0.size ≤ n) (b : Blk h n c.cells.toArray 34) :
    stH h ⟨n, 0, none⟩ ((⟨0, (⟨#[]⟩ : ByteArray), 0⟩ : S_api_Cell).cells) fun h13 => ld_S_api_Cell h13 ⟨n, 0, none⟩ fun y14 => Q y14 e h13 :=
  st_cell b fun h' q1 q2 q3 => ⟨zeroC, q1.cells3, k h' (e0.step q2 fun m hm e => by omega)⟩
theorem cell_tail {h0 : H} {str : ByteArray} {n2 n4 : Nat} {Q : Cel → Int → H → Prop} {v : UInt8} {key : List UInt8} (hs : str.size < 1000000000000000000) (hn2 : h0.size ≤ n2) (hn4 : h0.size ≤ n4) (hne : n2 ≠ n4) {U : Nat}
    (k : ∀ h', Ext h0 h' → Q (if mayC ⟨(v.toNat : Int), ⟨key.toArray⟩, startOf U⟩ ≠ 0 then (zeroC, mayC ⟨(v.toNat : Int), ⟨key.toArray⟩, startOf U⟩) else (⟨(v.toNat : Int), ⟨key.toArray⟩, startOf U⟩, 0)).1 (if mayC ⟨(v.toNat : Int), ⟨key.toArray⟩, startOf U⟩ ≠ 0 then (zeroC, mayC ⟨(v.toNat : Int), ⟨key.toArray⟩, startOf U⟩) else ((⟨(v.toNat : Int), ⟨key.toArray⟩, startOf U⟩ : Cel), 0)).2 h') :
    ∀ (m i u : Nat) (h : H) (s : Sl) (c2 : Cel), Ext h0 h → i ≤ str.size → str.size ≤ i + 8 → u < 256 ^ (i + 8 - str.size) → beV u (str.data.toList.drop i) = U → str.size - i < m → Blk h n2 c2.cells.toArray 34 → Blk h n4 (⟨(v.toNat : Int), ⟨#[]⟩, 0⟩ : Cel).cells.toArray 34 → Reads h s 1 (key.flatMap cU) →
    F.merge_Cell.l2 Q m str ⟨n2, 0, none⟩ ⟨n4, 0, none⟩ (i : Int) s (u : Int) h
  | 0, i, u, h, s, c2, _, _, _, _, _, hm, _, _, _ => by omega
  | m + 1, i, u, h, s, c2, e0, hi, hi8, hu, hU, hm, b2, b4, rd => by
    unfold F.merge_Cell.l2
    simp only [decide_eq_true_eq, decide_eq_false_iff_not]
    refine ⟨fun g => ⟨by omega, ?_⟩, fun g => ?_⟩
    · obtain ⟨b, hb⟩ : ∃ b, str.data.toList[i]? = some b := ⟨_, List.getElem?_eq_getElem (by rw [← size_data]; omega)⟩
      refine idxS_of hb rfl ?_
      have hd : str.data.toList.drop i = b :: str.data.toList.drop (i + 1) := by
        obtain ⟨hh, rfl⟩ := List.getElem?_eq_some_iff.1 hb
        exact List.drop_eq_getElem_cons hh
      rw [hd, beV] at hU
      have hp : 256 ^ (i + 8 - str.size) ≤ 256 ^ 7 := Nat.pow_le_pow_right (by omega) (by omega)
      rw [or_byte (by have : (256 : Nat) ^ 7 = 72057594037927936 := by decide
                      omega), show IntKind.wrap .i64 ((i : Int) + 1) = ((i + 1 : Nat) : Int) from by rw [w64 (by omega) (by omega)]; omega]
      have hbl := b.toNat_lt
      refine cell_tail hs hn2 hn4 hne k m (i + 1) _ h s c2 e0 (by omega) (by omega) ?_ hU (by omega) b2 b4 rd
      rw [show i + 1 + 8 - str.size = (i + 8 - str.size) + 1 from by omega, Nat.pow_succ]
      have : (u + 1) * 256 ≤ 256 ^ (i + 8 - str.size) * 256 := Nat.mul_le_mul_right _ hu
      omega
    · have hii : i = str.size := by omega
      subst hii
      have hd : str.data.toList.drop str.size = [] := List.drop_eq_nil_of_le (by rw [← size_data]; omega)
      rw [hd, beV] at hU
      subst hU
      refine cvtT_of (l := key) Try.underlying47 Try.underlying5 Try.underlying9 rd ?_
      simp only [add_lit, Nat.zero_add]
      refine st_key b4 fun h1 p1 p2 p3 => st_start p1 fun h2 p4 p5 p6 => ?_
      have e2 : Ext h0 h2 := (e0.step p2 fun m hm e => by omega).step p5 fun m hm e => by omega
      have b22 : Blk h2 n2 c2.cells.toArray 34 := p5.block (p2.block b2 hne) hne
      refine ⟨_, p4.cells3, mayC_spec fun h3 f1 => ?_⟩
      have b23 : Blk h3 n2 c2.cells.toArray 34 := f1.block b22 (fun f => f)
      have e3 := e2.trans f1
      refine ⟨fun g2 => ?_, fun g2 => ?_⟩
      · have g2 : mayC ⟨(v.toNat : Int), ⟨key.toArray⟩, startOf u⟩ ≠ 0 := by simpa [startOf] using g2
        simp only [if_pos g2] at k
        exact told_err k e3 hn2 b23
      · have g2 : ¬ mayC ⟨(v.toNat : Int), ⟨key.toArray⟩, startOf u⟩ ≠ 0 := by simpa [startOf] using g2
        simp only [if_neg g2] at k
        refine ⟨_, Blk.cells3 (c := ⟨(v.toNat : Int), ⟨key.toArray⟩, startOf u⟩) (f1.block p4 (fun f => f)), ?_⟩
        exact st_cell b23 fun h4 q1 q2 q3 => ⟨_, q1.cells3, k h4 (e3.step q2 fun m hm e => by omega)⟩
theorem cell_loop {h0 : H} {str : ByteArray} {n2 n4 : Nat} {Q : Cel → Int → H → Prop} {v : UInt8} (hs : str.size < 140737488355328) (hn2 : h0.size ≤ n2) (hn4 : h0.size ≤ n4) (hne : n2 ≠ n4) :
    ∀ (m i : Nat) (h : H) (s : Sl) (acc : List UInt8), (∀ h', Ext h0 h' → Q (match unesc (str.data.toList.drop i) with | .error e => (zeroC, e) | .ok p => finC v (acc ++ p.1) p.2).1 (match unesc (str.data.toList.drop i) with | .error e => (zeroC, e) | .ok p => finC v (acc ++ p.1) p.2).2 h') →
    Ext h0 h → i ≤ str.size → acc.length ≤ i → str.size - i < m → Blk h n2 zeroC.cells.toArray 34 → Blk h n4 (⟨(v.toNat : Int), ⟨#[]⟩, 0⟩ : Cel).cells.toArray 34 → Owns h s 5 1 (acc.flatMap cU) → Mine h0 s → s.blk ≠ some n2 → s.blk ≠ some n4 → n2 < h.size → n4 < h.size →
    F.merge_Cell.l1 Q m str ⟨n2, 0, none⟩ ⟨n4, 0, none⟩ (i : Int) s h
  | 0, i, h, s, acc, _, _, _, _, hm, _, _, _, _, _, _, _, _ => by omega
  | m + 1, i, h, s, acc, k, e0, hi, hacc, hm, b2, b4, ow, mi, hne2, hne4, hl2, hl4 => by
    unfold F.merge_Cell.l1
    rw [beq_iff_eq, beq_eq_false_iff_ne]
    refine ⟨fun g => ?_, fun g => ?_⟩
    · have hd : str.data.toList.drop i = [] := List.drop_eq_nil_of_le (by rw [← size_data]; omega)
      rw [hd] at k
      exact told_err k e0 hn2 b2
    · obtain ⟨b, hb⟩ : ∃ b, str.data.toList[i]? = some b := ⟨_, List.getElem?_eq_getElem (by rw [← size_data]; omega)⟩
      have hd : str.data.toList.drop i = b :: str.data.toList.drop (i + 1) := by
        obtain ⟨hh, rfl⟩ := List.getElem?_eq_some_iff.1 hb
        exact List.drop_eq_getElem_cons hh
      have hb0 : (b.toNat : Int) = 0 ↔ b = 0 := by
        constructor
        · intro h; exact UInt8.toNat_inj.1 (by simpa using (by omega : b.toNat = 0))
        · intro h; subst h; rfl
      rw [hd] at k
      refine idxS_of hb rfl ?_
      rw [bne_iff_ne, bne_eq_false_iff_eq, Ne, hb0]
      refine ⟨fun g1 => idxS_of hb rfl ?_, fun g1 => ?_⟩
      · refine push_mine (f := cU) b e0 mi cU_len (by omega) elU ow cU_one (by omega) fun r h1 q1 q2 q3 q4 q5 => ?_
        have hrr : ∀ x, x < h.size → s.blk ≠ some x → r.blk ≠ some x := fun x hx hsx => by
          rcases q5 with q5 | ⟨y, q5, q6⟩
          · rw [q5]; exact hsx
          · rw [q5]; intro e; cases e; omega
        rw [show IntKind.wrap .i64 ((i : Int) + 1) = ((i + 1 : Nat) : Int) from by rw [w64 (by omega) (by omega)]; omega]
        refine cell_loop hs hn2 hn4 hne m (i + 1) h1 r (acc ++ [b]) (fun h' e => ?_) q2 (by omega) (by simp; omega) (by omega) (q4.block b2 hne2) (q4.block b4 hne4) q1 q3 (hrr n2 hl2 hne2) (hrr n4 hl4 hne4) (by have := q4.size; omega) (by have := q4.size; omega)
        have k := k h' e
        rw [unesc_ne g1] at k
        cases hu : unesc (str.data.toList.drop (i + 1)) with
        | error x => rw [hu] at k; exact k
        | ok p => rw [hu] at k; simpa using k
      · have g1 : b = 0 := Classical.not_not.1 (by simpa using g1)
        subst g1
        rw [w64 (n := (i : Int) + 1) (by omega) (by omega), w64 (n := (i : Int) + 2) (by omega) (by omega), beq_iff_eq, beq_eq_false_iff_ne]
        refine ⟨fun g2 => ?_, fun g2 => ?_⟩
        · have hd1 : str.data.toList.drop (i + 1) = [] := List.drop_eq_nil_of_le (by rw [← size_data]; omega)
          rw [hd1] at k
          exact told_err k e0 hn2 b2
        · obtain ⟨x, hx⟩ : ∃ b, str.data.toList[i + 1]? = some b := ⟨_, List.getElem?_eq_getElem (by rw [← size_data]; omega)⟩
          have hd1 : str.data.toList.drop (i + 1) = x :: str.data.toList.drop (i + 2) := by
            obtain ⟨hh, rfl⟩ := List.getElem?_eq_some_iff.1 hx
            exact List.drop_eq_getElem_cons hh
          have hx1 : (x.toNat : Int) = 1 ↔ x = 1 := by
            constructor
            · intro h; exact UInt8.toNat_inj.1 (by simpa using (by omega : x.toNat = 1))
            · intro h; subst h; rfl
          have hx2 : (x.toNat : Int) = 255 ↔ x = 255 := by
            constructor
            · intro h; exact UInt8.toNat_inj.1 (by simpa using (by omega : x.toNat = 255))
            · intro h; subst h; rfl
          rw [hd1] at k
          have hun : unesc (0 :: x :: str.data.toList.drop (i + 2)) = if x = 1 then .ok ([], str.data.toList.drop (i + 2)) else if x ≠ 255 then .error 12 else (match unesc (str.data.toList.drop (i + 2)) with | .ok p => .ok (0 :: p.1, p.2) | .error e => .error e) := by
            rw [unesc]; simp
          rw [hun] at k
          have hlen : (str.data.toList.drop (i + 2)).length = str.size - (i + 2) := by rw [List.length_drop, ← size_data]
          refine idxS_of hx (by rw [w64 (by omega) (by omega)]; omega) ?_
          rw [beq_iff_eq, beq_eq_false_iff_ne, Ne, hx1]
          refine ⟨fun g3 => ?_, fun g3 => ?_⟩
          · rw [if_pos g3] at k
            simp only [List.append_nil] at k
            unfold finC at k
            rw [hlen] at k
            rw [w64 (by omega) (by omega)]
            simp only [decide_eq_true_eq, decide_eq_false_iff_not]
            refine ⟨fun g4 => ?_, fun g4 => ⟨fun g5 => ?_, fun g5 => ⟨str.size + 1, ?_⟩⟩⟩
            · rw [if_pos (by omega)] at k; exact told_err k e0 hn2 b2
            · rw [if_neg (by omega), if_pos (by omega)] at k; exact told_err k e0 hn2 b2
            · rw [if_neg (by omega), if_neg (by omega)] at k
              rw [show (i : Int) + 2 = ((i + 2 : Nat) : Int) from by omega]
              exact cell_tail (by omega) hn2 hn4 hne k (str.size + 1) (i + 2) 0 h s zeroC e0 (by omega) (by omega) (Nat.pos_of_ne_zero (by exact Nat.pos_iff_ne_zero.1 (Nat.pow_pos (by omega)))) rfl (by omega) b2 b4 ow.reads
          · rw [if_neg g3] at k
            refine idxS_of hx (by rw [w64 (by omega) (by omega)]; omega) ?_
            rw [bne_iff_ne, bne_eq_false_iff_eq, Ne, hx2]
            refine ⟨fun g4 => ?_, fun g4 => ?_⟩
            · rw [if_pos g4] at k; exact told_err k e0 hn2 b2
            · have g4 : x = 255 := Classical.not_not.1 (by simpa using g4)
              rw [if_neg (by simpa using g4)] at k
              refine push_mine (f := cU) 0 e0 mi cU_len (by omega) elU ow cU_one (by omega) fun r h1 q1 q2 q3 q4 q5 => ?_
              have hrr : ∀ x, x < h.size → s.blk ≠ some x → r.blk ≠ some x := fun x hx hsx => by
                rcases q5 with q5 | ⟨y, q5, q6⟩
                · rw [q5]; exact hsx
                · rw [q5]; intro e; cases e; omega
              rw [show (i : Int) + 2 = ((i + 2 : Nat) : Int) from by omega]
              refine cell_loop hs hn2 hn4 hne m (i + 2) h1 r (acc ++ [0]) (fun h' e => ?_) q2 (by omega) (by simp; omega) (by omega) (q4.block b2 hne2) (q4.block b4 hne4) q1 q3 (hrr n2 hl2 hne2) (hrr n4 hl4 hne4) (by have := q4.size; omega) (by have := q4.size; omega)
              have k := k h' e
              cases hu : unesc (str.data.toList.drop (i + 2)) with
              | error x => rw [hu] at k; exact k
              | ok p => rw [hu] at k; simpa using k
theorem Cell_spec {h : H} {str : ByteArray} {Q : Cel → Int → H → Prop} (hs : str.size < 140737488355328) (k : ∀ h', Ext h h' → Q (cellM str.data.toList).1 (cellM str.data.toList).2 h') : F.merge_Cell str h Q := by
  unfold F.merge_Cell
  refine new_of fun n h1 e1 e2 e3 e4 => ?_
  have hs1 := e3.size
  rw [beq_iff_eq, beq_eq_false_iff_ne, toList_data, toList_data]
  refine ⟨fun g => ?_, fun g => ?_⟩
  · have g : str.data.toList = [] := g
    rw [g] at k
    exact told_err k e3 (by omega) (c := zeroC) e2
  · obtain ⟨v, r, hv⟩ : ∃ v r, str.data.toList = v :: r := by
      cases hh : str.data.toList with
      | nil => exact absurd hh g
      | cons v r => exact ⟨v, r, rfl⟩
    have hsz : 0 < str.size := by rw [size_data, hv]; simp
    refine idxS_of (i := 0) (b := v) (by rw [hv]; rfl) rfl ?_
    refine new_of fun n4 h2 f1 f2 f3 f4 => ?_
    have hs2 := f3.size
    refine st_cell (c := zeroC) (d := ⟨IntKind.wrap .i64 (v.toNat : Int), ⟨#[]⟩, 0⟩) f2 fun h3 q1 q2 q3 => ?_
    have hbl := v.toNat_lt
    rw [w64 (by omega) (by omega)] at q1
    refine ⟨str.size + 1, ?_⟩
    refine cell_loop (v := v) hs (n2 := n) (n4 := n4) (h0 := h) (by omega) (by omega) (by omega) _ 1 h3 _ [] (fun h' e => ?_) ((e3.trans f3).step q2 fun m hm e => by omega) (by omega) (by simp) (by omega) (q2.block (f3.block e2 (fun f => f)) (by omega)) q1 (Owns.nil _ _ _) (Mine.nil _ _ _) (by simp [Sl.blk]) (by simp [Sl.blk]) (by omega) (by omega)
    have k := k h' e
    rw [hv, cellM_cons] at k
    rw [show str.data.toList.drop 1 = r from by rw [hv]; rfl]
    cases hu : unesc r with
    | error x => rw [hu] at k; exact k
    | ok p => rw [hu] at k; simpa using k
end Go.Proofs.Ytidpbnbjpglhfaa.V
namespace Go.Proofs.Ytidpbnbjpglhfaa.V
open Go
set_option linter.unusedVariables false
set_option linter.unusedSimpArgs false
section
variable {α : Type} [DecidableEq α]
def addM (out : List α) (x : α) : List α := if out.getLast? = some x then out else out ++ [x]
def twoM (le : α → α → Bool) : Nat → List α → List α → List α → List α
  | 0, out, _, _ => out
  | n + 1, out, [], [] => out
  | n + 1, out, x :: a, [] => twoM le n (addM out x) a []
  | n + 1, out, [], y :: b => twoM le n (addM out y) [] b
  | n + 1, out, x :: a, y :: b => if le x y then twoM le n (addM out x) a (y :: b) else twoM le n (addM out y) (x :: a) b
def listsM (le : α → α → Bool) : Nat → List (List α) → List α
  | 0, _ => []
  | n + 1, [] => []
  | n + 1, [a] => twoM le a.length [] a []
  | n + 1, a :: b :: r => let l := listsM le n ((a :: b :: r).take ((a :: b :: r).length / 2)); let k := listsM le n ((a :: b :: r).drop ((a :: b :: r).length / 2)); twoM le (l.length + k.length) [] l k
theorem listsM_fuel (le : α → α → Bool) : ∀ (n m : Nat) (LL : List (List α)), LL.length < n → LL.length < m → listsM le n LL = listsM le m LL
  | 0, m, LL, hn, _ => by omega
  | n, 0, LL, _, hm => by omega
  | n + 1, m + 1, [], _, _ => rfl
  | n + 1, m + 1, [a], _, _ => rfl
  | n + 1, m + 1, a :: b :: r, hn, hm => by
    simp only [List.length_cons] at hn hm
    have h1 := listsM_fuel le n m ((a :: b :: r).take ((a :: b :: r).length / 2)) (by simp; omega) (by simp; omega)
    have h2 := listsM_fuel le n m ((a :: b :: r).drop ((a :: b :: r).length / 2)) (by simp; omega) (by simp; omega)
    simp only [listsM, h1, h2]
theorem addM_len (out : List α) (x : α) : (addM out x).length ≤ out.length + 1 := by unfold addM; split <;> simp
theorem twoM_len (le : α → α → Bool) : ∀ (n : Nat) (out a b : List α), (twoM le n out a b).length ≤ out.length + n
  | 0, out, _, _ => by simp [twoM]
  | n + 1, out, [], [] => by simp [twoM]
  | n + 1, out, x :: a, [] => by have := twoM_len le n (addM out x) a []; have := addM_len out x; simp only [twoM]; omega
  | n + 1, out, [], y :: b => by have := twoM_len le n (addM out y) [] b; have := addM_len out y; simp only [twoM]; omega
  | n + 1, out, x :: a, y :: b => by
    have := twoM_len le n (addM out x) a (y :: b); have := addM_len out x
    have := twoM_len le n (addM out y) (x :: a) b; have := addM_len out y
    simp only [twoM]; split <;> omega
end
abbrev cS (s : Sl) : List Value := [s.enc]
theorem cS_len (s : Sl) : (cS s).length = 1 := rfl
abbrev leI (x y : Int) : Bool := decide (x ≤ y)
theorem elI : El PP 23 3 1 8 (.int .i64 0) := ⟨Try.underlying23, ⟨Try.t3, by kernel_rfl, by kernel_rfl, by kernel_rfl, by kernel_rfl⟩, rfl, by omega, by omega⟩
theorem drop1 {β : Type} (x : β) (r : List β) : ((x :: r).drop 1).take ((x :: r).length - 1) = r := by simp
/-- A slice that reads asL a list, and is asL long asL it may be cut. -/
def Lst {α : Type} (h : H) (s : Sl) (f : α → List Value) (A : List α) : Prop := Reads h s 1 (A.flatMap f) ∧ s.len ≤ s.cap
theorem Lst.ext {α : Type} {h h' : H} {s : Sl} {f : α → List Value} {A : List α} (l : Lst h s f A) (e : Ext h h') : Lst h' s f A := ⟨l.1.ext e, l.2⟩
theorem Lst.only {α : Type} {S : Nat → Prop} {h h' : H} {s : Sl} {f : α → List Value} {A : List α} (l : Lst h s f A) (e : Only S h h') (hn : ∀ b, s.blk = some b → ¬ S b) : Lst h' s f A := ⟨l.1.only e hn, l.2⟩
theorem Lst.len {α : Type} {h : H} {s : Sl} {f : α → List Value} {A : List α} (hf : ∀ x, (f x).length = 1) (l : Lst h s f A) : s.len = A.length := rd_len hf (by omega) l.1
/-- The first thing of a list, and the list behind it. -/
theorem Lst.head {α : Type} {h : H} {s : Sl} {f : α → List Value} {x : α} {r : List α} {K : Addr → Prop} (hf : ∀ x, (f x).length = 1) (l : Lst h s f (x :: r)) (k : ∀ a, Cells h a (f x) → K a) : idxA s 0 1 K := by
  obtain ⟨p, q1, q2, q3⟩ := rd_at hf (by omega) l.1 (i := 0) (x := x) rfl
  refine idxR_of (i := 0) q1 (by rw [l.len hf]; simp) rfl (k _ ?_)
  simpa using q3
theorem Lst.tail {α : Type} {h : H} {s : Sl} {f : α → List Value} {x : α} {r : List α} {K : Sl → Prop} (hf : ∀ x, (f x).length = 1) (l : Lst h s f (x :: r)) (k : ∀ t, Lst h t f r → t.blk = s.blk → K t) : cutL s 1 (s.len : Int) 1 K := by
  have hl := l.len hf
  have hl' : s.len = r.length + 1 := by simpa using hl
  refine cutL_of (lo := 1) (hi := s.len) rfl rfl (by omega) l.2 (k _ ⟨?_, ?_⟩ slcut_blk)
  · have := cut_reads hf (by omega) l.1 (lo := 1) (hi := s.len) (by omega) (by omega) l.2
    rw [hl, drop1] at this
    rw [hl]; exact this
  · have := l.2; simp only [slcut]; omega
theorem Lst.get {α : Type} {h : H} {s : Sl} {f : α → List Value} {A : List α} {i : Nat} {x : α} {n : Int} {K : Addr → Prop} (hf : ∀ x, (f x).length = 1) (l : Lst h s f A) (hx : A[i]? = some x) (hn : n = (i : Int)) (k : ∀ a, Cells h a (f x) → K a) : idxA s n 1 K := by
  obtain ⟨p, q1, q2, q3⟩ := rd_at hf (by omega) l.1 hx
  have := (List.getElem?_eq_some_iff.1 hx).1
  exact idxR_of (i := i) q1 (by rw [l.len hf]; omega) hn (k _ q3)
theorem Owns.lst {α : Type} {h : H} {s : Sl} {e : TypeId} {f : α → List Value} {A : List α} (o : Owns h s e 1 (A.flatMap f)) : Lst h s f A := ⟨o.reads, o.le_cap⟩
theorem two_int_loop {h0 : H} {Q : Sl → H → Prop} : ∀ (n m : Nat) (h : H) (s t u : Sl) (A B out : List Int), (∀ r h', Owns h' r 3 1 ((twoM leI n out A B).flatMap cI) → Ext h0 h' → Mine h0 r → Q r h') →
    Ext h0 h → Lst h s cI A → Lst h t cI B → Owns h u 3 1 (out.flatMap cI) → Mine h0 u → (∀ b, s.blk = some b → b < h0.size) → (∀ b, t.blk = some b → b < h0.size) → A.length + B.length ≤ n → out.length + n < 1000000000000 → n < m →
    F.merge_two_int.l1 Q m s t u h
  | n, 0, h, s, t, u, A, B, out, _, _, _, _, _, _, _, _, _, _, hm => by omega
  | n, m + 1, h, s, t, u, A, B, out, k, e0, ls, lt, ou, mu, hs, ht, hn, ho, hm => by
    have hsl := ls.len cI_len
    have htl := lt.len cI_len
    have hul := own_len cI_len (by omega) ou
    -- one thing is laid
    have hadd : ∀ (n' : Nat) (x : Int) (s' t' : Sl) (A' B' : List Int), n = n' + 1 → twoM leI n out A B = twoM leI n' (addM out x) A' B' → Lst h s' cI A' → Lst h t' cI B' → s'.blk = s.blk → t'.blk = t.blk → A'.length + B'.length ≤ n' → F.merge_two_int.j3 Q (F.merge_two_int.l1 Q m) s' t' u x h := by
      intro n' x s' t' A' B' hn' htw ls' lt' hsb htb hl'
      subst hn'
      rw [htw] at k
      have hlay : out.getLast? ≠ some x → newL h #[.int .i64 x] ty_3 1 fun s3 h2 => runL PP (Builtin.append_ #[23, 23] 23 #[u.enc, s3.enc]) h2 fun s5 h4 => (F.merge_two_int.l1 Q m) s' t' s5 h4 := fun hne => by
        refine push_mine (f := cI) x e0 mu cI_len (by omega) elI ou (fun x => one1 rfl) (by omega) fun r h1 q1 q2 q3 q4 q5 => ?_
        have hadd : addM out x = out ++ [x] := by unfold addM; rw [if_neg hne]
        have al := addM_len out x
        refine two_int_loop n' m h1 s' t' r A' B' (addM out x) k q2 (ls'.only q4 fun b hb e => by have := hs b (by rw [← hsb]; exact hb); have := mu b e; omega) (lt'.only q4 fun b hb e => by have := ht b (by rw [← htb]; exact hb); have := mu b e; omega) (by rw [hadd]; exact q1) q3 (by rw [hsb]; exact hs) (by rw [htb]; exact ht) hl' (by omega) (by omega)
      have hskip : out.getLast? = some x → (F.merge_two_int.l1 Q m) s' t' u h := fun he => by
        have hadd : addM out x = out := by unfold addM; rw [if_pos he]
        rw [hadd] at k
        exact two_int_loop n' m h s' t' u A' B' out k e0 ls' lt' ou mu (by rw [hsb]; exact hs) (by rw [htb]; exact ht) hl' (by omega) (by omega)
      unfold F.merge_two_int.j3 F.merge_two_int.j4
      rw [hul, beq_iff_eq, beq_eq_false_iff_ne]
      refine ⟨fun g => ⟨fun _ => hlay fun he => ?_, fun h => by cases h⟩, fun g => ?_⟩
      · have : out = [] := List.eq_nil_of_length_eq_zero (by omega)
        subst this; simp at he
      · have hne : out ≠ [] := fun e => by subst e; simp at g
        have hpos : 0 < out.length := List.length_pos_iff.2 hne
        obtain ⟨b, a1, a2⟩ := own_at cI_len (by omega) ou (i := out.length - 1) (x := out.getLast hne) (by rw [← List.getLast?_eq_getElem?, List.getLast?_eq_some_getLast hne])
        refine idxA_of (i := out.length - 1) a1 (by omega) (by rw [w64 (by omega) (by omega)]; omega) ?_
        rw [ldI_iff a2.one]
        have hlast := List.getLast?_eq_some_getLast hne
        rw [bne_iff_ne, bne_eq_false_iff_eq]
        refine ⟨fun g2 => hlay fun he => ?_, fun g2 => hskip ?_⟩
        · rw [hlast] at he; simp at he; simp [he] at g2
        · rw [hlast]; simpa using g2
    have htake1 : ∀ x r, A = x :: r → (∀ y r', B = y :: r' → leI x y = true) → F.merge_two_int.j5 Q (F.merge_two_int.l1 Q m) s t u true h := fun x r hA hB => by
      subst hA
      unfold F.merge_two_int.j5
      refine ⟨fun _ => ls.head cI_len fun a ha => ?_, fun h => by cases h⟩
      rw [ldI_iff ha.one]
      refine ls.tail cI_len fun s' ls' hb => ?_
      simp only [List.length_cons] at hn
      obtain ⟨n', rfl⟩ : ∃ n', n = n' + 1 := ⟨n - 1, by omega⟩
      refine hadd n' x s' t r B rfl ?_ ls' lt hb rfl (by omega)
      cases B with
      | nil => rfl
      | cons y r' => simp only [twoM]; rw [if_pos (hB y r' rfl)]
    have htake2 : ∀ y r, B = y :: r → (∀ x r', A = x :: r' → leI x y = false) → F.merge_two_int.j5 Q (F.merge_two_int.l1 Q m) s t u false h := fun y r hB hA => by
      subst hB
      unfold F.merge_two_int.j5
      refine ⟨(fun h => by cases h), fun _ => lt.head cI_len fun a ha => ?_⟩
      rw [ldI_iff ha.one]
      refine lt.tail cI_len fun t' lt' hb => ?_
      simp only [List.length_cons] at hn
      obtain ⟨n', rfl⟩ : ∃ n', n = n' + 1 := ⟨n - 1, by omega⟩
      refine hadd n' y s t' A r rfl ?_ ls lt' rfl hb (by omega)
      cases A with
      | nil => rfl
      | cons x r' => simp only [twoM]; rw [if_neg (by rw [hA x r' rfl]; simp)]
    unfold F.merge_two_int.l1 F.merge_two_int.j6 F.merge_two_int.j2
    rw [hsl, htl, beq_iff_eq, beq_eq_false_iff_ne]
    simp only [decide_eq_true_eq, decide_eq_false_iff_not]
    cases A with
    | nil =>
      refine ⟨fun g => by simp at g, fun _ => ⟨fun g => ⟨fun g2 => by omega, fun _ => ⟨fun g => by simp at g, fun _ => ?_⟩⟩, fun g => ?_⟩⟩
      · cases B with
        | nil => simp at g
        | cons y r => exact htake2 y r rfl fun x r' h => by cases h
      · have : B = [] := List.eq_nil_of_length_eq_zero (by omega)
        subst this
        have htw : twoM leI n out [] [] = out := by cases n <;> rfl
        rw [htw] at k
        exact k u h ou e0 mu
    | cons x r =>
      refine ⟨fun _ => ⟨fun _ => ⟨fun g => htake1 x r rfl fun y r' h => by subst h; exfalso; simp at g <;> omega, fun g => ⟨fun _ => ?_, fun g2 => by simp at g2 <;> omega⟩⟩, fun h => by cases h⟩, fun g => by simp at g <;> omega⟩
      cases B with
      | nil => simp at g
      | cons y r' =>
        refine ls.head cI_len fun a ha => ?_
        rw [ldI_iff ha.one]
        refine lt.head cI_len fun a hb => ?_
        rw [ldI_iff hb.one]
        show F.merge_two_int.j5 Q (F.merge_two_int.l1 Q m) s t u (leI x y) h
        cases hle : leI x y with
        | true => exact htake1 x r rfl fun y' r'' h => by cases h; exact hle
        | false => exact htake2 y r' rfl fun x' r'' h => by cases h; exact hle
theorem two_int_spec {h : H} {Q : Sl → H → Prop} {s t : Sl} {A B : List Int} (ls : Lst h s cI A) (lt : Lst h t cI B) (hlen : A.length + B.length < 100000000000) (hs : ∀ b, s.blk = some b → b < h.size) (ht : ∀ b, t.blk = some b → b < h.size)
    (k : ∀ r h', Owns h' r 3 1 ((twoM leI (A.length + B.length) [] A B).flatMap cI) → Ext h h' → Mine h r → Q r h') : F.merge_two_int s t h Q := by
  unfold F.merge_two_int
  exact ⟨_, two_int_loop _ _ h s t _ A B [] k (.refl _) ls lt (Owns.nil _ _ _) (Mine.nil _ _ _) hs ht (Nat.le_refl _) (by simp; omega) (Nat.lt_succ_self _)⟩
/-- Lists whose slices lie in a slice. -/
def Lsts_int (h : H) (SL : List Sl) (LL : List (List Int)) : Prop := SL.length = LL.length ∧ ∀ (i : Nat) (s : Sl) (A : List Int), SL[i]? = some s → LL[i]? = some A → Lst h s cI A ∧ ∀ b, s.blk = some b → b < h.size
theorem Lsts_int.ext {h h' : H} {SL : List Sl} {LL : List (List Int)} (l : Lsts_int h SL LL) (e : Ext h h') : Lsts_int h' SL LL := ⟨l.1, fun i s A h1 h2 => ⟨(l.2 i s A h1 h2).1.ext e, fun b hb => Nat.lt_of_lt_of_le ((l.2 i s A h1 h2).2 b hb) e.size⟩⟩
theorem Lsts_int.take {h : H} {SL : List Sl} {LL : List (List Int)} (l : Lsts_int h SL LL) (n : Nat) : Lsts_int h (SL.take n) (LL.take n) := ⟨by simp [l.1], fun i s A h1 h2 => by
  rw [List.getElem?_take] at h1 h2
  split at h1
  · rename_i hi; rw [if_pos hi] at h2; exact l.2 i s A h1 h2
  · cases h1⟩
theorem Lsts_int.drop {h : H} {SL : List Sl} {LL : List (List Int)} (l : Lsts_int h SL LL) (n : Nat) : Lsts_int h (SL.drop n) (LL.drop n) := ⟨by simp [l.1], fun i s A h1 h2 => by
  rw [List.getElem?_drop] at h1 h2
  exact l.2 _ s A h1 h2⟩
theorem listsM_int_len (le : Int → Int → Bool) : ∀ (n : Nat) (LL : List (List Int)), (listsM le n LL).length ≤ LL.flatten.length
  | 0, LL => by simp [listsM]
  | n + 1, [] => by simp [listsM]
  | n + 1, [a] => by have := twoM_len le a.length [] a []; simp only [listsM]; simp at this ⊢; omega
  | n + 1, a :: b :: r => by
    simp only [listsM]
    have h1 := listsM_int_len le n ((a :: b :: r).take ((a :: b :: r).length / 2))
    have h2 := listsM_int_len le n ((a :: b :: r).drop ((a :: b :: r).length / 2))
    have h3 := twoM_len le ((listsM le n ((a :: b :: r).take ((a :: b :: r).length / 2))).length + (listsM le n ((a :: b :: r).drop ((a :: b :: r).length / 2))).length) [] (listsM le n ((a :: b :: r).take ((a :: b :: r).length / 2))) (listsM le n ((a :: b :: r).drop ((a :: b :: r).length / 2)))
    have h4 : ((a :: b :: r).take ((a :: b :: r).length / 2)).flatten.length + ((a :: b :: r).drop ((a :: b :: r).length / 2)).flatten.length = (a :: b :: r).flatten.length := by
      rw [← List.length_append, ← List.flatten_append, List.take_append_drop]
    simp only [List.length_nil, Nat.zero_add] at h3
    exact Nat.le_trans h3 (by omega)
theorem Lists_int_fu : ∀ (m : Nat) (h : H) (p : Sl) (SL : List Sl) (LL : List (List Int)) (Q : Sl → H → Prop), Lst h p cS SL → Lsts_int h SL LL → LL.flatten.length < 10000000000 → LL.length < 10000000000 → LL.length < m → (∀ b, p.blk = some b → b < h.size) →
    (∀ r h', Owns h' r 3 1 ((listsM leI (LL.length + 1) LL).flatMap cI) → Ext h h' → Mine h r → Q r h') → ∀ n, LL.length + 1 = n → F.merge_Lists_int.fu m p h Q
  | 0, h, p, SL, LL, Q, _, _, _, _, hm, _, _ => by omega
  | m + 1, h, p, SL, LL, Q, lp, ll, hf, hll, hm, hp, k => fun n hn => by
    subst hn
    have hpl := lp.len cS_len
    have hl := ll.1
    unfold F.merge_Lists_int.fu
    rw [hpl, hl, beq_iff_eq, beq_eq_false_iff_ne, beq_iff_eq, beq_eq_false_iff_ne]
    match LL, SL, hl with
    | [], [], _ => exact ⟨fun _ => k _ h (Owns.nil _ _ _) (.refl _) (Mine.nil _ _ _), fun g => by simp at g⟩
    | [A], [s], _ =>
      refine ⟨fun g => by simp at g, fun _ => ⟨fun _ => ?_, fun g => by simp at g⟩⟩
      obtain ⟨l1, l2⟩ := ll.2 0 s A rfl rfl
      refine lp.head cS_len fun a ha => ?_
      rw [ldL_iff ha.one]
      refine two_int_spec (B := []) l1 ⟨(Owns.nil h 3 1).reads, Nat.le_refl _⟩ (by simp at hf ⊢; omega) l2 (fun b hb => by simp [Sl.blk] at hb) fun r h' q1 q2 q3 => k r h' (by simpa [listsM] using q1) q2 q3
    | A :: B :: r, s :: t :: r', hl =>
      generalize hLL : A :: B :: r = LL at *
      generalize hSL : s :: t :: r' = SL at *
      have h2 : 2 ≤ LL.length := by rw [← hLL]; simp
      refine ⟨fun g => by omega, fun _ => ⟨fun g => by omega, fun _ => ⟨by omega, ?_⟩⟩⟩
      have hq : Int.tdiv (LL.length : Int) 2 = ((LL.length / 2 : Nat) : Int) := Int.ofNat_tdiv _ 2
      rw [hq, w64 (by omega) (by omega)]
      have hcap := lp.2
      refine cutL_of (lo := 0) (hi := LL.length / 2) rfl rfl (by omega) (by omega) ?_
      refine cutL_of (lo := LL.length / 2) (hi := LL.length) rfl rfl (by omega) (by omega) ?_
      have hsl : SL.length = LL.length := ll.1
      have c1 : Lst h (slcut p 0 (LL.length / 2) 1) cS (SL.take (LL.length / 2)) := ⟨by
        have := cut_reads cS_len (by omega) lp.1 (lo := 0) (hi := LL.length / 2) (by omega) (by omega) hcap
        simpa using this, by simp only [slcut]; omega⟩
      have c2 : Lst h (slcut p (LL.length / 2) LL.length 1) cS (SL.drop (LL.length / 2)) := ⟨by
        have := cut_reads cS_len (by omega) lp.1 (lo := LL.length / 2) (hi := LL.length) (by omega) (by omega) hcap
        rw [List.take_of_length_le (by simp; omega)] at this
        exact this, by simp only [slcut]; omega⟩
      have f1 : (LL.take (LL.length / 2)).flatten.length + (LL.drop (LL.length / 2)).flatten.length = LL.flatten.length := by rw [← List.length_append, ← List.flatten_append, List.take_append_drop]
      have t1 : (LL.take (LL.length / 2)).length = LL.length / 2 := by rw [List.length_take]; omega
      have t2 : (LL.drop (LL.length / 2)).length = LL.length - LL.length / 2 := by rw [List.length_drop]
      refine Lists_int_fu m h _ _ _ _ c1 (ll.take _) (by omega) (by omega) (by omega) (by rw [slcut_blk]; exact hp) (fun r1 h1 q1 q2 q3 => ?_) _ rfl
      refine Lists_int_fu m h1 _ _ _ _ (c2.ext q2) ((ll.drop _).ext q2) (by omega) (by omega) (by omega) (by rw [slcut_blk]; exact fun b hb => Nat.lt_of_lt_of_le (hp b hb) q2.size) (fun r2 h2' p1 p2 p3 => ?_) _ rfl
      have n1 := listsM_int_len leI ((LL.take (LL.length / 2)).length + 1) (LL.take (LL.length / 2))
      have n2 := listsM_int_len leI ((LL.drop (LL.length / 2)).length + 1) (LL.drop (LL.length / 2))
      refine two_int_spec (q1.ext p2).lst p1.lst (by omega) (fun b hb => (q1.ext p2).blk_lt hb) (fun b hb => p1.blk_lt hb) fun r3 h3 u1 u2 u3 => k r3 h3 ?_ ((q2.trans p2).trans u2) (u3.older (q2.trans p2))
      have e1 : listsM leI (LL.length + 1) LL = twoM leI ((listsM leI LL.length (LL.take (LL.length / 2))).length + (listsM leI LL.length (LL.drop (LL.length / 2))).length) [] (listsM leI LL.length (LL.take (LL.length / 2))) (listsM leI LL.length (LL.drop (LL.length / 2))) := by
        rw [← hLL]; rfl
      have e2 : listsM leI ((LL.take (LL.length / 2)).length + 1) (LL.take (LL.length / 2)) = listsM leI LL.length (LL.take (LL.length / 2)) := listsM_fuel _ _ _ _ (by omega) (by omega)
      have e3 : listsM leI ((LL.drop (LL.length / 2)).length + 1) (LL.drop (LL.length / 2)) = listsM leI LL.length (LL.drop (LL.length / 2)) := listsM_fuel _ _ _ _ (by omega) (by omega)
      rw [e1, ← e2, ← e3]
      exact u1
theorem Lists_int_spec {h : H} {p : Sl} {SL : List Sl} {LL : List (List Int)} {Q : Sl → H → Prop} (lp : Lst h p cS SL) (ll : Lsts_int h SL LL) (hf : LL.flatten.length < 10000000000) (hll : LL.length < 10000000000) (hp : ∀ b, p.blk = some b → b < h.size)
    (k : ∀ r h', Owns h' r 3 1 ((listsM leI (LL.length + 1) LL).flatMap cI) → Ext h h' → Mine h r → Q r h') : F.merge_Lists_int p h Q := ⟨LL.length + 1, Lists_int_fu _ h p SL LL Q lp ll hf hll (Nat.lt_succ_self _) hp k _ rfl⟩
end Go.Proofs.Ytidpbnbjpglhfaa.V
namespace Go.Proofs.Ytidpbnbjpglhfaa.V
open Go
set_option linter.unusedVariables false
set_option linter.unusedSimpArgs false
theorem known8_spec {h : H} {Q : Bool → H → Prop} (k : ∀ h', Ext h h' → Q true h') : F.spatelaw8_known h Q := by
  unfold F.spatelaw8_known
  have hm : mayC (⟨0, ⟨#[97]⟩, 0⟩ : Cel) = 0 := by decide
  refine Key_spec (fun g => absurd hm g) fun _ h1 e1 => ?_
  have hkey : keyL (⟨0, ⟨#[97]⟩, 0⟩ : Cel) = [0, 97, 0, 1, 128, 0, 0, 0, 0, 0, 0, 0] := by decide +kernel
  have hcel : cellM [0, 97, 0, 1, 128, 0, 0, 0, 0, 0, 0, 0] = (⟨0, ⟨#[97]⟩, 0⟩, 0) := by kernel_rfl
  refine Cell_spec (by decide) fun h2 e2 => ?_
  rw [show (⟨#[0, 97, 0, 1, 128, 0, 0, 0, 0, 0, 0, 0]⟩ : ByteArray).data.toList = [0, 97, 0, 1, 128, 0, 0, 0, 0, 0, 0, 0] from rfl, hcel, hkey]
  refine new_of fun n h3 a1 a2 a3 a4 => ?_
  refine st_cell (c := zeroC) a2 fun h4 b1 b2 b3 => ?_
  refine newL_of fun n5 h5 c1 c2 c3 c4 => ?_
  refine newL_of fun n6 h6 d1 d2 d3 d4 => ?_
  refine newL_of fun n7 h7 f1 f2 f3 f4 => ?_
  have x4 : Ext h h4 := ((e1.trans e2).trans a3).step b2 fun m hm e => by have := (e1.trans e2).size; omega
  have x7 : Ext h4 h7 := (c3.trans d3).trans f3
  have l1 : Lst h7 ⟨some ⟨n5, 0, none⟩, 3, 3⟩ cI [1, 3, 3] := ⟨(blk_reads (size := 1) (m := 3) (show Blk h5 n5 (([1, 3, 3] : List Int).flatMap cI).toArray 3 from c2) rfl).ext (d3.trans f3), Nat.le_refl _⟩
  have l2 : Lst h7 ⟨some ⟨n6, 0, none⟩, 2, 2⟩ cI [2, 3] := ⟨(blk_reads (size := 1) (m := 2) (show Blk h6 n6 (([2, 3] : List Int).flatMap cI).toArray 3 from d2) rfl).ext f3, Nat.le_refl _⟩
  have l3 : Lst h7 ⟨some ⟨n7, 0, none⟩, 2, 2⟩ cS [⟨some ⟨n5, 0, none⟩, 3, 3⟩, ⟨some ⟨n6, 0, none⟩, 2, 2⟩] := ⟨blk_reads (size := 1) (m := 2) (show Blk h7 n7 (([⟨some ⟨n5, 0, none⟩, 3, 3⟩, ⟨some ⟨n6, 0, none⟩, 2, 2⟩] : List Sl).flatMap cS).toArray 23 from f2) rfl, Nat.le_refl _⟩
  refine Lists_int_spec (LL := [[1, 3, 3], [2, 3]]) l3 ⟨rfl, fun i s A g1 g2 => ?_⟩ (by decide) (by decide) (fun b hb => by simp [Sl.blk] at hb; omega) fun r h8 q1 q2 q3 => ?_
  · match i, g1, g2 with
    | 0, g1, g2 => simp at g1 g2; subst g1; subst g2; exact ⟨l1, fun b hb => by simp [Sl.blk] at hb; omega⟩
    | 1, g1, g2 => simp at g1 g2; subst g1; subst g2; exact ⟨l2, fun b hb => by simp [Sl.blk] at hb; omega⟩
    | i + 2, g1, g2 => simp at g1
  · have hres : listsM leI (([[1, 3, 3], [2, 3]] : List (List Int)).length + 1) [[1, 3, 3], [2, 3]] = [1, 2, 3] := by decide +kernel
    rw [hres] at q1
    have lr := q1.lst
    have hrl := lr.len cI_len
    have bl8 : Blk h8 n (⟨0, ⟨#[97]⟩, 0⟩ : Cel).cells.toArray 34 := (x7.trans q2).block b1 (fun f => f)
    have hend := k h8 ((x4.trans x7).trans q2)
    refine ⟨fun _ => ⟨fun _ => ⟨fun _ => ⟨_, bl8.cells3, fun _ => ⟨fun _ => ?_, fun g => ?_⟩, fun g => ?_⟩, fun g => ?_⟩, fun g => by cases g⟩, fun g => by cases g⟩
    · refine lr.get cI_len (i := 0) (x := 1) rfl rfl fun a ha => ?_
      rw [ldI_iff ha.one]
      refine ⟨fun _ => ?_, fun g => by cases g⟩
      refine lr.get cI_len (i := 1) (x := 2) rfl rfl fun a ha => ?_
      rw [ldI_iff ha.one]
      refine ⟨fun _ => ?_, fun g => by cases g⟩
      refine lr.get cI_len (i := 2) (x := 3) rfl rfl fun a ha => ?_
      rw [ldI_iff ha.one]
      exact hend
    · rw [hrl] at g; cases g
    · exact absurd g (by decide +kernel)
    · exact absurd g (by decide +kernel)
end Go.Proofs.Ytidpbnbjpglhfaa.V
namespace Go.Proofs.Ytidpbnbjpglhfaa.V
open Go
set_option linter.unusedVariables false
set_option linter.unusedSimpArgs false
theorem i64_of {n : Int} (h : (Lit.int .i64 n).wf = true) : -9223372036854775808 ≤ n ∧ n < 9223372036854775808 := by
  simp [Lit.wf, IntKind.min, IntKind.max, IntKind.bits, IntKind.signed] at h
  omega
end Go.Proofs.Ytidpbnbjpglhfaa.V
namespace Go.Proofs.Ytidpbnbjpglhfaa.V
open Go
set_option linter.unusedVariables false
set_option linter.unusedSimpArgs false
theorem cmpB_eq : ∀ (a b : List UInt8), Lib.compareBytes a b = if a = b then 0 else if Op.bytesLess a b then -1 else 1
  | [], [] => rfl
  | [], _ :: _ => rfl
  | _ :: _, [] => rfl
  | a :: ra, b :: rb => by
    rw [Lib.compareBytes, cmpB_eq ra rb, Op.bytesLess]
    by_cases h1 : a < b
    · have : a ≠ b := fun e => by subst e; exact absurd h1 (by simp)
      simp [h1, this]
    · by_cases h2 : b < a
      · have : a ≠ b := fun e => by subst e; exact absurd h2 (by simp)
        simp [h1, h2, this]
      · have : a = b := UInt8.le_antisymm (UInt8.not_lt.1 h2) (UInt8.not_lt.1 h1)
        subst this
        simp
def cmpI (x y : Int) : Int := if x < y then -1 else if x > y then 1 else 0
def cmpC (a b : Cel) : Int := if cmpI a.View b.View ≠ 0 then cmpI a.View b.View else if cmpM a.Key b.Key ≠ 0 then cmpM a.Key b.Key else cmpI a.Start b.Start
theorem cmpInt_spec {x y : Int} {h : H} {Q : Int → H → Prop} (k : Q (cmpI x y) h) : F.cmp_Compare_int x y h Q := by
  unfold F.cmp_Compare_int F.cmp_isNaN_int
  unfold cmpI at k
  simp only [bne_self_eq_false, Bool.false_eq_true, false_implies, true_implies, true_and, decide_eq_true_eq, decide_eq_false_iff_not]
  by_cases h1 : x < y
  · simp only [h1, if_true] at k; exact ⟨fun _ => k, fun g => absurd h1 g⟩
  · simp only [h1, if_false] at k
    by_cases h2 : x > y
    · simp only [h2, if_true] at k; exact ⟨fun g => absurd g h1, fun _ => ⟨fun _ => k, fun g => absurd h2 g⟩⟩
    · simp only [h2, if_false] at k; exact ⟨fun g => absurd g h1, fun _ => ⟨fun g => absurd g h2, fun _ => k⟩⟩
theorem cmpInt64_spec {x y : Int} {h : H} {Q : Int → H → Prop} (k : Q (cmpI x y) h) : F.cmp_Compare_int64 x y h Q := by
  unfold F.cmp_Compare_int64 F.cmp_isNaN_int64
  unfold cmpI at k
  simp only [bne_self_eq_false, Bool.false_eq_true, false_implies, true_implies, true_and, decide_eq_true_eq, decide_eq_false_iff_not]
  by_cases h1 : x < y
  · simp only [h1, if_true] at k; exact ⟨fun _ => k, fun g => absurd h1 g⟩
  · simp only [h1, if_false] at k
    by_cases h2 : x > y
    · simp only [h2, if_true] at k; exact ⟨fun g => absurd g h1, fun _ => ⟨fun _ => k, fun g => absurd h2 g⟩⟩
    · simp only [h2, if_false] at k; exact ⟨fun g => absurd g h1, fun _ => ⟨fun g => absurd g h2, fun _ => k⟩⟩
theorem or3_spec {n : Nat} {a b c : Int} {h : H} {Q : Int → H → Prop} (bl : Blk h n #[.int .i64 a, .int .i64 b, .int .i64 c] 3) (k : Q (if a ≠ 0 then a else if b ≠ 0 then b else c) h) : F.cmp_Or_int ⟨some ⟨n, 0, none⟩, 3, 3⟩ h Q := by
  unfold F.cmp_Or_int
  refine ⟨4, ?_⟩
  have c0 : cellH h ⟨n, 0, none⟩ = some (.int .i64 a) := bl.cell rfl
  have c1 : cellH h ⟨n, 1, none⟩ = some (.int .i64 b) := bl.cell rfl
  have c2 : cellH h ⟨n, 2, none⟩ = some (.int .i64 c) := bl.cell rfl
  unfold F.cmp_Or_int.l1
  refine ⟨fun _ => ?_, fun g => by simp at g⟩
  refine idxA_of (i := 0) rfl (by simp) rfl ?_
  rw [Nat.zero_mul, ldI_iff c0, bne_iff_ne, bne_eq_false_iff_eq]
  refine ⟨fun g => by rw [if_pos g] at k; exact k, fun g => ?_⟩
  rw [if_neg (by simpa using g)] at k
  rw [show IntKind.wrap .i64 (0 + 1) = ((1 : Nat) : Int) from by decide]
  unfold F.cmp_Or_int.l1
  refine ⟨fun _ => ?_, fun g => by simp at g⟩
  refine idxA_of (i := 1) rfl (by simp) rfl ?_
  rw [Nat.one_mul, ldI_iff c1, bne_iff_ne, bne_eq_false_iff_eq]
  refine ⟨fun g => by rw [if_pos g] at k; exact k, fun g => ?_⟩
  rw [if_neg (by simpa using g)] at k
  rw [show IntKind.wrap .i64 (((1 : Nat) : Int) + 1) = ((2 : Nat) : Int) from by decide]
  unfold F.cmp_Or_int.l1
  refine ⟨fun _ => ?_, fun g => by simp at g⟩
  refine idxA_of (i := 2) rfl (by simp) rfl ?_
  rw [show 2 * 1 = 2 from rfl, ldI_iff c2, bne_iff_ne, bne_eq_false_iff_eq]
  refine ⟨fun g => k, fun g => ?_⟩
  rw [show IntKind.wrap .i64 (((2 : Nat) : Int) + 1) = ((3 : Nat) : Int) from by decide]
  unfold F.cmp_Or_int.l1
  refine ⟨fun g => by simp at g, fun _ => ?_⟩
  rw [g] at k; exact k
theorem Compare_spec {a b : Cel} {h : H} {Q : Int → H → Prop} (k : ∀ h', Ext h h' → Q (cmpC a b) h') : F.merge_Compare a b h Q := by
  unfold F.merge_Compare
  refine new_of fun n h1 e1 e2 e3 e4 => new_of fun m h3 f1 f2 f3 f4 => ?_
  have b1 : Blk h3 n a.cells.toArray 34 := f3.block e2 (fun f => f)
  have b2 : Blk h3 m b.cells.toArray 34 := f2
  have a0 : cellH h3 ⟨n, 0, none⟩ = some (.int .i64 a.View) := b1.cell rfl
  have a1 : cellH h3 ⟨n, 1, none⟩ = some (.string a.Key) := b1.cell rfl
  have a2 : cellH h3 ⟨n, 2, none⟩ = some (.int .i64 a.Start) := b1.cell rfl
  have c0 : cellH h3 ⟨m, 0, none⟩ = some (.int .i64 b.View) := b2.cell rfl
  have c1 : cellH h3 ⟨m, 1, none⟩ = some (.string b.Key) := b2.cell rfl
  have c2 : cellH h3 ⟨m, 2, none⟩ = some (.int .i64 b.Start) := b2.cell rfl
  simp only [add_lit, Nat.zero_add, ldI_iff a0, ldI_iff c0, ldS_iff a1, ldS_iff c1, ldI_iff a2, ldI_iff c2]
  refine cmpInt_spec ⟨c2, a2, c1, a1, ?_⟩
  unfold F.strings_Compare F.internal_bytealg_CompareString
  refine ⟨c2, a2, cmpInt64_spec ?_⟩
  refine newL_of fun q h5 g1 g2 g3 g4 => ?_
  exact or3_spec g2 (k h5 ((e3.trans f3).trans g3))
def cmpR8 (a b : Cel) : Int := if a.View ≠ b.View then (if a.View < b.View then -1 else 1) else if a.Key.toList ≠ b.Key.toList then (if Op.bytesLess a.Key.toList b.Key.toList then -1 else 1) else if a.Start ≠ b.Start then (if a.Start < b.Start then -1 else 1) else 0
theorem cmpR8_eq (a b : Cel) : cmpR8 a b = cmpC a b := by
  unfold cmpR8 cmpC cmpI cmpM
  rw [cmpB_eq, toList_data, toList_data]
  by_cases h1 : a.View = b.View
  · rw [h1]
    simp only [ne_eq, not_true_eq_false, if_false, Int.lt_irrefl, gt_iff_lt]
    by_cases h2 : a.Key.data.toList = b.Key.data.toList
    · rw [h2]
      simp only [not_true_eq_false, if_false, if_true]
      by_cases h3 : a.Start = b.Start
      · rw [h3]; simp
      · rw [if_pos h3]
        by_cases h4 : a.Start < b.Start
        · rw [if_pos h4, if_pos h4]
        · rw [if_neg h4, if_neg h4, if_pos (by omega)]
    · rw [if_pos h2]
      by_cases h4 : Op.bytesLess a.Key.data.toList b.Key.data.toList
      · simp [h2, h4]
      · simp [h2, h4]
  · rw [if_pos h1]
    by_cases h4 : a.View < b.View
    · simp [h4]
    · rw [if_neg h4, if_neg h4, if_pos (show a.View > b.View by omega)]; simp
theorem sign_spec {b : Bool} {h : H} {Q : Int → H → Prop} (k : Q (if b then -1 else 1) h) : F.spateref8_sign b h Q := by
  unfold F.spateref8_sign
  cases b with
  | true => exact ⟨fun _ => k, fun h => by cases h⟩
  | false => exact ⟨(fun h => by cases h), fun _ => k⟩
theorem CompareR_spec {a b : Cel} {h : H} {Q : Int → H → Prop} (k : ∀ h', Ext h h' → Q (cmpC a b) h') : F.spateref8_Compare a b h Q := by
  unfold F.spateref8_Compare
  refine new_of fun n h1 e1 e2 e3 e4 => new_of fun m h3 f1 f2 f3 f4 => ?_
  have b1 : Blk h3 n a.cells.toArray 34 := f3.block e2 (fun f => f)
  have b2 : Blk h3 m b.cells.toArray 34 := f2
  have a0 : cellH h3 ⟨n, 0, none⟩ = some (.int .i64 a.View) := b1.cell rfl
  have a1 : cellH h3 ⟨n, 1, none⟩ = some (.string a.Key) := b1.cell rfl
  have a2 : cellH h3 ⟨n, 2, none⟩ = some (.int .i64 a.Start) := b1.cell rfl
  have c0 : cellH h3 ⟨m, 0, none⟩ = some (.int .i64 b.View) := b2.cell rfl
  have c1 : cellH h3 ⟨m, 1, none⟩ = some (.string b.Key) := b2.cell rfl
  have c2 : cellH h3 ⟨m, 2, none⟩ = some (.int .i64 b.Start) := b2.cell rfl
  have k := k h3 (e3.trans f3)
  rw [← cmpR8_eq] at k
  unfold cmpR8 at k
  simp only [add_lit, Nat.zero_add, ldI_iff a0, ldI_iff c0, ldS_iff a1, ldS_iff c1, ldI_iff a2, ldI_iff c2, bne_iff_ne, bne_eq_false_iff_eq]
  refine ⟨fun g => sign_spec ?_, fun g => ⟨fun g2 => sign_spec ?_, fun g2 => ⟨fun g3 => sign_spec ?_, fun g3 => ?_⟩⟩⟩
  · rw [if_pos g] at k; simpa using k
  · rw [if_neg (by simpa using g), if_pos (by simpa using g2)] at k; simpa using k
  · rw [if_neg (by simpa using g), if_neg (by simpa using g2), if_pos g3] at k; simpa using k
  · rw [if_neg (by simpa using g), if_neg (by simpa using g2), if_neg (by simpa using g3)] at k; exact k
theorem cmpC_self (a : Cel) : cmpC a a = 0 := by
  unfold cmpC cmpI cmpM
  rw [cmpB_eq]; simp
end Go.Proofs.Ytidpbnbjpglhfaa.V
namespace Go.Proofs.Ytidpbnbjpglhfaa.V
open Go
set_option linter.unusedVariables false
set_option linter.unusedSimpArgs false
theorem cB_zero {x y : List UInt8} : Lib.compareBytes x y = 0 ↔ x = y := by
  rw [cmpB_eq]
  split
  · rename_i h; simp [h]
  · rename_i h; split <;> simp [h]
theorem u8_tri (a b : UInt8) : a < b ∨ a = b ∨ b < a := by
  by_cases h1 : a < b
  · exact .inl h1
  · by_cases h2 : b < a
    · exact .inr (.inr h2)
    · exact .inr (.inl (UInt8.le_antisymm (UInt8.not_lt.1 h2) (UInt8.not_lt.1 h1)))
theorem u8_asym {a b : UInt8} (h : a < b) : ¬ b < a := fun h2 => by
  rw [UInt8.lt_iff_toNat_lt] at h h2; omega
theorem u8_irr (a : UInt8) : ¬ a < a := fun h => by
  rw [UInt8.lt_iff_toNat_lt] at h; omega
theorem cB_anti : ∀ (x y : List UInt8), Lib.compareBytes x y = - Lib.compareBytes y x
  | [], [] => rfl
  | [], _ :: _ => rfl
  | _ :: _, [] => rfl
  | a :: x, b :: y => by
    have ih := cB_anti x y
    simp only [Lib.compareBytes]
    rcases u8_tri a b with h | h | h
    · simp [h, u8_asym h]
    · subst h; simp [u8_irr, ih]
    · simp [h, u8_asym h]
theorem cB_range (x y : List UInt8) : Lib.compareBytes x y = -1 ∨ Lib.compareBytes x y = 0 ∨ Lib.compareBytes x y = 1 := by
  rw [cmpB_eq]; split
  · simp
  · split <;> simp
theorem cB_trans : ∀ (x y z : List UInt8), Lib.compareBytes x y = -1 → Lib.compareBytes y z = -1 → Lib.compareBytes x z = -1
  | [], [], z, h, _ => by simp [Lib.compareBytes] at h
  | [], b :: y, [], _, h => by simp [Lib.compareBytes] at h
  | [], b :: y, c :: z, _, _ => rfl
  | a :: x, [], z, h, _ => by simp [Lib.compareBytes] at h
  | a :: x, b :: y, [], _, h => by simp [Lib.compareBytes] at h
  | a :: x, b :: y, c :: z, h1, h2 => by
    simp only [Lib.compareBytes] at h1 h2 ⊢
    rcases u8_tri a b with g | g | g
    · rcases u8_tri b c with g2 | g2 | g2
      · have : a < c := by rw [UInt8.lt_iff_toNat_lt] at *; omega
        simp [this]
      · subst g2; simp [g]
      · simp [g2, u8_asym g2] at h2
    · subst g
      simp only [u8_irr, if_false] at h1
      rcases u8_tri a c with g2 | g2 | g2
      · simp [g2]
      · subst g2
        simp only [u8_irr, if_false] at h2 ⊢
        exact cB_trans x y z h1 h2
      · simp [g2, u8_asym g2] at h2
    · simp [g, u8_asym g] at h1
theorem cI_anti (x y : Int) : cmpI x y = - cmpI y x := by
  unfold cmpI
  rcases Int.lt_trichotomy x y with h | h | h
  · rw [if_pos h, if_neg (by omega), if_pos (by omega)]
  · subst h; simp
  · rw [if_neg (by omega), if_pos (by omega), if_pos (by omega)]; rfl
theorem cI_zero {x y : Int} : cmpI x y = 0 ↔ x = y := by
  unfold cmpI
  split
  · constructor <;> intro <;> omega
  · split
    · constructor <;> intro <;> omega
    · constructor <;> intro <;> omega
theorem cI_range (x y : Int) : cmpI x y = -1 ∨ cmpI x y = 0 ∨ cmpI x y = 1 := by
  unfold cmpI; split
  · simp
  · split <;> simp
theorem cI_lt {x y : Int} : cmpI x y = -1 ↔ x < y := by
  unfold cmpI
  split
  · constructor <;> intro <;> omega
  · split
    · constructor <;> intro <;> omega
    · constructor <;> intro <;> omega
theorem cC_anti (a b : Cel) : cmpC a b = - cmpC b a := by
  unfold cmpC cmpM
  rw [cI_anti a.View b.View, cB_anti a.Key.data.toList b.Key.data.toList, cI_anti a.Start b.Start]
  split <;> split <;> simp_all <;> omega
theorem cC_range (a b : Cel) : cmpC a b = -1 ∨ cmpC a b = 0 ∨ cmpC a b = 1 := by
  unfold cmpC cmpM
  split
  · exact cI_range _ _
  · split
    · exact cB_range _ _
    · exact cI_range _ _
theorem key_ext {a b : ByteArray} (h : a.data.toList = b.data.toList) : a = b := by
  obtain ⟨x⟩ := a
  obtain ⟨y⟩ := b
  congr 1
  exact Array.toList_inj.1 h
theorem cC_zero {a b : Cel} : cmpC a b = 0 ↔ a = b := by
  constructor
  · intro h
    unfold cmpC cmpM at h
    split at h
    · rename_i g; exact absurd h g
    · rename_i g
      split at h
      · rename_i g2; exact absurd h g2
      · rename_i g2
        have h1 := cI_zero.1 (Classical.not_not.1 g)
        have h2 := key_ext (cB_zero.1 (Classical.not_not.1 g2))
        have h3 := cI_zero.1 h
        obtain ⟨v, k, s⟩ := a
        obtain ⟨v', k', s'⟩ := b
        simp only at h1 h2 h3
        rw [h1, h2, h3]
  · rintro rfl; exact cmpC_self a
theorem cC_lt {a b : Cel} : cmpC a b = -1 ↔ cmpI a.View b.View = -1 ∨ (a.View = b.View ∧ (Lib.compareBytes a.Key.data.toList b.Key.data.toList = -1 ∨ (a.Key.data.toList = b.Key.data.toList ∧ a.Start < b.Start))) := by
  unfold cmpC cmpM
  have r1 := cI_range a.View b.View
  have r2 := cB_range a.Key.data.toList b.Key.data.toList
  have z1 := cI_zero (x := a.View) (y := b.View)
  have z2 := cB_zero (x := a.Key.data.toList) (y := b.Key.data.toList)
  have l3 := cI_lt (x := a.Start) (y := b.Start)
  by_cases h1 : cmpI a.View b.View = 0
  · rw [if_neg (by simp [h1])]
    have e1 := z1.1 h1
    by_cases h2 : Lib.compareBytes a.Key.data.toList b.Key.data.toList = 0
    · rw [if_neg (by simp [h2])]
      have e2 := z2.1 h2
      rw [l3]
      constructor
      · intro h; exact .inr ⟨e1, .inr ⟨e2, h⟩⟩
      · intro h
        rcases h with h | ⟨_, h | h⟩
        · omega
        · omega
        · exact h.2
    · rw [if_pos h2]
      constructor
      · intro h; exact .inr ⟨e1, .inl h⟩
      · intro h
        rcases h with h | ⟨_, h | h⟩
        · omega
        · exact h
        · exact absurd (z2.2 h.1) h2
  · rw [if_pos h1]
    constructor
    · intro h; exact .inl h
    · intro h
      rcases h with h | h
      · exact h
      · exact absurd (z1.2 h.1) h1
theorem cC_trans {a b c : Cel} (h1 : cmpC a b = -1) (h2 : cmpC b c = -1) : cmpC a c = -1 := by
  rw [cC_lt] at *
  rcases h1 with h1 | ⟨e1, h1⟩
  · rw [cI_lt] at h1
    rcases h2 with h2 | ⟨e2, _⟩
    · rw [cI_lt] at h2; exact .inl (cI_lt.2 (by omega))
    · exact .inl (cI_lt.2 (by omega))
  · rcases h2 with h2 | ⟨e2, h2⟩
    · rw [cI_lt] at h2; exact .inl (cI_lt.2 (by omega))
    · refine .inr ⟨by omega, ?_⟩
      rcases h1 with h1 | ⟨k1, h1⟩
      · rcases h2 with h2 | ⟨k2, h2⟩
        · exact .inl (cB_trans _ _ _ h1 h2)
        · rw [← k2]; exact .inl h1
      · rcases h2 with h2 | ⟨k2, h2⟩
        · rw [k1]; exact .inl h2
        · exact .inr ⟨k1.trans k2, by omega⟩
theorem cC_le_trans {a b c : Cel} (h1 : cmpC a b ≤ 0) (h2 : cmpC b c ≤ 0) : cmpC a c ≤ 0 := by
  rcases cC_range a b with r1 | r1 | r1
  · rcases cC_range b c with r2 | r2 | r2
    · rw [cC_trans r1 r2]; omega
    · rw [← cC_zero.1 r2, r1]; omega
    · omega
  · rw [cC_zero.1 r1]; exact h2
  · omega
section
variable {h0 h : H} {n m q : Nat} {a b c : Cel} {Q : Bool → H → Prop}
end
end Go.Proofs.Ytidpbnbjpglhfaa.V
namespace Go.Proofs.Ytidpbnbjpglhfaa.V
open Go
set_option linter.unusedVariables false
set_option linter.unusedSimpArgs false
section
variable {α : Type} (le : α → α → Bool)
/-- Lists asL one: the least head is told first, the first of them where several are. -/
def mAll (Ls : List (List α)) : List α := Ls.foldr (fun l m => List.merge l m le) []
variable {le}
theorem merge_nil (m : List α) : List.merge [] m le = m := by simp [List.merge]
theorem merge_nil' (l : List α) : List.merge l [] le = l := by cases l <;> simp [List.merge]
theorem merge_cons (x y : α) (l m : List α) : List.merge (x :: l) (y :: m) le = if le x y then x :: List.merge l (y :: m) le else y :: List.merge (x :: l) m le := by
  rw [List.merge]
theorem mAll_head : ∀ {Ls : List (List α)} {y : α} {r : List α}, mAll le Ls = y :: r → ∃ (j : Nat) (t : List α), Ls[j]? = some (y :: t)
  | [], y, r, h => by simp [mAll] at h
  | l :: Ls, y, r, h => by
    have hm : List.merge l (mAll le Ls) le = y :: r := h
    cases l with
    | nil =>
      rw [merge_nil] at hm
      obtain ⟨j, t, hj⟩ := mAll_head hm
      exact ⟨j + 1, t, by simpa using hj⟩
    | cons a l =>
      cases hq : mAll le Ls with
      | nil =>
        rw [hq, merge_nil'] at hm
        cases hm
        exact ⟨0, _, rfl⟩
      | cons b m =>
        rw [hq, merge_cons] at hm
        split at hm
        · cases hm; exact ⟨0, _, rfl⟩
        · cases hm
          obtain ⟨j, t, hj⟩ := mAll_head hq
          exact ⟨j + 1, t, by simpa using hj⟩
theorem mAll_none : ∀ {Ls : List (List α)}, (∀ l ∈ Ls, l = []) → mAll le Ls = []
  | [], _ => rfl
  | l :: Ls, h => by
    have h1 := h l (by simp)
    subst h1
    show List.merge [] (mAll le Ls) le = []
    rw [mAll_none fun l hl => h l (by simp [hl])]
    exact merge_nil _
/-- The head that is picked: no list ahead has one asL small, none behind a smaller one. -/
theorem mAll_pick : ∀ {Ls : List (List α)} {k : Nat} {x : α} {t : List α}, Ls[k]? = some (x :: t) → (∀ (j : Nat) y s, j < k → Ls[j]? = some (y :: s) → le y x = false) → (∀ (j : Nat) y s, k < j → Ls[j]? = some (y :: s) → le x y = true) →
    mAll le Ls = x :: mAll le (Ls.set k t)
  | [], k, x, t, h, _, _ => by simp at h
  | l :: Ls, 0, x, t, h, _, h2 => by
    simp at h
    subst h
    show List.merge (x :: t) (mAll le Ls) le = x :: List.merge t (mAll le Ls) le
    cases hq : mAll le Ls with
    | nil => rw [merge_nil', merge_nil']
    | cons y r =>
      obtain ⟨j, s, hj⟩ := mAll_head hq
      rw [merge_cons, if_pos (h2 (j + 1) y s (by omega) (by simpa using hj))]
  | l :: Ls, k + 1, x, t, h, h1, h2 => by
    have ih := mAll_pick (Ls := Ls) (k := k) (x := x) (t := t) (by simpa using h) (fun j y s hj hy => h1 (j + 1) y s (by omega) (by simpa using hy)) (fun j y s hj hy => h2 (j + 1) y s (by omega) (by simpa using hy))
    show List.merge l (mAll le Ls) le = x :: List.merge l (mAll le (Ls.set k t)) le
    rw [ih]
    cases l with
    | nil => rw [merge_nil, merge_nil]
    | cons y s =>
      rw [merge_cons, if_neg (by rw [h1 0 y s (by omega) rfl]; simp)]
end
section
variable {α : Type} [Inhabited α]
abbrev g (A : List α) (i : Nat) : α := A.getD i default
def swp (A : List α) (i j : Nat) : List α := (A.set i (g A j)).set j (g A i)
theorem swp_len (A : List α) (i j : Nat) : (swp A i j).length = A.length := by simp [swp]
theorem g_set {A : List α} {i j : Nat} {x : α} (h : i < A.length) : g (A.set i x) j = if i = j then x else g A j := by
  simp only [g, List.getD_eq_getElem?_getD, List.getElem?_set]
  by_cases e : i = j
  · subst e; simp [h]
  · simp [e]
theorem g_swp {A : List α} {i j k : Nat} (hi : i < A.length) (hj : j < A.length) : g (swp A i j) k = if k = j then g A i else if k = i then g A j else g A k := by
  unfold swp
  rw [g_set (by simpa using hj), g_set hi]
  by_cases e : j = k
  · subst e; simp
  · rw [if_neg e, if_neg (show ¬ k = j from fun h => e h.symm)]
    by_cases e2 : i = k
    · rw [if_pos e2, if_pos e2.symm]
    · rw [if_neg e2, if_neg (show ¬ k = i from fun h => e2 h.symm)]
theorem swp_perm {A : List α} {i j : Nat} (hi : i < A.length) (hj : j < A.length) : (swp A i j).Perm A := by
  have e1 : g A j = A[j] := by simp [g, List.getD_eq_getElem?_getD, hj]
  have e2 : g A i = A[i] := by simp [g, List.getD_eq_getElem?_getD, hi]
  unfold swp
  rw [e1, e2]
  exact List.set_set_perm hi hj
variable (lt : α → α → Bool)
/-- An element that is too great is let down: Go's heap.down. -/
def dn : Nat → List α → Nat → Nat → List α × Nat
  | 0, A, n, i => (A, i)
  | m + 1, A, n, i =>
    if n ≤ 2 * i + 1 then (A, i)
    else if lt (g A (if 2 * i + 2 < n ∧ lt (g A (2 * i + 2)) (g A (2 * i + 1)) = true then 2 * i + 2 else 2 * i + 1)) (g A i) = true then
      dn m (swp A i (if 2 * i + 2 < n ∧ lt (g A (2 * i + 2)) (g A (2 * i + 1)) = true then 2 * i + 2 else 2 * i + 1)) n (if 2 * i + 2 < n ∧ lt (g A (2 * i + 2)) (g A (2 * i + 1)) = true then 2 * i + 2 else 2 * i + 1)
    else (A, i)
/-- From s on, no child is smaller than its parent. -/
def HP (A : List α) (n s : Nat) : Prop := ∀ c, 0 < c → c < n → s ≤ (c - 1) / 2 → lt (g A c) (g A ((c - 1) / 2)) = false
structure Ord : Prop where
  asym : ∀ a b, lt a b = true → lt b a = false
  trans : ∀ a b c, lt b a = false → lt c b = false → lt c a = false
variable {lt}
theorem dn_law (o : Ord lt) : ∀ (m : Nat) (A : List α) (n i s : Nat), n ≤ A.length → i < n → s ≤ i → n - i ≤ m →
    (∀ c, 0 < c → c < n → s ≤ (c - 1) / 2 → (c - 1) / 2 ≠ i → lt (g A c) (g A ((c - 1) / 2)) = false) →
    (∀ c, 0 < c → c < n → (c - 1) / 2 = i → 0 < i → s ≤ (i - 1) / 2 → lt (g A c) (g A ((i - 1) / 2)) = false) →
    HP lt (dn lt m A n i).1 n s ∧ (dn lt m A n i).1.Perm A ∧ (dn lt m A n i).1.length = A.length ∧ ∀ k, n ≤ k → g (dn lt m A n i).1 k = g A k
  | 0, A, n, i, s, hn, hi, hs, hm, h1, h2 => by omega
  | m + 1, A, n, i, s, hn, hi, hs, hm, h1, h2 => by
    unfold dn
    by_cases hl : n ≤ 2 * i + 1
    · rw [if_pos hl]
      exact ⟨fun c c0 cn cs => h1 c c0 cn cs (by omega), .refl _, rfl, fun _ _ => rfl⟩
    · rw [if_neg hl]
      generalize hj : (if 2 * i + 2 < n ∧ lt (g A (2 * i + 2)) (g A (2 * i + 1)) = true then 2 * i + 2 else 2 * i + 1) = j
      have hj2 : (j = 2 * i + 1 ∨ j = 2 * i + 2) ∧ j < n ∧ (∀ c, (c = 2 * i + 1 ∨ c = 2 * i + 2) → c < n → lt (g A c) (g A j) = false) := by
        have irr : ∀ a, lt a a = false := fun a => by
          cases h : lt a a with
          | false => rfl
          | true => have := o.asym a a h; rw [h] at this; cases this
        split at hj
        · rename_i h
          subst hj
          refine ⟨.inr rfl, h.1, fun c hc hcn => ?_⟩
          rcases hc with rfl | rfl
          · exact o.asym _ _ h.2
          · exact irr _
        · rename_i h
          subst hj
          refine ⟨.inl rfl, by omega, fun c hc hcn => ?_⟩
          rcases hc with rfl | rfl
          · exact irr _
          · cases h2 : lt (g A (2 * i + 2)) (g A (2 * i + 1)) with
            | false => rfl
            | true => exact absurd ⟨hcn, h2⟩ h
      obtain ⟨ja, jb, jc⟩ := hj2
      have jp : (j - 1) / 2 = i := by omega
      by_cases ht : lt (g A j) (g A i) = true
      · rw [if_pos ht]
        have hiA : i < A.length := by omega
        have hjA : j < A.length := by omega
        have gs : ∀ k, g (swp A i j) k = if k = j then g A i else if k = i then g A j else g A k := fun k => g_swp hiA hjA
        obtain ⟨r1, r2, r3, r4⟩ := dn_law o m (swp A i j) n j s (by rw [swp_len]; exact hn) jb (by omega) (by omega) (fun c c0 cn cs cp => by
          rw [gs, gs, if_neg (fun h => by subst h; omega : ¬ (c - 1) / 2 = j)]
          by_cases e1 : c = j
          · subst e1
            rw [if_pos rfl, if_pos jp]
            exact o.asym _ _ ht
          · rw [if_neg e1]
            by_cases e2 : c = i
            · subst e2
              rw [if_pos rfl, if_neg (by omega)]
              exact h2 j (by omega) jb jp c0 cs
            · rw [if_neg e2]
              by_cases e3 : (c - 1) / 2 = i
              · rw [if_pos e3]
                exact jc c (by omega) cn
              · rw [if_neg e3]
                exact h1 c c0 cn cs e3) (fun c c0 cn cp j0 js => by
          rw [gs, gs, if_neg (by omega), if_neg (by omega), jp, if_neg (by omega), if_pos rfl, ← cp]
          exact h1 c c0 cn (by omega) (by omega))
        exact ⟨r1, r2.trans (swp_perm hiA hjA), by rw [r3, swp_len], fun k hk => by rw [r4 k hk, gs, if_neg (by omega), if_neg (by omega)]⟩
      · rw [if_neg ht]
        have ht' : lt (g A j) (g A i) = false := by simpa using ht
        refine ⟨fun c c0 cn cs => ?_, .refl _, rfl, fun _ _ => rfl⟩
        by_cases e : (c - 1) / 2 = i
        · rw [e]
          exact o.trans _ _ _ ht' (jc c (by omega) cn)
        · exact h1 c c0 cn cs e
/-- The root is the least. -/
theorem hp_root (o : Ord lt) {A : List α} {n : Nat} (h : HP lt A n 0) : ∀ c, c < n → lt (g A c) (g A 0) = false := by
  intro c
  induction c using Nat.strongRecOn with
  | _ c ih =>
    intro hc
    by_cases h0 : c = 0
    · subst h0
      cases h : lt (g A 0) (g A 0) with
      | false => rfl
      | true => have := o.asym _ _ h; rw [h] at this; cases this
    · exact o.trans _ _ _ (ih ((c - 1) / 2) (by omega) (by omega)) (h c (by omega) hc (by omega))
end
end Go.Proofs.Ytidpbnbjpglhfaa.V
namespace Go.Proofs.Ytidpbnbjpglhfaa.V
open Go
set_option linter.unusedVariables false
set_option linter.unusedSimpArgs false
abbrev Rw8 := S_api_Row
abbrev cW (x : Rw8) : List Value := x.cells
theorem cW_len (x : Rw8) : (cW x).length = 7 := rfl
abbrev cF (x : S_merge_front) : List Value := x.cells
theorem cF_len (x : S_merge_front) : (cF x).length = 2 := rfl
/-- A front: its slice, its list's number; the rows that are read there. -/
structure Fr where
  f : S_merge_front
  R : List Rw8
instance : Inhabited S_api_Row := ⟨⟨⟨0, ⟨#[]⟩, 0⟩, ⟨0, 0, 0, 0⟩⟩⟩
instance : Inhabited Fr := ⟨⟨⟨⟨none, 0, 0⟩, 0⟩, []⟩⟩
def hdF (a : Fr) : Rw8 := a.R.headD default
def or2 (a b : Int) : Int := if a ≠ 0 then a else b
def ltF (a b : Fr) : Bool := decide (or2 (cmpC (hdF a).Cell (hdF b).Cell) (cmpI a.f.list b.f.list) < 0)
theorem cmpI_val (a b : Int) : (a < b ∧ cmpI a b = -1) ∨ (a = b ∧ cmpI a b = 0) ∨ (b < a ∧ cmpI a b = 1) := by
  unfold cmpI
  by_cases h1 : a < b
  · simp [h1]
  · by_cases h2 : b < a
    · right; right; simp [h1, h2]
    · right; left; simp [h1, h2]; omega
theorem ltF_iff {a b : Fr} : ltF a b = true ↔ cmpC (hdF a).Cell (hdF b).Cell = -1 ∨ (cmpC (hdF a).Cell (hdF b).Cell = 0 ∧ a.f.list < b.f.list) := by
  unfold ltF or2
  rw [decide_eq_true_eq]
  have h1 := cC_range (hdF a).Cell (hdF b).Cell
  have h2 := cmpI_val a.f.list b.f.list
  split
  · omega
  · omega
theorem ltF_ord : Ord ltF where
  asym a b h := by
    cases hb : ltF b a with
    | false => rfl
    | true =>
      rw [ltF_iff] at h hb
      have := cC_anti (hdF a).Cell (hdF b).Cell
      omega
  trans a b c h1 h2 := by
    cases hc : ltF c a with
    | false => rfl
    | true =>
      have n1 : ¬ ltF b a = true := by rw [h1]; simp
      have n2 : ¬ ltF c b = true := by rw [h2]; simp
      rw [ltF_iff] at n1 n2 hc
      have ra := cC_range (hdF b).Cell (hdF a).Cell
      have rb := cC_range (hdF c).Cell (hdF b).Cell
      have a1 := cC_anti (hdF b).Cell (hdF a).Cell
      have a2 := cC_anti (hdF c).Cell (hdF b).Cell
      have a3 := cC_anti (hdF c).Cell (hdF a).Cell
      have l1 : cmpC (hdF a).Cell (hdF b).Cell ≤ 0 := by omega
      have l2 : cmpC (hdF b).Cell (hdF c).Cell ≤ 0 := by omega
      have l3 := cC_le_trans l1 l2
      rcases hc with hc | ⟨hc, hl⟩
      · omega
      · have e1 : (hdF c).Cell = (hdF a).Cell := cC_zero.1 hc
        rw [e1] at rb a2 l2 n2
        by_cases hz : cmpC (hdF b).Cell (hdF a).Cell = 0
        · omega
        · omega
theorem add0 (a : Addr) : a.add 0 = a := by unfold Addr.add; simp
theorem Cells.pre {h : H} {a : Addr} {x y : List Value} (c : Cells h a (x ++ y)) : Cells h a x := fun i v hv => c i v (by rw [List.getElem?_append_left (List.getElem?_eq_some_iff.1 hv).1]; exact hv)
section
variable {h0 hk h h' : H} {n : Nat} {s : Sl} {G : List Fr}
theorem or2_spec {n : Nat} {a b : Int} {Q : Int → H → Prop} (bl : Blk h n #[.int .i64 a, .int .i64 b] 3) (k : Q (or2 a b) h) : F.cmp_Or_int ⟨some ⟨n, 0, none⟩, 2, 2⟩ h Q := by
  unfold F.cmp_Or_int
  unfold or2 at k
  refine ⟨3, ?_⟩
  have c0 : cellH h ⟨n, 0, none⟩ = some (.int .i64 a) := bl.cell rfl
  have c1 : cellH h ⟨n, 1, none⟩ = some (.int .i64 b) := bl.cell rfl
  unfold F.cmp_Or_int.l1
  refine ⟨fun _ => ?_, fun g => by simp at g⟩
  refine idxA_of (i := 0) rfl (by simp) rfl ?_
  rw [Nat.zero_mul, ldI_iff c0, bne_iff_ne, bne_eq_false_iff_eq]
  refine ⟨fun g => by rw [if_pos g] at k; exact k, fun g => ?_⟩
  rw [if_neg (by simpa using g)] at k
  rw [show IntKind.wrap .i64 (0 + 1) = ((1 : Nat) : Int) from by decide]
  unfold F.cmp_Or_int.l1
  refine ⟨fun _ => ?_, fun g => by simp at g⟩
  refine idxA_of (i := 1) rfl (by simp) rfl ?_
  rw [Nat.one_mul, ldI_iff c1, bne_iff_ne, bne_eq_false_iff_eq]
  refine ⟨fun g => k, fun g => ?_⟩
  rw [show IntKind.wrap .i64 (((1 : Nat) : Int) + 1) = ((2 : Nat) : Int) from by decide]
  unfold F.cmp_Or_int.l1
  refine ⟨fun g => by simp at g, fun _ => ?_⟩
  rw [g] at k; exact k
/-- What is kept: all slices but those of fronts. -/
structure Keep (hk h : H) : Prop where
  w : ∀ {r : Sl} {e : TypeId} {k : Nat} {cs : List Value}, Owns hk r e k cs → e ≠ tn_merge_front → e ≠ tn_merge_fronts → Owns h r e k cs
theorem Keep.refl (h : H) : Keep h h := ⟨fun w _ _ => w⟩
theorem own_ne {h : H} {s : Sl} {n : Nat} {cs : List Value} {k : Nat} {c : Array Value} {e e' : TypeId} (w : Owns h s e k cs) (b : Blk h n c e') (he : e ≠ e') : s.blk ≠ some n := fun hb => by
  obtain ⟨_, ⟨q1, q2, q3⟩ | ⟨b', c', q1, q2, _⟩⟩ := w
  · simp [Sl.blk, q1] at hb
  · simp [Sl.blk, q1] at hb
    subst hb
    unfold Blk at q2 b
    rw [q2] at b; cases b; exact he rfl
theorem Keep.ext {hk h h' : H} (k : Keep hk h) (e : Ext h h') : Keep hk h' := ⟨fun w h1 h2 => (k.w w h1 h2).ext e⟩
theorem Keep.blk {hk h h' : H} {n : Nat} {c : Array Value} {e' : TypeId} (k : Keep hk h) (o : Only (· = n) h h') (b : Blk h n c e') (he : e' = tn_merge_front ∨ e' = tn_merge_fronts) : Keep hk h' := ⟨fun w h1 h2 =>
  (k.w w h1 h2).only o fun y hy hf => own_ne (k.w w h1 h2) b (fun e => by rcases he with he | he; exact h1 (e.trans he); exact h2 (e.trans he)) (by rw [hy, hf])⟩
theorem Keep.own {hk h h' : H} {s : Sl} {m : Nat} {ds : List Value} (k : Keep hk h) (o : Only (fun b => s.blk = some b) h h') (ws : Owns h s tn_merge_front m ds) : Keep hk h' := ⟨fun w h1 h2 =>
  (k.w w h1 h2).only o fun y hy hf => by
    obtain ⟨_, ⟨q1, q2, q3⟩ | ⟨b', c', q1, q2, _⟩⟩ := ws
    · simp [Sl.blk, q1] at hf
    · simp [Sl.blk, q1] at hf
      subst hf
      exact own_ne (k.w w h1 h2) q2 h1 hy⟩
/-- The fronts, and what they read. -/
structure FS (h0 hk h : H) (n : Nat) (s : Sl) (G : List Fr) : Prop where
  var : Blk h n #[s.enc] tn_merge_fronts
  own : Owns h s tn_merge_front 2 ((G.map (·.f)).flatMap cF)
  mine : Mine h0 s
  lo : h0.size ≤ n
  ext : Ext h0 h
  rows : ∀ f ∈ G, f.R ≠ [] → Reads h0 f.f.rows 7 (f.R.flatMap cW)
  kp : Keep hk h
theorem g_mem {i : Nat} (hi : i < G.length) : G[i]? = some (g G i) := by simp [g, List.getD_eq_getElem?_getD, hi]
theorem FS.at (v : FS h0 hk h n s G) {i : Nat} (hi : i < G.length) {K : Addr → Prop} (k : ∀ a, Cells h a (cF (g G i).f) → K a) : idxA s (i : Int) 2 K := by
  obtain ⟨b, p1, p2⟩ := own_at cF_len (by omega) v.own (i := i) (x := (g G i).f) (by rw [List.getElem?_map, g_mem hi]; rfl)
  have hl := own_len cF_len (by omega) v.own
  rw [List.length_map] at hl
  exact idxA_of (i := i) p1 (by rw [hl]; exact hi) rfl (k _ p2)
theorem FS.e (v : FS h0 hk h n s G) (e : Ext h h') : FS h0 hk h' n s G := ⟨e.block v.var (fun f => f), v.own.ext e, v.mine, v.lo, v.ext.trans e, v.rows, v.kp.ext e⟩
theorem hd_cell (v : FS h0 hk h n s G) {i : Nat} (hi : i < G.length) (hne : (g G i).R ≠ []) {K : Cel → Prop} (k : K (hdF (g G i)).Cell) : idxA (g G i).f.rows 0 7 fun a => ld_S_api_Cell h (a.add 0) K := by
  have rd := v.rows _ (List.mem_of_getElem? (g_mem hi)) hne
  obtain ⟨x, t, hx⟩ : ∃ x t, (g G i).R = x :: t := by
    cases hR : (g G i).R with
    | nil => exact absurd hR hne
    | cons x t => exact ⟨x, t, rfl⟩
  have rd' := rd.only v.ext fun _ _ f => f
  rw [hx] at rd'
  obtain ⟨p, p1, p2, p3⟩ := rd_at cW_len (by omega) rd' (i := 0) (x := x) rfl
  have hl := rd_len cW_len (by omega) rd'
  refine idxR_of (i := 0) p1 (by rw [hl]; simp) rfl ?_
  rw [add0]
  have : hdF (g G i) = x := by unfold hdF; rw [hx]; rfl
  rw [this] at k
  exact ⟨x.Cell, Cells.pre p3, k⟩
theorem Less_spec {i j : Nat} {Q : Bool → H → Prop} (v : FS h0 hk h n s G) (hi : i < G.length) (hj : j < G.length) (ni : (g G i).R ≠ []) (nj : (g G j).R ≠ []) (k : ∀ h', Ext h h' → Q (ltF (g G i) (g G j)) h') : F.merge_fronts_Less s (i : Int) (j : Int) h Q := by
  unfold F.merge_fronts_Less
  have c0 : ∀ {a : Addr} {x : S_merge_front}, Cells h a (cF x) → cellH h (a.add 0) = some x.rows.enc := fun c => c 0 _ rfl
  have c1 : ∀ {a : Addr} {x : S_merge_front}, Cells h a (cF x) → cellH h (a.add 1) = some (.int .i64 x.list) := fun c => c 1 _ rfl
  refine v.at hi fun a1 d1 => (ldL_iff (c0 d1)).2 (hd_cell v hi ni (v.at hj fun a2 d2 => (ldL_iff (c0 d2)).2 (hd_cell v hj nj ?_)))
  refine v.at hi fun a3 d3 => (ldI_iff (c1 d3)).2 (v.at hj fun a4 d4 => (ldI_iff (c1 d4)).2 ?_)
  refine Compare_spec fun h1 e1 => ⟨e1.cell (c1 d4) (fun f => f), e1.cell (c1 d3) (fun f => f), cmpInt_spec ?_⟩
  refine newL_of fun m h2 hm b2 e2 s2 => or2_spec b2 (k h2 (e1.trans e2))
theorem Swap_spec {i j : Nat} {Q : H → Prop} (v : FS h0 hk h n s G) (hi : i < G.length) (hj : j < G.length) (k : ∀ h', FS h0 hk h' n s (swp G i j) → Q h') : F.merge_fronts_Swap s (i : Int) (j : Int) h Q := by
  unfold F.merge_fronts_Swap
  have hl := own_len cF_len (by omega) v.own
  rw [List.length_map] at hl
  refine v.at hj fun a1 d1 => ⟨_, d1, v.at hi fun a2 d2 => ⟨_, d2, ?_⟩⟩
  obtain ⟨b, p1, p2⟩ := own_at cF_len (by omega) v.own (i := i) (x := (g G i).f) (by rw [List.getElem?_map, g_mem hi]; rfl)
  refine idxA_of (i := i) p1 (by rw [hl]; exact hi) rfl ?_
  refine own_setAt (i := i) (x := (g G j).f) cF_len v.own p1 (by simpa using hi) fun h1 w1 o1 s1 => ?_
  refine idxA_of (i := j) p1 (by rw [hl]; exact hj) rfl ?_
  refine own_setAt (i := j) (x := (g G i).f) cF_len w1 p1 (by simpa using hj) fun h2 w2 o2 s2 => ?_
  have o : Only (fun b => s.blk = some b) h h2 := o1.trans o2 fun _ _ e => e
  have hnb : s.blk ≠ some n := fun hb => by
    obtain ⟨_, ⟨q1, _⟩ | ⟨b', c', q1, q2, _⟩⟩ := v.own
    · rw [q1] at p1; cases p1
    · simp [Sl.blk, q1] at hb
      subst hb
      have := v.var
      unfold Blk at q2 this
      rw [q2] at this; cases this
  refine k h2 ⟨o.block v.var hnb, ?_, v.mine, v.lo, v.ext.mine v.mine o, fun f hf => v.rows f ((swp_perm hi hj).mem_iff.1 hf), v.kp.own o v.own⟩
  have : (swp G i j).map (·.f) = (((G.map (·.f)).set i (g G j).f).set j (g G i).f) := by unfold swp; rw [List.map_set, List.map_set]
  rw [this]; exact w2
theorem FS.ldv (v : FS h0 hk h n s G) {K : Sl → Prop} (k : K s) : ldL h ⟨n, 0, none⟩ K := (ldL_iff (v.var.cell (i := 0) rfl)).2 k
theorem down_loop {n0 i0 : Nat} {Q : Bool → H → Prop} : ∀ (m i : Nat) (h : H) (G : List Fr), n0 ≤ G.length → n0 < 1000000 → i < 1000000 → n0 - i ≤ m → FS h0 hk h n s G → (∀ j, j < n0 → (g G j).R ≠ []) →
    (∀ h', FS h0 hk h' n s (dn ltF m G n0 i).1 → Q (decide ((((dn ltF m G n0 i).2 : Nat) : Int) > (i0 : Int))) h') →
    F.container_heap_down.l2 Q (m + 1) (some ⟨n, 0, none⟩) (i0 : Int) (n0 : Int) (i : Int) h := by
  intro m
  induction m with
  | zero =>
    intro i h G hn hn0 hi hm v ne k
    unfold F.container_heap_down.l2
    rw [w64 (n := 2 * (i : Int)) (by omega) (by omega), w64 (n := 2 * (i : Int) + 1) (by omega) (by omega)]
    refine ⟨fun _ => ?_, fun g => by simp at g; omega⟩
    unfold F.container_heap_down.j6 F.container_heap_down.j1
    refine ⟨fun _ => k h v, fun g => (by cases g)⟩
  | succ m ih =>
    intro i h G hn hn0 hi hm v ne k
    unfold F.container_heap_down.l2
    rw [w64 (n := 2 * (i : Int)) (by omega) (by omega), w64 (n := 2 * (i : Int) + 1) (by omega) (by omega)]
    unfold dn at k
    refine ⟨fun g1 => ?_, fun g1 => ?_⟩
    · rw [if_pos (by simp at g1; omega)] at k
      unfold F.container_heap_down.j6 F.container_heap_down.j1
      exact ⟨fun _ => k h v, fun g => (by cases g)⟩
    · have hlt : ¬ n0 ≤ 2 * i + 1 := by simp at g1; omega
      rw [if_neg hlt] at k
      rw [decide_eq_false (show ¬ 2 * (i : Int) + 1 < 0 by omega)]
      unfold F.container_heap_down.j6
      refine ⟨fun g => (by cases g), fun _ => ?_⟩
      unfold F.container_heap_down.j3
      rw [w64 (n := 2 * (i : Int) + 1 + 1) (by omega) (by omega)]
      have q1 : (2 * (i : Int) + 1) = ((2 * i + 1 : Nat) : Int) := by omega
      have q2 : (2 * (i : Int) + 1 + 1) = ((2 * i + 2 : Nat) : Int) := by omega
      rw [q2, q1]
      -- the lesser child
      have j4 : ∀ (j : Nat) (h : H), FS h0 hk h n s G → j < n0 → (if 2 * i + 2 < n0 ∧ ltF (g G (2 * i + 2)) (g G (2 * i + 1)) = true then 2 * i + 2 else 2 * i + 1) = j → F.container_heap_down.j4 Q (F.container_heap_down.l2 Q (m + 1)) (some ⟨n, 0, none⟩) (i0 : Int) (n0 : Int) (i : Int) (j : Int) h := by
        intro j h v hj hje
        rw [hje] at k
        have hji : j = 2 * i + 1 ∨ j = 2 * i + 2 := by rw [← hje]; split <;> omega
        unfold F.container_heap_down.j4
        refine ⟨_, rfl, v.ldv (Less_spec v (by omega) (by omega) (ne j hj) (ne i (by omega)) fun h1 e1 => ⟨fun g => ?_, fun g => ⟨_, rfl, ?_⟩⟩)⟩
        · rw [if_neg (by simpa using g)] at k
          unfold F.container_heap_down.j1
          exact k h1 (v.e e1)
        · rw [if_pos (by simpa using g)] at k
          have v1 := v.e e1
          refine v1.ldv (Swap_spec v1 (by omega) (by omega) fun h2 v2 => ?_)
          exact ih j h2 _ (by rw [swp_len]; exact hn) hn0 (by omega) (by omega) v2 (fun q hq => by
            rw [g_swp (by omega) (by omega)]
            split
            · exact ne i (by omega)
            · split
              · exact ne j hj
              · exact ne q hq) k
      have j5 : ∀ (b : Bool) (h : H), FS h0 hk h n s G → (b = decide (2 * i + 2 < n0 ∧ ltF (g G (2 * i + 2)) (g G (2 * i + 1)) = true)) → F.container_heap_down.j5 Q (F.container_heap_down.l2 Q (m + 1)) (some ⟨n, 0, none⟩) (i0 : Int) (n0 : Int) (i : Int) ((2 * i + 1 : Nat) : Int) ((2 * i + 2 : Nat) : Int) b h := by
        intro b h v hb
        unfold F.container_heap_down.j5
        refine ⟨fun g => ?_, fun g => ?_⟩
        · rw [hb] at g
          have hc := of_decide_eq_true g
          exact j4 _ h v hc.1 (if_pos hc)
        · rw [hb] at g
          have hc := of_decide_eq_false g
          exact j4 _ h v (by omega) (if_neg hc)
      refine ⟨fun gg => ⟨_, rfl, v.ldv ?_⟩, fun gg => j5 _ h v ?_⟩
      · have hc : 2 * i + 2 < n0 := by simp at gg; omega
        refine Less_spec v (by omega) (by omega) (ne _ hc) (ne _ (by omega)) fun h1 e1 => j5 _ h1 (v.e e1) ?_
        cases ltF (g G (2 * i + 2)) (g G (2 * i + 1)) <;> simp [hc]
      · have hc : ¬ 2 * i + 2 < n0 := by simp at gg; omega
        simp [hc]
theorem down_spec {n0 i0 : Nat} {Q : Bool → H → Prop} (v : FS h0 hk h n s G) (hn : n0 ≤ G.length) (hn0 : n0 < 1000000) (hi : i0 < 1000000) (ne : ∀ j, j < n0 → (g G j).R ≠ []) (k : ∀ h', FS h0 hk h' n s (dn ltF (n0 - i0) G n0 i0).1 → ∀ b, Q b h') :
    F.container_heap_down (some ⟨n, 0, none⟩) (i0 : Int) (n0 : Int) h Q := by
  unfold F.container_heap_down
  exact ⟨n0 - i0 + 1, down_loop (n0 - i0) i0 h G hn hn0 hi (Nat.le_refl _) v ne fun h' v' => k h' v' _⟩
end
end Go.Proofs.Ytidpbnbjpglhfaa.V
namespace Go.Proofs.Ytidpbnbjpglhfaa.V
open Go
set_option linter.unusedVariables false
set_option linter.unusedSimpArgs false
section
variable {h0 hk h h' : H} {n : Nat} {s : Sl} {G : List Fr}
/-- All of it is a heap. -/
abbrev Heap (G : List Fr) : Prop := HP ltF G G.length 0
theorem Init_loop {Q : H → Prop} : ∀ (m : Nat) (i : Nat) (h : H) (G : List Fr), G.length < 1000000 → i ≤ G.length / 2 → i < m → FS h0 hk h n s G → (∀ f ∈ G, f.R ≠ []) → HP ltF G G.length i →
    (∀ h' G', FS h0 hk h' n s G' → G'.Perm G → Heap G' → Q h') → F.container_heap_Init.l1 Q m (some ⟨n, 0, none⟩) (G.length : Int) ((i : Int) - 1) h := by
  intro m
  induction m with
  | zero => intro i h G _ _ hm; omega
  | succ m ih =>
    intro i h G hn hi hm v ne hp k
    unfold F.container_heap_Init.l1
    refine ⟨fun g => ?_, fun g => ?_⟩
    · have hi0 : 0 < i := by simp at g; omega
      have e1 : ((i : Int) - 1) = ((i - 1 : Nat) : Int) := by omega
      rw [e1]
      have law := dn_law ltF_ord (G.length - (i - 1)) G G.length (i - 1) (i - 1) (Nat.le_refl _) (by omega) (Nat.le_refl _) (Nat.le_refl _) (fun c c0 cn cs cp => hp c c0 cn (by omega)) (fun c c0 cn cp c1 c2 => by omega)
      refine down_spec v (Nat.le_refl _) hn (by omega) (fun j hj => ne _ (List.mem_of_getElem? (g_mem hj))) fun h1 v1 b => ?_
      rw [w64 (by omega) (by omega)]
      obtain ⟨r1, r2, r3, r4⟩ := law
      have := ih (i - 1) h1 (dn ltF (G.length - (i - 1)) G G.length (i - 1)).1 (by rw [r3]; exact hn) (by rw [r3]; omega) (by omega) v1 (fun f hf => ne f (r2.mem_iff.1 hf)) (by rw [r3]; exact r1) fun h' G' v' p' hp' => k h' G' v' (p'.trans r2) hp'
      rw [r3] at this
      exact this
    · have : i = 0 := by simp at g; omega
      subst this
      exact k h G v (.refl _) hp
theorem tdiv2 {a : Nat} : Int.tdiv (a : Int) 2 = ((a / 2 : Nat) : Int) := by
  rw [Int.tdiv_eq_ediv_of_nonneg (by omega)]; omega
theorem Init_spec {Q : H → Prop} (v : FS h0 hk h n s G) (ne : ∀ f ∈ G, f.R ≠ []) (hn : G.length < 1000000) (k : ∀ h' G', FS h0 hk h' n s G' → G'.Perm G → Heap G' → Q h') : F.container_heap_Init (some ⟨n, 0, none⟩) h Q := by
  unfold F.container_heap_Init
  refine ⟨_, rfl, v.ldv ?_⟩
  unfold F.merge_fronts_Len
  have hl := own_len cF_len (by omega) v.own
  rw [List.length_map] at hl
  rw [hl]
  refine ⟨by decide, G.length / 2 + 1, ?_⟩
  rw [tdiv2, w64 (n := ((G.length / 2 : Nat) : Int)) (by omega) (by omega), w64 (by omega) (by omega)]
  exact Init_loop (G.length / 2 + 1) (G.length / 2) h G hn (by omega) (by omega) v ne (fun c c0 cn cs => by omega) k
/-- The last one is taken off. -/
theorem Pop_method {Q : Value → H → Prop} (v : FS h0 hk h n s G) (hG : 0 < G.length) (hn : G.length < 1000000) (k : ∀ u h' s', FS h0 hk h' n s' G.dropLast → Q u h') : F.merge_fronts_Pop (some ⟨n, 0, none⟩) h Q := by
  unfold F.merge_fronts_Pop
  have hl := own_len cF_len (by omega) v.own
  rw [List.length_map] at hl
  refine ⟨_, rfl, v.ldv ?_⟩
  rw [hl, w64 (by omega) (by omega)]
  have e1 : ((G.length : Int) - 1) = ((G.length - 1 : Nat) : Int) := by omega
  rw [e1]
  refine v.at (by omega) fun a1 d1 => ⟨_, d1, ?_⟩
  refine new_of fun m h1 hm b1 x1 s1 => ?_
  refine stH_of b1 (by simp [S_merge_front.cells]) fun h2 b2 o2 s2 => ?_
  rw [writeA_all (by simp [S_merge_front.cells])] at b2
  have x2 : Ext h h2 := x1.step o2 fun y hy e => by omega
  have v2 := v.e x2
  have hcap : s.len ≤ s.cap ∧ s.cap ≤ maxLen ∧ ∃ b, s.ptr = some ⟨b, 0, none⟩ := by
    obtain ⟨_, ⟨q1, q2, q3⟩ | ⟨b', c', q1, q2, q3, q4, q5, q6⟩⟩ := v.own
    · omega
    · exact ⟨q4, q5, b', q1⟩
  refine ⟨slcut s 0 (G.length - 1) 2, ⟨by omega, by omega, by omega, by simp⟩, ⟨_, rfl, ?_⟩⟩
  refine stH_of v2.var (by simp) fun h3 b3 o3 s3 => ?_
  rw [writeA_all (by simp)] at b3
  have hmn : m ≠ n := by have := block_lt v.var; omega
  have b2' : Blk h3 m _ _ := o3.block b2 (fun e => hmn e)
  refine ⟨_, fun j u hu => by rw [add_lit, Nat.zero_add]; exact b2'.cell (by simpa using hu), ?_⟩
  have hnb : s.blk ≠ some n := fun hb => by
    obtain ⟨_, ⟨q1, q2, q3⟩ | ⟨b', c', q1, q2, _⟩⟩ := v2.own
    · simp [Sl.blk, q1] at hb
    · simp [Sl.blk, q1] at hb
      subst hb
      have := v2.var
      unfold Blk at q2 this
      rw [q2] at this; cases this
  have hb0 := hcap.2.2
  obtain ⟨b, hb⟩ := hb0
  have hcut : slcut s 0 (G.length - 1) 2 = ⟨some ⟨b, 0, none⟩, G.length - 1, s.cap⟩ := by
    unfold slcut
    rw [if_neg (by omega), hb]
    simp [add_lit]
  rw [hcut] at b3
  have w2 := v2.own
  refine k _ h3 _ ⟨b3, ?_, fun y hy => v.mine y (by simp [Sl.blk] at hy ⊢; simp [hb, hy]), v.lo, v2.ext.step o3 fun y hy e => by have := v.lo; omega, fun f hf => v.rows f (List.dropLast_subset _ hf), v2.kp.blk o3 v2.var (.inr rfl)⟩
  have w3 := w2.only o3 fun y hy e => hnb (by rw [← e]; exact hy)
  obtain ⟨r1, ⟨q1, q2, q3⟩ | ⟨b', c', q1, q2, q3, q4, q5, q6⟩⟩ := w3
  · omega
  · rw [hb] at q1
    cases q1
    have hfl : ((G.map (·.f)).flatMap cF).length = G.length * 2 := by rw [flat_len _ 2 cF_len]; simp
    have hdl : ((G.dropLast.map (·.f)).flatMap cF) = ((G.map (·.f)).flatMap cF).take ((G.length - 1) * 2) := by
      have hne : G ≠ [] := by intro e; subst e; simp at hG
      have hGs := List.dropLast_concat_getLast hne
      have hfd : ((G.dropLast.map (·.f)).flatMap cF).length = (G.length - 1) * 2 := by rw [flat_len _ 2 cF_len]; simp
      have e : ((G.map (·.f)).flatMap cF) = ((G.dropLast.map (·.f)).flatMap cF) ++ (([G.getLast hne].map (·.f)).flatMap cF) := by rw [← List.flatMap_append, ← List.map_append, hGs]
      rw [e, List.take_left' hfd]
    refine ⟨by rw [hdl]; simp [hfl], .inr ⟨b, c', rfl, q2, q3, by show G.length - 1 ≤ s.cap; omega, q5, ?_⟩⟩
    rw [hdl, List.length_take, hfl, Nat.min_eq_left (by omega)]
    rw [hfl] at q6
    rw [← q6, List.take_take, Nat.min_eq_left (by omega)]
theorem dropLast_g {A : List Fr} {c : Nat} (h : c < A.length - 1) : g A.dropLast c = g A c := by
  simp only [g, List.getD_eq_getElem?_getD]
  rw [List.getElem?_dropLast, if_pos h]
/-- The least one is taken off. -/
theorem Pop_spec {Q : Value → H → Prop} (v : FS h0 hk h n s G) (hG : 0 < G.length) (hn : G.length < 1000000) (hp : ∀ c, 0 < c → c < G.length → (c - 1) / 2 ≠ 0 → ltF (g G c) (g G ((c - 1) / 2)) = false) (ne : ∀ j, 0 < j → j < G.length → (g G j).R ≠ [])
    (k : ∀ u h' s' G', FS h0 hk h' n s' G' → (g G 0 :: G').Perm G → Heap G' → Q u h') : F.container_heap_Pop (some ⟨n, 0, none⟩) h Q := by
  unfold F.container_heap_Pop
  have hl := own_len cF_len (by omega) v.own
  rw [List.length_map] at hl
  refine ⟨_, rfl, v.ldv ?_⟩
  unfold F.merge_fronts_Len
  rw [hl]
  refine ⟨_, rfl, v.ldv ?_⟩
  rw [w64 (by omega) (by omega)]
  have e1 : ((G.length : Int) - 1) = ((G.length - 1 : Nat) : Int) := by omega
  rw [e1]
  have q0 : (0 : Int) = ((0 : Nat) : Int) := rfl
  rw [q0]
  refine Swap_spec v (by omega) (by omega) fun h1 v1 => ?_
  have hgs : ∀ k, g (swp G 0 (G.length - 1)) k = if k = G.length - 1 then g G 0 else if k = 0 then g G (G.length - 1) else g G k := fun k => g_swp (by omega) (by omega)
  have hsl := swp_len G 0 (G.length - 1)
  have key : ∀ (A : List Fr), A.length = G.length → A.Perm (swp G 0 (G.length - 1)) → (∀ c, G.length - 1 ≤ c → g A c = g (swp G 0 (G.length - 1)) c) → HP ltF A (G.length - 1) 0 → (g G 0 :: A.dropLast).Perm G ∧ Heap A.dropLast := by
    intro A hA hperm hback hhp
    constructor
    · have hne : A ≠ [] := by intro e; rw [e] at hA; simp at hA; omega
      have hlast : A.getLast hne = g G 0 := by
        have : g A (G.length - 1) = g G 0 := by rw [hback _ (Nat.le_refl _), hgs, if_pos rfl]
        rw [List.getLast_eq_getElem, ← this]
        simp [g, List.getD_eq_getElem?_getD, hA, hG]
        rw [List.getElem?_eq_getElem (by omega)]; rfl
      have h1 : (A.dropLast ++ [g G 0]).Perm G := by
        rw [← hlast, List.dropLast_concat_getLast hne]
        exact hperm.trans (swp_perm (by omega) (by omega))
      exact (List.perm_append_singleton _ _).symm.trans h1
    · intro c c0 cn cs
      rw [List.length_dropLast, hA] at cn
      rw [dropLast_g (by omega), dropLast_g (by omega)]
      exact hhp c c0 cn cs
  refine down_spec v1 (by omega) (by omega) (by omega) (fun j hj => by
    rw [hgs, if_neg (by omega)]
    split
    · exact ne _ (by omega) (by omega)
    · exact ne j (by omega) (by omega)) fun h2 v2 b => ?_
  by_cases h1n : G.length = 1
  · have hd : (dn ltF (G.length - 1 - 0) (swp G 0 (G.length - 1)) (G.length - 1) 0).1 = swp G 0 (G.length - 1) := by
      rw [h1n]; rfl
    rw [hd] at v2
    obtain ⟨r1, r2⟩ := key _ hsl (.refl _) (fun _ _ => rfl) (fun c c0 cn cs => by omega)
    exact Pop_method v2 (by omega) (by omega) fun u h3 s3 v3 => k u h3 s3 _ v3 r1 r2
  · obtain ⟨r1, r2, r3, r4⟩ := dn_law ltF_ord (G.length - 1 - 0) (swp G 0 (G.length - 1)) (G.length - 1) 0 0 (by omega) (by omega) (Nat.le_refl _) (by omega) (fun c c0 cn cs cp => by
      rw [hgs, hgs, if_neg (by omega), if_neg (by omega), if_neg (by omega), if_neg (by omega)]
      exact hp c c0 (by omega) cp) (fun c c0 cn cp c1 c2 => by omega)
    obtain ⟨t1, t2⟩ := key _ (by omega) r2 r4 r1
    exact Pop_method v2 (by omega) (by omega) fun u h3 s3 v3 => k u h3 s3 _ v3 t1 t2
/-- The root was changed. -/
theorem Fix_spec {Q : H → Prop} (v : FS h0 hk h n s G) (hG : 0 < G.length) (hn : G.length < 1000000) (ne : ∀ f ∈ G, f.R ≠ []) (h1 : ∀ c, 0 < c → c < G.length → (c - 1) / 2 ≠ 0 → ltF (g G c) (g G ((c - 1) / 2)) = false)
    (k : ∀ h' G', FS h0 hk h' n s G' → G'.Perm G → Heap G' → Q h') : F.container_heap_Fix (some ⟨n, 0, none⟩) 0 h Q := by
  unfold F.container_heap_Fix
  have hl := own_len cF_len (by omega) v.own
  rw [List.length_map] at hl
  refine ⟨_, rfl, v.ldv ?_⟩
  unfold F.merge_fronts_Len
  rw [hl]
  have q0 : (0 : Int) = ((0 : Nat) : Int) := rfl
  rw [q0]
  obtain ⟨r1, r2, r3, r4⟩ := dn_law ltF_ord (G.length - 0) G G.length 0 0 (Nat.le_refl _) hG (Nat.le_refl _) (by omega) (fun c c0 cn cs cp => h1 c c0 cn cp) (fun c c0 cn cp c1 c2 => by omega)
  refine down_spec v (Nat.le_refl _) hn (by omega) (fun j hj => ne _ (List.mem_of_getElem? (g_mem hj))) fun h2 v2 b => ?_
  have kk := k h2 _ v2 r2 (by unfold Heap; rw [r3]; exact r1)
  refine ⟨fun _ => ?_, fun _ => kk⟩
  unfold F.container_heap_up
  refine ⟨1, ?_⟩
  unfold F.container_heap_up.l1
  refine ⟨by decide, fun _ => ?_, fun g => absurd g (by decide)⟩
  unfold F.container_heap_up.j3
  exact ⟨fun _ => kk, fun g => (by cases g)⟩
end
end Go.Proofs.Ytidpbnbjpglhfaa.V
