/- Printed by a program of this session (gen.py): Go functions as Lean functions over the heap, and that the Go code does what they say; no condition. -/
import Derived.Test.YtidpbnbjpglhfaaGlx1
namespace Go.Proofs.Ytidpbnbjpglhfaa.V
open Go
set_option linter.unusedVariables false
set_option maxRecDepth 100000
def F.spateref8_Rows.j1 (Q : Sl → H → Prop) (x5 : Sl) (h : H) : Prop :=
  Q x5 h
def F.spateref8_Rows.j4 (Q : Sl → H → Prop) (C1 : Int → Sl → Sl → Sl → H → Prop) (C2 : Int → Sl → Sl → Sl → Int → Int → H → Prop) (x0 : Int) (x1 : Sl) (x5 : Sl) (x6 : Sl) (x7 : Int) (x8 : Int) (h : H) : Prop :=
  C2 x0 x1 x5 x6 x7 (IntKind.wrap .i64 (x8 + 1)) h
def F.spateref8_Rows.j5 (Q : Sl → H → Prop) (C1 : Int → Sl → Sl → Sl → H → Prop) (C2 : Int → Sl → Sl → Sl → Int → Int → H → Prop) (x0 : Int) (x1 : Sl) (x5 : Sl) (x6 : Sl) (x7 : Int) (x8 : Int) (x61 : Bool) (h : H) : Prop :=
  (x61 = true →
  F.spateref8_Rows.j4 Q C1 C2 x0 x1 x5 x6 x8 x8 h) ∧
  (x61 = false →
  F.spateref8_Rows.j4 Q C1 C2 x0 x1 x5 x6 x7 x8 h)
def F.spateref8_Rows.l3 (Q : Sl → H → Prop) (C1 : Int → Sl → Sl → Sl → H → Prop) : Nat → Int → Sl → Sl → Sl → Int → Int → H → Prop
  | 0, _, _, _, _, _, _, _ => False
  | q3 + 1, x0, x1, x5, x6, x7, x8, h =>
    ((decide (x8 < (x1.len : Int))) = true →
    idxA x6 x8 1 fun a6 =>
    ldI .i64 h a6 fun y8 =>
    idxA x1 x8 1 fun a10 =>
    ldL h a10 fun y12 =>
    ((decide (y8 < (y12.len : Int))) = true →
    ((decide (x7 < 0)) = true →
    F.spateref8_Rows.j5 Q C1 (F.spateref8_Rows.l3 Q C1 q3) x0 x1 x5 x6 x7 x8 true h) ∧
    ((decide (x7 < 0)) = false →
    idxA x1 x8 1 fun a16 =>
    ldL h a16 fun y18 =>
    idxA x6 x8 1 fun a20 =>
    ldI .i64 h a20 fun y22 =>
    idxA y18 y22 7 fun a24 =>
    ld_S_api_Cell h (a24.add 0) fun y26 =>
    idxA x1 x7 1 fun a28 =>
    ldL h a28 fun y30 =>
    idxA x6 x7 1 fun a32 =>
    ldI .i64 h a32 fun y34 =>
    idxA y30 y34 7 fun a36 =>
    ld_S_api_Cell h (a36.add 0) fun y38 =>
    F.spateref8_Compare y26 y38 h fun r41 h40 =>
    F.spateref8_Rows.j5 Q C1 (F.spateref8_Rows.l3 Q C1 q3) x0 x1 x5 x6 x7 x8 (decide (r41 < 0)) h40)) ∧
    ((decide (y8 < (y12.len : Int))) = false →
    F.spateref8_Rows.j5 Q C1 (F.spateref8_Rows.l3 Q C1 q3) x0 x1 x5 x6 x7 x8 false h)) ∧
    ((decide (x8 < (x1.len : Int))) = false →
    ((decide (x7 < 0)) = true →
    F.spateref8_Rows.j1 Q x5 h) ∧
    ((decide (x7 < 0)) = false →
    idxA x1 x7 1 fun a43 =>
    ldL h a43 fun y45 =>
    idxA x6 x7 1 fun a47 =>
    ldI .i64 h a47 fun y49 =>
    idxA y45 y49 7 fun a51 =>
    ld_S_api_Row h a51 fun y53 =>
    newL h ((y53.cells).toArray) ty_66 1 fun s56 h55 =>
    runL PP (Builtin.append_ #[51, 51] 51 #[x5.enc, s56.enc]) h55 fun s58 h57 =>
    idxA x6 x7 1 fun a59 =>
    ldI .i64 h57 a59 fun y61 =>
    idxA x6 x7 1 fun a63 =>
    stH h57 a63 [(.int .i64 (IntKind.wrap .i64 (y61 + 1)))] fun h65 =>
    C1 x0 x1 s58 x6 h65))
def F.spateref8_Rows.l2 (Q : Sl → H → Prop) : Nat → Int → Sl → Sl → Sl → H → Prop
  | 0, _, _, _, _, _ => False
  | q2 + 1, x0, x1, x5, x6, h =>
    ((decide ((x5.len : Int) < x0)) = true →
    ∃ m, F.spateref8_Rows.l3 Q (F.spateref8_Rows.l2 Q q2) m x0 x1 x5 x6 (-1) 0 h) ∧
    ((decide ((x5.len : Int) < x0)) = false →
    F.spateref8_Rows.j1 Q x5 h)
/-- spate/spateref8.Rows -/
def F.spateref8_Rows (p0 : Int) (p1 : Sl) (h : H) (Q : Sl → H → Prop) : Prop :=
  runL PP (Instr.makeSlice 23 (.int .i64 (p1.len : Int)) (.int .i64 (p1.len : Int))) h fun s2 h1 =>
  ∃ m, F.spateref8_Rows.l2 Q m p0 p1 (⟨none, 0, 0⟩ : Sl) s2 h1
theorem F.spateref8_Rows_ok {p0 : Int} {p1 : Sl} {h : H} {Q : Sl → H → Prop} (H : F.spateref8_Rows p0 p1 h Q) : Fn PP 33 ([(.int .i64 p0), p1.enc] : List Value).toArray h fun r h' => ∃ r0, r = r0.enc ∧ Q r0 h' := by
  unfold F.spateref8_Rows at H
  refine fn_of Try.func33 Try.ntmps33 rfl rfl fun w0 => ?_
  refine tr_sub [(0, (.int .i64 p0)), (1, p1.enc)] ⟨rfl, rfl, trivial⟩ ?_
  refine tr_seq ?_
  refine tr_region ?_
  refine tr_p (y_assign rfl) rfl rfl ?_
  refine tr_nil ?_
  refine tr_thenN ?_
  refine tr_seq ?_
  refine tr_region ?_
  refine tr_p (y_assign rfl) rfl rfl ?_
  refine tr_nil ?_
  refine tr_thenN ?_
  refine tr_seq ?_
  refine tr_region ?_
  refine tr_p (y_move rfl) rfl rfl ?_
  refine tr_p (y_len (ts := #[]) Try.runUnderlying53 (o := p1.ptr) (n := p1.len) (cap := p1.cap) rfl) rfl rfl ?_
  refine tr_e (f_make rfl rfl H) rfl rfl ?_
  rintro _ h1 ⟨s2, rfl, H⟩
  refine tr_p (y_assign rfl) rfl rfl ?_
  refine tr_nil ?_
  refine tr_thenN ?_
  refine tr_seq_j (fun L' h => ∃ (x5 : Sl), L' = [(5, x5.enc)] ∧ F.spateref8_Rows.j1 Q x5 h) ?_ ?_
  · rintro L' h ⟨x5, rfl, H⟩
    unfold F.spateref8_Rows.j1 at H
    refine tr_seq ?_
    refine tr_region ?_
    refine tr_p (y_move rfl) rfl rfl ?_
    refine tr_p (y_assign rfl) rfl rfl ?_
    refine tr_nil ?_
    refine tr_thenN ?_
    refine tr_ret ?_
    exact tr_ret1 rfl rfl ⟨_, rfl, H⟩
  · refine tr_block ?_
    obtain ⟨m67, H⟩ := H
    refine tr_sub [(0, (.int .i64 p0)), (1, p1.enc), (5, (⟨none, 0, 0⟩ : Sl).enc), (6, s2.enc)] ⟨rfl, rfl, rfl, rfl, trivial⟩ ?_
    refine tr_loop_j (fun m L' h => ∃ (x0 : Int) (x1 : Sl) (x5 : Sl) (x6 : Sl), L' = [(0, (.int .i64 x0)), (1, x1.enc), (5, x5.enc), (6, x6.enc)] ∧ F.spateref8_Rows.l2 Q m x0 x1 x5 x6 h) ?_ ?_ m67 ⟨_, _, _, _, rfl, H⟩
    · rintro L' h ⟨_, _, _, _, _, H⟩; exact H
    · rintro q2 L' h ⟨x0, x1, x5, x6, rfl, H⟩
      unfold F.spateref8_Rows.l2 at H
      refine tr_seq ?_
      refine tr_seq ?_
      refine tr_region ?_
      refine tr_p (y_move rfl) rfl rfl ?_
      refine tr_p (y_len (ts := #[]) Try.runUnderlying51 (o := x5.ptr) (n := x5.len) (cap := x5.cap) rfl) rfl rfl ?_
      refine tr_p (y_move rfl) rfl rfl ?_
      refine tr_p (y_lss rfl rfl) rfl rfl ?_
      refine tr_nil ?_
      refine tr_thenN ?_
      refine tr_cond rfl (fun g3 => ?_) (fun g3 => ?_)
      · replace H := H.1 g3
        refine tr_skip ?_
        refine tr_thenN ?_
        refine tr_block ?_
        refine tr_seq ?_
        refine tr_region ?_
        refine tr_p (y_assign rfl) rfl rfl ?_
        refine tr_nil ?_
        refine tr_thenN ?_
        refine tr_seq ?_
        refine tr_seq ?_
        refine tr_region ?_
        refine tr_p (y_assign rfl) rfl rfl ?_
        refine tr_nil ?_
        refine tr_thenN ?_
        refine tr_block ?_
        obtain ⟨m66, H⟩ := H
        refine tr_sub [(0, (.int .i64 x0)), (1, x1.enc), (5, x5.enc), (6, x6.enc), (7, (.int .i64 (-1))), (8, (.int .i64 0))] ⟨rfl, rfl, rfl, rfl, rfl, rfl, trivial⟩ ?_
        refine tr_loop_j (fun m L' h => ∃ (x0 : Int) (x1 : Sl) (x5 : Sl) (x6 : Sl) (x7 : Int) (x8 : Int), L' = [(0, (.int .i64 x0)), (1, x1.enc), (5, x5.enc), (6, x6.enc), (7, (.int .i64 x7)), (8, (.int .i64 x8))] ∧ F.spateref8_Rows.l3 Q (F.spateref8_Rows.l2 Q q2) m x0 x1 x5 x6 x7 x8 h) ?_ ?_ m66 ⟨_, _, _, _, _, _, rfl, H⟩
        · rintro L' h ⟨_, _, _, _, _, _, _, H⟩; exact H
        · rintro q3 L' h ⟨x0, x1, x5, x6, x7, x8, rfl, H⟩
          unfold F.spateref8_Rows.l3 at H
          refine tr_seq ?_
          refine tr_seq ?_
          refine tr_region ?_
          refine tr_p (y_move rfl) rfl rfl ?_
          refine tr_p (y_move rfl) rfl rfl ?_
          refine tr_p (y_len (ts := #[]) Try.runUnderlying53 (o := x1.ptr) (n := x1.len) (cap := x1.cap) rfl) rfl rfl ?_
          refine tr_p (y_lss rfl rfl) rfl rfl ?_
          refine tr_nil ?_
          refine tr_thenN ?_
          refine tr_cond rfl (fun g4 => ?_) (fun g4 => ?_)
          · replace H := H.1 g4
            refine tr_skip ?_
            refine tr_thenN ?_
            refine tr_seq_j (fun L' h => ∃ (x0 : Int) (x1 : Sl) (x5 : Sl) (x6 : Sl) (x7 : Int) (x8 : Int), L' = [(0, (.int .i64 x0)), (1, x1.enc), (5, x5.enc), (6, x6.enc), (7, (.int .i64 x7)), (8, (.int .i64 x8))] ∧ F.spateref8_Rows.j4 Q (F.spateref8_Rows.l2 Q q2) (F.spateref8_Rows.l3 Q (F.spateref8_Rows.l2 Q q2) q3) x0 x1 x5 x6 x7 x8 h) ?_ ?_
            · rintro L' h ⟨x0, x1, x5, x6, x7, x8, rfl, H⟩
              unfold F.spateref8_Rows.j4 at H
              refine tr_region ?_
              refine tr_p (y_move rfl) rfl rfl ?_
              refine tr_p (y_add rfl rfl) rfl rfl ?_
              refine tr_p (y_assign rfl) rfl rfl ?_
              refine tr_nil ?_
              refine tr_thenN ?_
              exact tr_join [(0, (.int .i64 x0)), (1, x1.enc), (5, x5.enc), (6, x6.enc), (7, (.int .i64 x7)), (8, (.int .i64 (IntKind.wrap .i64 (x8 + 1))))] ⟨rfl, rfl, rfl, rfl, rfl, rfl, trivial⟩ ⟨_, _, _, _, _, _, rfl, H⟩
            · refine tr_block ?_
              refine tr_seq_j (fun L' h => ∃ (x0 : Int) (x1 : Sl) (x5 : Sl) (x6 : Sl) (x7 : Int) (x8 : Int) (x61 : Bool), L' = [(0, (.int .i64 x0)), (1, x1.enc), (5, x5.enc), (6, x6.enc), (7, (.int .i64 x7)), (8, (.int .i64 x8)), (61, (.bool x61))] ∧ F.spateref8_Rows.j5 Q (F.spateref8_Rows.l2 Q q2) (F.spateref8_Rows.l3 Q (F.spateref8_Rows.l2 Q q2) q3) x0 x1 x5 x6 x7 x8 x61 h) ?_ ?_
              · rintro L' h ⟨x0, x1, x5, x6, x7, x8, x61, rfl, H⟩
                unfold F.spateref8_Rows.j5 at H
                refine tr_cond rfl (fun g5 => ?_) (fun g5 => ?_)
                · replace H := H.1 g5
                  refine tr_region ?_
                  refine tr_p (y_move rfl) rfl rfl ?_
                  refine tr_p (y_assign rfl) rfl rfl ?_
                  refine tr_nil ?_
                  refine tr_blockN ?_
                  refine tr_thenN ?_
                  exact tr_join [(0, (.int .i64 x0)), (1, x1.enc), (5, x5.enc), (6, x6.enc), (7, (.int .i64 x8)), (8, (.int .i64 x8))] ⟨rfl, rfl, rfl, rfl, rfl, rfl, trivial⟩ ⟨_, _, _, _, _, _, rfl, H⟩
                · replace H := H.2 g5
                  refine tr_skip ?_
                  refine tr_blockN ?_
                  refine tr_thenN ?_
                  exact tr_join [(0, (.int .i64 x0)), (1, x1.enc), (5, x5.enc), (6, x6.enc), (7, (.int .i64 x7)), (8, (.int .i64 x8))] ⟨rfl, rfl, rfl, rfl, rfl, rfl, trivial⟩ ⟨_, _, _, _, _, _, rfl, H⟩
              · refine tr_draw mixed [0, 0, 3, 7, 0, 0, 48, 112, 240, 511, 1023, 2047, 4095, 8191, 16383, 16383, 65535, 131071, 16383, 16383, 802815, 1851391, 4194303, 8388607, 16777215, 16383, 16383, 100679679, 234897407, 16383, 16383, 1610629119, 3758112767, 8556396543, 17146331135, 34326200319, 68719476735, 137438953471, 274877906943, 549755813887] (by kernel_rfl) ?_
                refine g_p 0 1 rfl (by kernel_rfl) (y_move rfl) rfl rfl ?_
                refine g_p 1 3 rfl (by kernel_rfl) (y_move rfl) rfl rfl ?_
                obtain ⟨a6, e7, H⟩ := H
                refine g_p 2 7 rfl (by kernel_rfl) (f_idx (s := x6) Try.runUnderlying23 Try.sizeOf3 rfl rfl e7) rfl rfl ?_
                obtain ⟨y8, k9, H⟩ := H
                refine g_h 3 15 rfl (by kernel_rfl) (y_ld Try.isAgg3 rfl) k9 rfl rfl ?_
                refine g_p 4 31 rfl (by kernel_rfl) (y_move rfl) rfl rfl ?_
                refine g_p 5 63 rfl (by kernel_rfl) (y_move rfl) rfl rfl ?_
                obtain ⟨a10, e11, H⟩ := H
                refine g_p 6 127 rfl (by kernel_rfl) (f_idx (s := x1) Try.runUnderlying53 Try.sizeOf51 rfl rfl e11) rfl rfl ?_
                obtain ⟨y12, k13, H⟩ := H
                refine g_h 7 255 rfl (by kernel_rfl) (y_ld Try.isAgg51 rfl) k13 rfl rfl ?_
                refine g_p 8 511 rfl (by kernel_rfl) (y_len (ts := #[]) Try.runUnderlying51 (o := y12.ptr) (n := y12.len) (cap := y12.cap) rfl) rfl rfl ?_
                refine g_p 9 1023 rfl (by kernel_rfl) (y_lss rfl rfl) rfl rfl ?_
                refine g_p 10 2047 rfl (by kernel_rfl) (y_move rfl) rfl rfl ?_
                refine g_split (t := 32) rfl (fun g14 => ?_) (fun g14 => ?_)
                · replace H := H.1 g14
                  refine g_p 11 4095 rfl (by kernel_rfl) (y_move rfl) rfl rfl ?_
                  refine g_p 12 8191 rfl (by kernel_rfl) (y_lss rfl rfl) rfl rfl ?_
                  refine g_p 13 16383 rfl (by kernel_rfl) (y_move rfl) rfl rfl ?_
                  refine g_split (t := 35) rfl (fun g15 => ?_) (fun g15 => ?_)
                  · replace H := H.1 g15
                    refine g_s 14 32767 rfl (by kernel_rfl) rfl rfl ?_
                    refine g_s 15 65535 rfl (by kernel_rfl) rfl rfl ?_
                    refine g_s 16 131071 rfl (by kernel_rfl) rfl rfl ?_
                    refine g_s 17 262143 rfl (by kernel_rfl) rfl rfl ?_
                    refine g_s 18 524287 rfl (by kernel_rfl) rfl rfl ?_
                    refine g_s 19 1048575 rfl (by kernel_rfl) rfl rfl ?_
                    refine g_s 20 2097151 rfl (by kernel_rfl) rfl rfl ?_
                    refine g_s 21 4194303 rfl (by kernel_rfl) rfl rfl ?_
                    refine g_s 22 8388607 rfl (by kernel_rfl) rfl rfl ?_
                    refine g_s 23 16777215 rfl (by kernel_rfl) rfl rfl ?_
                    refine g_s 24 33554431 rfl (by kernel_rfl) rfl rfl ?_
                    refine g_s 25 67108863 rfl (by kernel_rfl) rfl rfl ?_
                    refine g_s 26 134217727 rfl (by kernel_rfl) rfl rfl ?_
                    refine g_s 27 268435455 rfl (by kernel_rfl) rfl rfl ?_
                    refine g_s 28 536870911 rfl (by kernel_rfl) rfl rfl ?_
                    refine g_s 29 1073741823 rfl (by kernel_rfl) rfl rfl ?_
                    refine g_s 30 2147483647 rfl (by kernel_rfl) rfl rfl ?_
                    refine g_s 31 4294967295 rfl (by kernel_rfl) rfl rfl ?_
                    refine g_s 32 8589934591 rfl (by kernel_rfl) rfl rfl ?_
                    refine g_s 33 17179869183 rfl (by kernel_rfl) rfl rfl ?_
                    refine g_s 34 34359738367 rfl (by kernel_rfl) rfl rfl ?_
                    refine g_s 35 68719476735 rfl (by kernel_rfl) rfl rfl ?_
                    refine g_s 36 137438953471 rfl (by kernel_rfl) rfl rfl ?_
                    refine g_s 37 274877906943 rfl (by kernel_rfl) rfl rfl ?_
                    refine g_p 38 549755813887 rfl (by kernel_rfl) (y_pick_t rfl rfl) rfl rfl ?_
                    refine g_p 39 1099511627775 rfl (by kernel_rfl) (y_pick_t rfl rfl) rfl rfl ?_
                    refine g_d (by kernel_rfl) ?_
                    refine tr_thenN ?_
                    exact tr_join [(0, (.int .i64 x0)), (1, x1.enc), (5, x5.enc), (6, x6.enc), (7, (.int .i64 x7)), (8, (.int .i64 x8)), (61, (.bool true))] ⟨rfl, rfl, rfl, rfl, rfl, rfl, rfl, trivial⟩ ⟨_, _, _, _, _, _, _, rfl, H⟩
                  · replace H := H.2 g15
                    refine g_p 14 32767 rfl (by kernel_rfl) (y_move rfl) rfl rfl ?_
                    refine g_p 15 65535 rfl (by kernel_rfl) (y_move rfl) rfl rfl ?_
                    obtain ⟨a16, e17, H⟩ := H
                    refine g_p 16 131071 rfl (by kernel_rfl) (f_idx (s := x1) Try.runUnderlying53 Try.sizeOf51 rfl rfl e17) rfl rfl ?_
                    obtain ⟨y18, k19, H⟩ := H
                    refine g_h 17 262143 rfl (by kernel_rfl) (y_ld Try.isAgg51 rfl) k19 rfl rfl ?_
                    refine g_p 18 524287 rfl (by kernel_rfl) (y_move rfl) rfl rfl ?_
                    refine g_p 19 1048575 rfl (by kernel_rfl) (y_move rfl) rfl rfl ?_
                    obtain ⟨a20, e21, H⟩ := H
                    refine g_p 20 2097151 rfl (by kernel_rfl) (f_idx (s := x6) Try.runUnderlying23 Try.sizeOf3 rfl rfl e21) rfl rfl ?_
                    obtain ⟨y22, k23, H⟩ := H
                    refine g_h 21 4194303 rfl (by kernel_rfl) (y_ld Try.isAgg3 rfl) k23 rfl rfl ?_
                    obtain ⟨a24, e25, H⟩ := H
                    refine g_p 22 8388607 rfl (by kernel_rfl) (f_idx (s := y18) Try.runUnderlying51 Try.sizeOf66 rfl rfl e25) rfl rfl ?_
                    refine g_p 23 16777215 rfl (by kernel_rfl) (y_fa (off := 0) Try.runUnderlying66 fo_66_0 rfl) rfl rfl ?_
                    obtain ⟨y26, k27, H⟩ := H
                    refine g_h 24 33554431 rfl (by kernel_rfl) (y_ldS Try.isAgg34 Try.sizeOf34 rfl rfl) k27 rfl rfl ?_
                    refine g_p 25 67108863 rfl (by kernel_rfl) (y_move rfl) rfl rfl ?_
                    refine g_p 26 134217727 rfl (by kernel_rfl) (y_move rfl) rfl rfl ?_
                    obtain ⟨a28, e29, H⟩ := H
                    refine g_p 27 268435455 rfl (by kernel_rfl) (f_idx (s := x1) Try.runUnderlying53 Try.sizeOf51 rfl rfl e29) rfl rfl ?_
                    obtain ⟨y30, k31, H⟩ := H
                    refine g_h 28 536870911 rfl (by kernel_rfl) (y_ld Try.isAgg51 rfl) k31 rfl rfl ?_
                    refine g_p 29 1073741823 rfl (by kernel_rfl) (y_move rfl) rfl rfl ?_
                    refine g_p 30 2147483647 rfl (by kernel_rfl) (y_move rfl) rfl rfl ?_
                    obtain ⟨a32, e33, H⟩ := H
                    refine g_p 31 4294967295 rfl (by kernel_rfl) (f_idx (s := x6) Try.runUnderlying23 Try.sizeOf3 rfl rfl e33) rfl rfl ?_
                    obtain ⟨y34, k35, H⟩ := H
                    refine g_h 32 8589934591 rfl (by kernel_rfl) (y_ld Try.isAgg3 rfl) k35 rfl rfl ?_
                    obtain ⟨a36, e37, H⟩ := H
                    refine g_p 33 17179869183 rfl (by kernel_rfl) (f_idx (s := y30) Try.runUnderlying51 Try.sizeOf66 rfl rfl e37) rfl rfl ?_
                    refine g_p 34 34359738367 rfl (by kernel_rfl) (y_fa (off := 0) Try.runUnderlying66 fo_66_0 rfl) rfl rfl ?_
                    obtain ⟨y38, k39, H⟩ := H
                    refine g_h 35 68719476735 rfl (by kernel_rfl) (y_ldS Try.isAgg34 Try.sizeOf34 rfl rfl) k39 rfl rfl ?_
                    refine g_e 36 137438953471 [] (by kernel_rfl) rfl (by kernel_rfl) (e_call Try.call27 rfl (F.spateref8_Compare_ok H)) rfl rfl ?_
                    rintro _ h40 ⟨r41, rfl, H⟩
                    refine ⟨trivial, ?_⟩
                    refine g_p 37 274877906943 rfl (by kernel_rfl) (y_lss rfl rfl) rfl rfl ?_
                    refine g_p 38 549755813887 rfl (by kernel_rfl) (y_pick_f rfl rfl) rfl rfl ?_
                    refine g_p 39 1099511627775 rfl (by kernel_rfl) (y_pick_t rfl rfl) rfl rfl ?_
                    refine g_d (by kernel_rfl) ?_
                    refine tr_thenN ?_
                    exact tr_join [(0, (.int .i64 x0)), (1, x1.enc), (5, x5.enc), (6, x6.enc), (7, (.int .i64 x7)), (8, (.int .i64 x8)), (61, (.bool (decide (r41 < 0))))] ⟨rfl, rfl, rfl, rfl, rfl, rfl, rfl, trivial⟩ ⟨_, _, _, _, _, _, _, rfl, H⟩
                · replace H := H.2 g14
                  refine g_s 11 4095 rfl (by kernel_rfl) rfl rfl ?_
                  refine g_s 12 8191 rfl (by kernel_rfl) rfl rfl ?_
                  refine g_s 13 16383 rfl (by kernel_rfl) rfl rfl ?_
                  refine g_s 14 32767 rfl (by kernel_rfl) rfl rfl ?_
                  refine g_s 15 65535 rfl (by kernel_rfl) rfl rfl ?_
                  refine g_s 16 131071 rfl (by kernel_rfl) rfl rfl ?_
                  refine g_s 17 262143 rfl (by kernel_rfl) rfl rfl ?_
                  refine g_s 18 524287 rfl (by kernel_rfl) rfl rfl ?_
                  refine g_s 19 1048575 rfl (by kernel_rfl) rfl rfl ?_
                  refine g_s 20 2097151 rfl (by kernel_rfl) rfl rfl ?_
                  refine g_s 21 4194303 rfl (by kernel_rfl) rfl rfl ?_
                  refine g_s 22 8388607 rfl (by kernel_rfl) rfl rfl ?_
                  refine g_s 23 16777215 rfl (by kernel_rfl) rfl rfl ?_
                  refine g_s 24 33554431 rfl (by kernel_rfl) rfl rfl ?_
                  refine g_s 25 67108863 rfl (by kernel_rfl) rfl rfl ?_
                  refine g_s 26 134217727 rfl (by kernel_rfl) rfl rfl ?_
                  refine g_s 27 268435455 rfl (by kernel_rfl) rfl rfl ?_
                  refine g_s 28 536870911 rfl (by kernel_rfl) rfl rfl ?_
                  refine g_s 29 1073741823 rfl (by kernel_rfl) rfl rfl ?_
                  refine g_s 30 2147483647 rfl (by kernel_rfl) rfl rfl ?_
                  refine g_s 31 4294967295 rfl (by kernel_rfl) rfl rfl ?_
                  refine g_s 32 8589934591 rfl (by kernel_rfl) rfl rfl ?_
                  refine g_s 33 17179869183 rfl (by kernel_rfl) rfl rfl ?_
                  refine g_s 34 34359738367 rfl (by kernel_rfl) rfl rfl ?_
                  refine g_s 35 68719476735 rfl (by kernel_rfl) rfl rfl ?_
                  refine g_s 36 137438953471 rfl (by kernel_rfl) rfl rfl ?_
                  refine g_s 37 274877906943 rfl (by kernel_rfl) rfl rfl ?_
                  refine g_s 38 549755813887 rfl (by kernel_rfl) rfl rfl ?_
                  refine g_p 39 1099511627775 rfl (by kernel_rfl) (y_pick_f rfl rfl) rfl rfl ?_
                  refine g_d (by kernel_rfl) ?_
                  refine tr_thenN ?_
                  exact tr_join [(0, (.int .i64 x0)), (1, x1.enc), (5, x5.enc), (6, x6.enc), (7, (.int .i64 x7)), (8, (.int .i64 x8)), (61, (.bool false))] ⟨rfl, rfl, rfl, rfl, rfl, rfl, rfl, trivial⟩ ⟨_, _, _, _, _, _, _, rfl, H⟩
          · replace H := H.2 g4
            refine tr_exit ?_
            refine tr_thenE ?_
            refine tr_thenE ?_
            refine tr_hit ?_
            refine tr_thenN ?_
            refine tr_seq ?_
            refine tr_seq ?_
            refine tr_region ?_
            refine tr_p (y_move rfl) rfl rfl ?_
            refine tr_p (y_lss rfl rfl) rfl rfl ?_
            refine tr_nil ?_
            refine tr_thenN ?_
            refine tr_cond rfl (fun g42 => ?_) (fun g42 => ?_)
            · replace H := H.1 g42
              refine tr_exit ?_
              refine tr_thenE ?_
              refine tr_miss rfl ?_
              refine tr_thenE ?_
              refine tr_hit ?_
              refine tr_thenN ?_
              exact tr_join [(5, x5.enc)] ⟨rfl, trivial⟩ ⟨_, rfl, H⟩
            · replace H := H.2 g42
              refine tr_skip ?_
              refine tr_thenN ?_
              refine tr_seq ?_
              refine tr_draw mixed [0, 0, 0, 6, 14, 0, 0, 96, 224, 510, 1022, 2046, 4095, 8191] (by kernel_rfl) ?_
              refine g_p 0 1 rfl (by kernel_rfl) (y_move rfl) rfl rfl ?_
              refine g_p 1 3 rfl (by kernel_rfl) (y_move rfl) rfl rfl ?_
              refine g_p 2 7 rfl (by kernel_rfl) (y_move rfl) rfl rfl ?_
              obtain ⟨a43, e44, H⟩ := H
              refine g_p 3 15 rfl (by kernel_rfl) (f_idx (s := x1) Try.runUnderlying53 Try.sizeOf51 rfl rfl e44) rfl rfl ?_
              obtain ⟨y45, k46, H⟩ := H
              refine g_h 4 31 rfl (by kernel_rfl) (y_ld Try.isAgg51 rfl) k46 rfl rfl ?_
              refine g_p 5 63 rfl (by kernel_rfl) (y_move rfl) rfl rfl ?_
              refine g_p 6 127 rfl (by kernel_rfl) (y_move rfl) rfl rfl ?_
              obtain ⟨a47, e48, H⟩ := H
              refine g_p 7 255 rfl (by kernel_rfl) (f_idx (s := x6) Try.runUnderlying23 Try.sizeOf3 rfl rfl e48) rfl rfl ?_
              obtain ⟨y49, k50, H⟩ := H
              refine g_h 8 511 rfl (by kernel_rfl) (y_ld Try.isAgg3 rfl) k50 rfl rfl ?_
              obtain ⟨a51, e52, H⟩ := H
              refine g_p 9 1023 rfl (by kernel_rfl) (f_idx (s := y45) Try.runUnderlying51 Try.sizeOf66 rfl rfl e52) rfl rfl ?_
              obtain ⟨y53, k54, H⟩ := H
              refine g_h 10 2047 rfl (by kernel_rfl) (y_ldS Try.isAgg66 Try.sizeOf66 rfl rfl) k54 rfl rfl ?_
              refine g_e 11 4095 [] (by kernel_rfl) rfl (by kernel_rfl) (f_buildL (cs := (y53.cells).toArray) rfl rfl (bl_51_1_0 y53) H) rfl rfl ?_
              rintro _ h55 ⟨s56, rfl, H⟩
              refine ⟨trivial, ?_⟩
              refine g_e 12 8191 [] (by kernel_rfl) rfl (by kernel_rfl) (f_app rfl H) rfl rfl ?_
              rintro _ h57 ⟨s58, rfl, H⟩
              refine ⟨trivial, ?_⟩
              refine g_e 13 16383 [] (by kernel_rfl) rfl (by kernel_rfl) (yp_ev (y_assign rfl)) rfl rfl ?_
              rintro _ _ ⟨rfl, rfl⟩
              refine ⟨trivial, ?_⟩
              refine g_d (by kernel_rfl) ?_
              refine tr_thenN ?_
              refine tr_region ?_
              refine tr_p (y_move rfl) rfl rfl ?_
              refine tr_p (y_move rfl) rfl rfl ?_
              obtain ⟨a59, e60, H⟩ := H
              refine tr_p (f_idx (s := x6) Try.runUnderlying23 Try.sizeOf3 rfl rfl e60) rfl rfl ?_
              obtain ⟨y61, k62, H⟩ := H
              refine tr_h (y_ld Try.isAgg3 rfl) k62 rfl rfl ?_
              refine tr_p (y_add rfl rfl) rfl rfl ?_
              obtain ⟨a63, e64, H⟩ := H
              refine tr_p (f_idx (s := x6) Try.runUnderlying23 Try.sizeOf3 rfl rfl e64) rfl rfl ?_
              refine tr_e (f_store (vs := [(.int .i64 (IntKind.wrap .i64 (y61 + 1)))]) Try.sizeOf3 rfl rfl rfl rfl (one1 rfl) H) rfl rfl ?_
              rintro _ h65 ⟨rfl, H⟩
              refine tr_nil ?_
              refine tr_blockN ?_
              refine tr_thenN ?_
              exact tr_join [(0, (.int .i64 x0)), (1, x1.enc), (5, s58.enc), (6, x6.enc)] ⟨rfl, rfl, rfl, rfl, trivial⟩ ⟨_, _, _, _, rfl, H⟩
      · replace H := H.2 g3
        refine tr_exit ?_
        refine tr_thenE ?_
        refine tr_thenE ?_
        refine tr_hit ?_
        refine tr_thenN ?_
        exact tr_join [(5, x5.enc)] ⟨rfl, trivial⟩ ⟨_, rfl, H⟩

def F.spatelaw2_SameRows.l1 (Q : Bool → H → Prop) : Nat → Sl → Sl → Int → H → Prop
  | 0, _, _, _, _ => False
  | q1 + 1, x0, x1, x5, h =>
    ((decide (x5 < (x0.len : Int))) = true →
    idxA x0 x5 7 fun a3 =>
    ld_S_api_Row h a3 fun y5 =>
    idxA x1 x5 7 fun a7 =>
    ld_S_api_Row h a7 fun y9 =>
    ((!((((y5.Cell.View == y9.Cell.View) && ((y5.Cell.Key.toList == y9.Cell.Key.toList) && ((y5.Cell.Start == y9.Cell.Start) && true)))) && ((((y5.Agg.Count == y9.Agg.Count) && ((y5.Agg.Sum == y9.Agg.Sum) && ((y5.Agg.Min == y9.Agg.Min) && ((y5.Agg.Max == y9.Agg.Max) && true))))) && true))) = true →
    Q false h) ∧
    ((!((((y5.Cell.View == y9.Cell.View) && ((y5.Cell.Key.toList == y9.Cell.Key.toList) && ((y5.Cell.Start == y9.Cell.Start) && true)))) && ((((y5.Agg.Count == y9.Agg.Count) && ((y5.Agg.Sum == y9.Agg.Sum) && ((y5.Agg.Min == y9.Agg.Min) && ((y5.Agg.Max == y9.Agg.Max) && true))))) && true))) = false →
    (F.spatelaw2_SameRows.l1 Q q1) x0 x1 (IntKind.wrap .i64 (x5 + 1)) h)) ∧
    ((decide (x5 < (x0.len : Int))) = false →
    Q true h)
/-- spate/spatelaw2.SameRows -/
def F.spatelaw2_SameRows (p0 : Sl) (p1 : Sl) (h : H) (Q : Bool → H → Prop) : Prop :=
  ((((p0.len : Int) != (p1.len : Int))) = true →
  Q false h) ∧
  ((((p0.len : Int) != (p1.len : Int))) = false →
  ∃ m, F.spatelaw2_SameRows.l1 Q m p0 p1 0 h)
theorem F.spatelaw2_SameRows_ok {p0 : Sl} {p1 : Sl} {h : H} {Q : Bool → H → Prop} (H : F.spatelaw2_SameRows p0 p1 h Q) : Fn PP 32 ([p0.enc, p1.enc] : List Value).toArray h fun r h' => ∃ r0, r = (.bool r0) ∧ Q r0 h' := by
  unfold F.spatelaw2_SameRows at H
  refine fn_of Try.func32 Try.ntmps32 rfl rfl fun w0 => ?_
  refine tr_sub [(0, p0.enc), (1, p1.enc)] ⟨rfl, rfl, trivial⟩ ?_
  refine tr_seq ?_
  refine tr_region ?_
  refine tr_p (y_assign rfl) rfl rfl ?_
  refine tr_nil ?_
  refine tr_thenN ?_
  refine tr_seq ?_
  refine tr_seq ?_
  refine tr_region ?_
  refine tr_p (y_move rfl) rfl rfl ?_
  refine tr_p (y_len (ts := #[]) Try.runUnderlying51 (o := p0.ptr) (n := p0.len) (cap := p0.cap) rfl) rfl rfl ?_
  refine tr_p (y_move rfl) rfl rfl ?_
  refine tr_p (y_len (ts := #[]) Try.runUnderlying51 (o := p1.ptr) (n := p1.len) (cap := p1.cap) rfl) rfl rfl ?_
  refine tr_p (y_neq rfl rfl) rfl rfl ?_
  refine tr_nil ?_
  refine tr_thenN ?_
  refine tr_cond rfl (fun g1 => ?_) (fun g1 => ?_)
  · replace H := H.1 g1
    refine tr_seq ?_
    refine tr_region ?_
    refine tr_p (y_assign rfl) rfl rfl ?_
    refine tr_nil ?_
    refine tr_thenN ?_
    refine tr_ret ?_
    refine tr_thenR ?_
    exact tr_ret1 rfl rfl ⟨_, rfl, H⟩
  · replace H := H.2 g1
    refine tr_skip ?_
    refine tr_thenN ?_
    refine tr_seq ?_
    refine tr_seq ?_
    refine tr_region ?_
    refine tr_p (y_assign rfl) rfl rfl ?_
    refine tr_nil ?_
    refine tr_thenN ?_
    refine tr_block ?_
    obtain ⟨m12, H⟩ := H
    refine tr_sub [(0, p0.enc), (1, p1.enc), (5, (.int .i64 0))] ⟨rfl, rfl, rfl, trivial⟩ ?_
    refine tr_loop_j (fun m L' h => ∃ (x0 : Sl) (x1 : Sl) (x5 : Int), L' = [(0, x0.enc), (1, x1.enc), (5, (.int .i64 x5))] ∧ F.spatelaw2_SameRows.l1 Q m x0 x1 x5 h) ?_ ?_ m12 ⟨_, _, _, rfl, H⟩
    · rintro L' h ⟨_, _, _, _, H⟩; exact H
    · rintro q1 L' h ⟨x0, x1, x5, rfl, H⟩
      unfold F.spatelaw2_SameRows.l1 at H
      refine tr_seq ?_
      refine tr_seq ?_
      refine tr_region ?_
      refine tr_p (y_move rfl) rfl rfl ?_
      refine tr_p (y_move rfl) rfl rfl ?_
      refine tr_p (y_len (ts := #[]) Try.runUnderlying51 (o := x0.ptr) (n := x0.len) (cap := x0.cap) rfl) rfl rfl ?_
      refine tr_p (y_lss rfl rfl) rfl rfl ?_
      refine tr_nil ?_
      refine tr_thenN ?_
      refine tr_cond rfl (fun g2 => ?_) (fun g2 => ?_)
      · replace H := H.1 g2
        refine tr_skip ?_
        refine tr_thenN ?_
        refine tr_seq ?_
        refine tr_block ?_
        refine tr_seq ?_
        refine tr_draw mixed [0, 0, 3, 7, 0, 0, 48, 112, 255] (by kernel_rfl) ?_
        refine g_p 0 1 rfl (by kernel_rfl) (y_move rfl) rfl rfl ?_
        refine g_p 1 3 rfl (by kernel_rfl) (y_move rfl) rfl rfl ?_
        obtain ⟨a3, e4, H⟩ := H
        refine g_p 2 7 rfl (by kernel_rfl) (f_idx (s := x0) Try.runUnderlying51 Try.sizeOf66 rfl rfl e4) rfl rfl ?_
        obtain ⟨y5, k6, H⟩ := H
        refine g_h 3 15 rfl (by kernel_rfl) (y_ldS Try.isAgg66 Try.sizeOf66 rfl rfl) k6 rfl rfl ?_
        refine g_p 4 31 rfl (by kernel_rfl) (y_move rfl) rfl rfl ?_
        refine g_p 5 63 rfl (by kernel_rfl) (y_move rfl) rfl rfl ?_
        obtain ⟨a7, e8, H⟩ := H
        refine g_p 6 127 rfl (by kernel_rfl) (f_idx (s := x1) Try.runUnderlying51 Try.sizeOf66 rfl rfl e8) rfl rfl ?_
        obtain ⟨y9, k10, H⟩ := H
        refine g_h 7 255 rfl (by kernel_rfl) (y_ldS Try.isAgg66 Try.sizeOf66 rfl rfl) k10 rfl rfl ?_
        refine g_p 8 511 rfl (by kernel_rfl) (st_neq (b := ((((y5.Cell.View == y9.Cell.View) && ((y5.Cell.Key.toList == y9.Cell.Key.toList) && ((y5.Cell.Start == y9.Cell.Start) && true)))) && ((((y5.Agg.Count == y9.Agg.Count) && ((y5.Agg.Sum == y9.Agg.Sum) && ((y5.Agg.Min == y9.Agg.Min) && ((y5.Agg.Max == y9.Agg.Max) && true))))) && true))) eqg_66 (fun w => eqst_66 y5 y9 9997 w) rfl rfl) rfl rfl ?_
        refine g_d (by kernel_rfl) ?_
        refine tr_thenN ?_
        refine tr_cond rfl (fun g11 => ?_) (fun g11 => ?_)
        · replace H := H.1 g11
          refine tr_seq ?_
          refine tr_region ?_
          refine tr_p (y_assign rfl) rfl rfl ?_
          refine tr_nil ?_
          refine tr_thenN ?_
          refine tr_ret ?_
          refine tr_blockR ?_
          refine tr_thenR ?_
          refine tr_thenR ?_
          refine tr_blockR ?_
          refine tr_thenR ?_
          exact tr_ret1 rfl rfl ⟨_, rfl, H⟩
        · replace H := H.2 g11
          refine tr_skip ?_
          refine tr_blockN ?_
          refine tr_thenN ?_
          refine tr_region ?_
          refine tr_p (y_move rfl) rfl rfl ?_
          refine tr_p (y_add rfl rfl) rfl rfl ?_
          refine tr_p (y_assign rfl) rfl rfl ?_
          refine tr_nil ?_
          refine tr_thenN ?_
          exact tr_join [(0, x0.enc), (1, x1.enc), (5, (.int .i64 (IntKind.wrap .i64 (x5 + 1))))] ⟨rfl, rfl, rfl, trivial⟩ ⟨_, _, _, rfl, H⟩
      · replace H := H.2 g2
        refine tr_exit ?_
        refine tr_thenE ?_
        refine tr_thenE ?_
        refine tr_hit ?_
        refine tr_thenN ?_
        refine tr_seq ?_
        refine tr_region ?_
        refine tr_p (y_assign rfl) rfl rfl ?_
        refine tr_nil ?_
        refine tr_thenN ?_
        refine tr_ret ?_
        exact tr_ret1 rfl rfl ⟨_, rfl, H⟩

def F.spatelaw2_KeptRows.j2 (Q : Bool → H → Prop) (C1 : Sl → Bool → Sl → Int → H → Prop) (x1 : Sl) (x5 : Bool) (x6 : Sl) (x7 : Int) (h : H) : Prop :=
  C1 x1 x5 x6 (IntKind.wrap .i64 (x7 + 1)) h
def F.spatelaw2_KeptRows.j3 (Q : Bool → H → Prop) (C1 : Sl → Bool → Sl → Int → H → Prop) (x1 : Sl) (x5 : Bool) (x6 : Sl) (x7 : Int) (h : H) : Prop :=
  idxA x6 x7 7 fun a6 =>
  stH h a6 ((⟨(⟨0, (⟨#[115, 112, 111, 105, 108, 116]⟩ : ByteArray), 0⟩ : S_api_Cell), (⟨0, 0, 0, 0⟩ : S_api_Agg)⟩ : S_api_Row).cells) fun h8 =>
  F.spatelaw2_KeptRows.j2 Q C1 x1 x5 x6 x7 h8
def F.spatelaw2_KeptRows.l1 (Q : Bool → H → Prop) : Nat → Sl → Bool → Sl → Int → H → Prop
  | 0, _, _, _, _, _ => False
  | q1 + 1, x1, x5, x6, x7, h =>
    ((decide (x7 < (x6.len : Int))) = true →
    (x5 = true →
    ((decide (x7 < (x1.len : Int))) = true →
    F.spatelaw2_KeptRows.j3 Q (F.spatelaw2_KeptRows.l1 Q q1) x1 true x6 x7 h) ∧
    ((decide (x7 < (x1.len : Int))) = false →
    idxA x6 x7 7 fun a11 =>
    ld_S_api_Cell h (a11.add 0) fun y13 =>
    F.spatelaw2_mark  h fun r16 h15 =>
    Cells h15 (a11.add 0) y13.cells ∧
    F.spatelaw2_KeptRows.j3 Q (F.spatelaw2_KeptRows.l1 Q q1) x1 ((y13.View == r16.View) && ((y13.Key.toList == r16.Key.toList) && ((y13.Start == r16.Start) && true))) x6 x7 h15)) ∧
    (x5 = false →
    F.spatelaw2_KeptRows.j3 Q (F.spatelaw2_KeptRows.l1 Q q1) x1 false x6 x7 h)) ∧
    ((decide (x7 < (x6.len : Int))) = false →
    Q x5 h)
/-- spate/spatelaw2.KeptRows -/
def F.spatelaw2_KeptRows (p0 : Sl) (p1 : Sl) (h : H) (Q : Bool → H → Prop) : Prop :=
  F.spatelaw2_SameRows p0 p1 h fun r2 h1 =>
  cutL p0 0 (IntKind.wrap .i64 ((p0.len : Int) + 3)) 7 fun s4 =>
  ∃ m, F.spatelaw2_KeptRows.l1 Q m p1 r2 s4 0 h1
theorem F.spatelaw2_KeptRows_ok {p0 : Sl} {p1 : Sl} {h : H} {Q : Bool → H → Prop} (H : F.spatelaw2_KeptRows p0 p1 h Q) : Fn PP 34 ([p0.enc, p1.enc] : List Value).toArray h fun r h' => ∃ r0, r = (.bool r0) ∧ Q r0 h' := by
  unfold F.spatelaw2_KeptRows at H
  refine fn_of Try.func34 Try.ntmps34 rfl rfl fun w0 => ?_
  refine tr_sub [(0, p0.enc), (1, p1.enc)] ⟨rfl, rfl, trivial⟩ ?_
  refine tr_seq ?_
  refine tr_region ?_
  refine tr_p (y_assign rfl) rfl rfl ?_
  refine tr_nil ?_
  refine tr_thenN ?_
  refine tr_seq ?_
  refine tr_region ?_
  refine tr_p (y_move rfl) rfl rfl ?_
  refine tr_p (y_move rfl) rfl rfl ?_
  refine tr_e (e_call Try.call32 rfl (F.spatelaw2_SameRows_ok H)) rfl rfl ?_
  rintro _ h1 ⟨r2, rfl, H⟩
  refine tr_p (y_assign rfl) rfl rfl ?_
  refine tr_nil ?_
  refine tr_thenN ?_
  refine tr_seq ?_
  refine tr_region ?_
  refine tr_p (y_move rfl) rfl rfl ?_
  refine tr_p (y_move rfl) rfl rfl ?_
  refine tr_p (y_len (ts := #[]) Try.runUnderlying51 (o := p0.ptr) (n := p0.len) (cap := p0.cap) rfl) rfl rfl ?_
  refine tr_p (y_add rfl rfl) rfl rfl ?_
  obtain ⟨s4, e3, H⟩ := H
  refine tr_p (f_cutL (s := p0) none (some (.i64, (IntKind.wrap .i64 ((p0.len : Int) + 3)))) Try.runUnderlying51 Try.sizeOf66 rfl rfl rfl e3) rfl rfl ?_
  refine tr_p (y_assign rfl) rfl rfl ?_
  refine tr_nil ?_
  refine tr_thenN ?_
  refine tr_seq ?_
  refine tr_seq ?_
  refine tr_region ?_
  refine tr_p (y_assign rfl) rfl rfl ?_
  refine tr_nil ?_
  refine tr_thenN ?_
  refine tr_block ?_
  obtain ⟨m18, H⟩ := H
  refine tr_sub [(1, p1.enc), (5, (.bool r2)), (6, s4.enc), (7, (.int .i64 0))] ⟨rfl, rfl, rfl, rfl, trivial⟩ ?_
  refine tr_loop_j (fun m L' h => ∃ (x1 : Sl) (x5 : Bool) (x6 : Sl) (x7 : Int), L' = [(1, x1.enc), (5, (.bool x5)), (6, x6.enc), (7, (.int .i64 x7))] ∧ F.spatelaw2_KeptRows.l1 Q m x1 x5 x6 x7 h) ?_ ?_ m18 ⟨_, _, _, _, rfl, H⟩
  · rintro L' h ⟨_, _, _, _, _, H⟩; exact H
  · rintro q1 L' h ⟨x1, x5, x6, x7, rfl, H⟩
    unfold F.spatelaw2_KeptRows.l1 at H
    refine tr_seq ?_
    refine tr_seq ?_
    refine tr_region ?_
    refine tr_p (y_move rfl) rfl rfl ?_
    refine tr_p (y_move rfl) rfl rfl ?_
    refine tr_p (y_len (ts := #[]) Try.runUnderlying51 (o := x6.ptr) (n := x6.len) (cap := x6.cap) rfl) rfl rfl ?_
    refine tr_p (y_lss rfl rfl) rfl rfl ?_
    refine tr_nil ?_
    refine tr_thenN ?_
    refine tr_cond rfl (fun g5 => ?_) (fun g5 => ?_)
    · replace H := H.1 g5
      refine tr_skip ?_
      refine tr_thenN ?_
      refine tr_seq_j (fun L' h => ∃ (x1 : Sl) (x5 : Bool) (x6 : Sl) (x7 : Int), L' = [(1, x1.enc), (5, (.bool x5)), (6, x6.enc), (7, (.int .i64 x7))] ∧ F.spatelaw2_KeptRows.j2 Q (F.spatelaw2_KeptRows.l1 Q q1) x1 x5 x6 x7 h) ?_ ?_
      · rintro L' h ⟨x1, x5, x6, x7, rfl, H⟩
        unfold F.spatelaw2_KeptRows.j2 at H
        refine tr_region ?_
        refine tr_p (y_move rfl) rfl rfl ?_
        refine tr_p (y_add rfl rfl) rfl rfl ?_
        refine tr_p (y_assign rfl) rfl rfl ?_
        refine tr_nil ?_
        refine tr_thenN ?_
        exact tr_join [(1, x1.enc), (5, (.bool x5)), (6, x6.enc), (7, (.int .i64 (IntKind.wrap .i64 (x7 + 1))))] ⟨rfl, rfl, rfl, rfl, trivial⟩ ⟨_, _, _, _, rfl, H⟩
      · refine tr_block ?_
        refine tr_seq_j (fun L' h => ∃ (x1 : Sl) (x5 : Bool) (x6 : Sl) (x7 : Int), L' = [(1, x1.enc), (5, (.bool x5)), (6, x6.enc), (7, (.int .i64 x7))] ∧ F.spatelaw2_KeptRows.j3 Q (F.spatelaw2_KeptRows.l1 Q q1) x1 x5 x6 x7 h) ?_ ?_
        · rintro L' h ⟨x1, x5, x6, x7, rfl, H⟩
          unfold F.spatelaw2_KeptRows.j3 at H
          refine tr_region ?_
          refine tr_p (y_move rfl) rfl rfl ?_
          refine tr_p (y_move rfl) rfl rfl ?_
          refine tr_p (f_build rfl (bd_34_1 (⟨#[115, 112, 111, 105, 108, 116]⟩ : ByteArray))) rfl rfl ?_
          refine tr_p (f_build rfl (bd_66_0 (⟨0, (⟨#[115, 112, 111, 105, 108, 116]⟩ : ByteArray), 0⟩ : S_api_Cell))) rfl rfl ?_
          obtain ⟨a6, e7, H⟩ := H
          refine tr_p (f_idx (s := x6) Try.runUnderlying51 Try.sizeOf66 rfl rfl e7) rfl rfl ?_
          refine tr_e (f_store (vs := (⟨(⟨0, (⟨#[115, 112, 111, 105, 108, 116]⟩ : ByteArray), 0⟩ : S_api_Cell), (⟨0, 0, 0, 0⟩ : S_api_Agg)⟩ : S_api_Row).cells) Try.sizeOf66 rfl rfl cellsOfStruct rfl (by intro v hv; exact ones_S_api_Row _ v hv) H) rfl rfl ?_
          rintro _ h8 ⟨rfl, H⟩
          refine tr_nil ?_
          refine tr_blockN ?_
          refine tr_thenN ?_
          exact tr_join [(1, x1.enc), (5, (.bool x5)), (6, x6.enc), (7, (.int .i64 x7))] ⟨rfl, rfl, rfl, rfl, trivial⟩ ⟨_, _, _, _, rfl, H⟩
        · refine tr_draw mixed [0, 1, 3, 3, 11, 31, 63, 127, 127, 511, 1023, 2047, 127, 8191, 16383, 32767, 65535] (by kernel_rfl) ?_
          refine g_p 0 1 rfl (by kernel_rfl) (y_move rfl) rfl rfl ?_
          refine g_p 1 3 rfl (by kernel_rfl) (y_move rfl) rfl rfl ?_
          refine g_split (t := 23) rfl (fun g9 => ?_) (fun g9 => ?_)
          · replace H := H.1 g9
            refine g_p 2 7 rfl (by kernel_rfl) (y_move rfl) rfl rfl ?_
            refine g_p 3 15 rfl (by kernel_rfl) (y_move rfl) rfl rfl ?_
            refine g_p 4 31 rfl (by kernel_rfl) (y_len (ts := #[]) Try.runUnderlying51 (o := x1.ptr) (n := x1.len) (cap := x1.cap) rfl) rfl rfl ?_
            refine g_p 5 63 rfl (by kernel_rfl) (y_lss rfl rfl) rfl rfl ?_
            refine g_p 6 127 rfl (by kernel_rfl) (y_move rfl) rfl rfl ?_
            refine g_split (t := 28) rfl (fun g10 => ?_) (fun g10 => ?_)
            · replace H := H.1 g10
              refine g_s 7 255 rfl (by kernel_rfl) rfl rfl ?_
              refine g_s 8 511 rfl (by kernel_rfl) rfl rfl ?_
              refine g_s 9 1023 rfl (by kernel_rfl) rfl rfl ?_
              refine g_s 10 2047 rfl (by kernel_rfl) rfl rfl ?_
              refine g_s 11 4095 rfl (by kernel_rfl) rfl rfl ?_
              refine g_s 12 8191 rfl (by kernel_rfl) rfl rfl ?_
              refine g_s 13 16383 rfl (by kernel_rfl) rfl rfl ?_
              refine g_p 14 32767 rfl (by kernel_rfl) (y_pick_t rfl rfl) rfl rfl ?_
              refine g_p 15 65535 rfl (by kernel_rfl) (y_pick_t rfl rfl) rfl rfl ?_
              refine g_e 16 131071 [] (by kernel_rfl) rfl (by kernel_rfl) (yp_ev (y_assign rfl)) rfl rfl ?_
              rintro _ _ ⟨rfl, rfl⟩
              refine ⟨trivial, ?_⟩
              refine g_d (by kernel_rfl) ?_
              refine tr_thenN ?_
              exact tr_join [(1, x1.enc), (5, (.bool true)), (6, x6.enc), (7, (.int .i64 x7))] ⟨rfl, rfl, rfl, rfl, trivial⟩ ⟨_, _, _, _, rfl, H⟩
            · replace H := H.2 g10
              refine g_p 7 255 rfl (by kernel_rfl) (y_move rfl) rfl rfl ?_
              refine g_p 8 511 rfl (by kernel_rfl) (y_move rfl) rfl rfl ?_
              obtain ⟨a11, e12, H⟩ := H
              refine g_p 9 1023 rfl (by kernel_rfl) (f_idx (s := x6) Try.runUnderlying51 Try.sizeOf66 rfl rfl e12) rfl rfl ?_
              refine g_p 10 2047 rfl (by kernel_rfl) (y_fa (off := 0) Try.runUnderlying66 fo_66_0 rfl) rfl rfl ?_
              obtain ⟨y13, k14, H⟩ := H
              refine g_h 11 4095 rfl (by kernel_rfl) (y_ldS Try.isAgg34 Try.sizeOf34 rfl rfl) k14 rfl rfl ?_
              refine g_e 12 8191 [(11, fun h => Cells h (a11.add 0) y13.cells)] (by kernel_rfl) rfl (by kernel_rfl) (e_call Try.call47 rfl (F.spatelaw2_mark_ok H)) rfl rfl ?_
              rintro _ h15 ⟨r16, rfl, H⟩
              obtain ⟨k17, H⟩ := H
              refine ⟨And.intro k17 trivial, ?_⟩
              refine g_p 13 16383 rfl (by kernel_rfl) (st_eql (b := ((y13.View == r16.View) && ((y13.Key.toList == r16.Key.toList) && ((y13.Start == r16.Start) && true)))) eqg_34 (fun w => eqst_34 y13 r16 9998 w) rfl rfl) rfl rfl ?_
              refine g_p 14 32767 rfl (by kernel_rfl) (y_pick_f rfl rfl) rfl rfl ?_
              refine g_p 15 65535 rfl (by kernel_rfl) (y_pick_t rfl rfl) rfl rfl ?_
              refine g_e 16 131071 [] (by kernel_rfl) rfl (by kernel_rfl) (yp_ev (y_assign rfl)) rfl rfl ?_
              rintro _ _ ⟨rfl, rfl⟩
              refine ⟨trivial, ?_⟩
              refine g_d (by kernel_rfl) ?_
              refine tr_thenN ?_
              exact tr_join [(1, x1.enc), (5, (.bool ((y13.View == r16.View) && ((y13.Key.toList == r16.Key.toList) && ((y13.Start == r16.Start) && true))))), (6, x6.enc), (7, (.int .i64 x7))] ⟨rfl, rfl, rfl, rfl, trivial⟩ ⟨_, _, _, _, rfl, H⟩
          · replace H := H.2 g9
            refine g_s 2 7 rfl (by kernel_rfl) rfl rfl ?_
            refine g_s 3 15 rfl (by kernel_rfl) rfl rfl ?_
            refine g_s 4 31 rfl (by kernel_rfl) rfl rfl ?_
            refine g_s 5 63 rfl (by kernel_rfl) rfl rfl ?_
            refine g_s 6 127 rfl (by kernel_rfl) rfl rfl ?_
            refine g_s 7 255 rfl (by kernel_rfl) rfl rfl ?_
            refine g_s 8 511 rfl (by kernel_rfl) rfl rfl ?_
            refine g_s 9 1023 rfl (by kernel_rfl) rfl rfl ?_
            refine g_s 10 2047 rfl (by kernel_rfl) rfl rfl ?_
            refine g_s 11 4095 rfl (by kernel_rfl) rfl rfl ?_
            refine g_s 12 8191 rfl (by kernel_rfl) rfl rfl ?_
            refine g_s 13 16383 rfl (by kernel_rfl) rfl rfl ?_
            refine g_s 14 32767 rfl (by kernel_rfl) rfl rfl ?_
            refine g_p 15 65535 rfl (by kernel_rfl) (y_pick_f rfl rfl) rfl rfl ?_
            refine g_e 16 131071 [] (by kernel_rfl) rfl (by kernel_rfl) (yp_ev (y_assign rfl)) rfl rfl ?_
            rintro _ _ ⟨rfl, rfl⟩
            refine ⟨trivial, ?_⟩
            refine g_d (by kernel_rfl) ?_
            refine tr_thenN ?_
            exact tr_join [(1, x1.enc), (5, (.bool false)), (6, x6.enc), (7, (.int .i64 x7))] ⟨rfl, rfl, rfl, rfl, trivial⟩ ⟨_, _, _, _, rfl, H⟩
    · replace H := H.2 g5
      refine tr_exit ?_
      refine tr_thenE ?_
      refine tr_thenE ?_
      refine tr_hit ?_
      refine tr_thenN ?_
      refine tr_seq ?_
      refine tr_region ?_
      refine tr_p (y_move rfl) rfl rfl ?_
      refine tr_p (y_assign rfl) rfl rfl ?_
      refine tr_nil ?_
      refine tr_thenN ?_
      refine tr_ret ?_
      exact tr_ret1 rfl rfl ⟨_, rfl, H⟩

/-- spate/spatelaw8.MergeRows -/
def F.spatelaw8_MergeRows (p0 : Int) (p1 : Sl) (p2 : Sl) (p3 : Sl) (h : H) (Q : Bool → H → Prop) : Prop :=
  F.spatelaw8_known  h fun r2 h1 =>
  ((!r2) = true →
  Q false h1) ∧
  ((!r2) = false →
  F.spatelaw8_ordered p1 h1 fun r5 h4 =>
  F.spatelaw8_ordered p2 h4 fun r7 h6 =>
  F.spatelaw8_ordered p3 h6 fun r9 h8 =>
  newL h8 #[r5.enc, r7.enc, r9.enc] ty_51 3 fun s11 h10 =>
  idxA s11 0 1 fun a12 =>
  ldL h10 a12 fun y14 =>
  F.spatelaw2_LendResponse (⟨0, 0, 0, 0, y14, (⟨0, 0, 0, 0, 0, 0⟩ : S_api_Stats)⟩ : S_api_Response) h10 fun r17 h16 =>
  idxA s11 1 1 fun a18 =>
  ldL h16 a18 fun y20 =>
  F.spatelaw2_LendResponse (⟨0, 0, 0, 0, y20, (⟨0, 0, 0, 0, 0, 0⟩ : S_api_Stats)⟩ : S_api_Response) h16 fun r23 h22 =>
  idxA s11 2 1 fun a24 =>
  ldL h22 a24 fun y26 =>
  F.spatelaw2_LendResponse (⟨0, 0, 0, 0, y26, (⟨0, 0, 0, 0, 0, 0⟩ : S_api_Stats)⟩ : S_api_Response) h22 fun r29 h28 =>
  newL h28 #[r17.Rows.enc, r23.Rows.enc, r29.Rows.enc] ty_51 3 fun s31 h30 =>
  F.merge_Rows p0 s31 h30 fun r33 h32 =>
  F.spateref8_Rows p0 s11 h32 fun r35 h34 =>
  F.spatelaw2_SameRows r33 r35 h34 fun r37 h36 =>
  (r37 = true →
  idxA s11 0 1 fun a39 =>
  ldL h36 a39 fun y41 =>
  F.spatelaw2_KeptRows r17.Rows y41 h36 fun r44 h43 =>
  (r44 = true →
  idxA s11 1 1 fun a46 =>
  ldL h43 a46 fun y48 =>
  F.spatelaw2_KeptRows r23.Rows y48 h43 fun r51 h50 =>
  (r51 = true →
  idxA s11 2 1 fun a53 =>
  ldL h50 a53 fun y55 =>
  F.spatelaw2_KeptRows r29.Rows y55 h50 fun r58 h57 =>
  (r58 = true →
  F.spateref8_Rows p0 s11 h57 fun r61 h60 =>
  F.spatelaw2_SameRows r33 r61 h60 fun r63 h62 =>
  (r63 = true →
  F.merge_Rows p0 (⟨none, 0, 0⟩ : Sl) h62 fun r66 h65 =>
  ((((r66.len : Int) == 0)) = true →
  idxA s11 0 1 fun a68 =>
  ldL h65 a68 fun y70 =>
  cutL s11 0 1 1 fun s73 =>
  newL h65 #[y70.enc] ty_51 1 fun s75 h74 =>
  F.merge_Rows p0 s75 h74 fun r77 h76 =>
  F.spateref8_Rows p0 s73 h76 fun r79 h78 =>
  F.spatelaw2_SameRows r77 r79 h78 fun r81 h80 =>
  Q r81 h80) ∧
  ((((r66.len : Int) == 0)) = false →
  Q false h65)) ∧
  (r63 = false →
  Q false h62)) ∧
  (r58 = false →
  Q false h57)) ∧
  (r51 = false →
  Q false h50)) ∧
  (r44 = false →
  Q false h43)) ∧
  (r37 = false →
  Q false h36))
theorem F.spatelaw8_MergeRows_ok {p0 : Int} {p1 : Sl} {p2 : Sl} {p3 : Sl} {h : H} {Q : Bool → H → Prop} (H : F.spatelaw8_MergeRows p0 p1 p2 p3 h Q) : Fn PP 9 ([(.int .i64 p0), p1.enc, p2.enc, p3.enc] : List Value).toArray h fun r h' => ∃ r0, r = (.bool r0) ∧ Q r0 h' := by
  unfold F.spatelaw8_MergeRows at H
  refine fn_of Try.func9 Try.ntmps9 rfl rfl fun w0 => ?_
  refine tr_sub [(0, (.int .i64 p0)), (1, p1.enc), (2, p2.enc), (3, p3.enc)] ⟨rfl, rfl, rfl, rfl, trivial⟩ ?_
  refine tr_seq ?_
  refine tr_region ?_
  refine tr_p (y_assign rfl) rfl rfl ?_
  refine tr_nil ?_
  refine tr_thenN ?_
  refine tr_seq ?_
  refine tr_seq ?_
  refine tr_region ?_
  refine tr_e (e_call Try.call15 rfl (F.spatelaw8_known_ok H)) rfl rfl ?_
  rintro _ h1 ⟨r2, rfl, H⟩
  refine tr_p (y_not rfl) rfl rfl ?_
  refine tr_nil ?_
  refine tr_thenN ?_
  refine tr_cond rfl (fun g3 => ?_) (fun g3 => ?_)
  · replace H := H.1 g3
    refine tr_seq ?_
    refine tr_region ?_
    refine tr_p (y_assign rfl) rfl rfl ?_
    refine tr_nil ?_
    refine tr_thenN ?_
    refine tr_ret ?_
    refine tr_thenR ?_
    exact tr_ret1 rfl rfl ⟨_, rfl, H⟩
  · replace H := H.2 g3
    refine tr_skip ?_
    refine tr_thenN ?_
    refine tr_seq ?_
    refine tr_region ?_
    refine tr_p (y_move rfl) rfl rfl ?_
    refine tr_e (e_call Try.call29 rfl (F.spatelaw8_ordered_ok H)) rfl rfl ?_
    rintro _ h4 ⟨r5, rfl, H⟩
    refine tr_p (y_move rfl) rfl rfl ?_
    refine tr_e (e_call Try.call29 rfl (F.spatelaw8_ordered_ok H)) rfl rfl ?_
    rintro _ h6 ⟨r7, rfl, H⟩
    refine tr_p (y_move rfl) rfl rfl ?_
    refine tr_e (e_call Try.call29 rfl (F.spatelaw8_ordered_ok H)) rfl rfl ?_
    rintro _ h8 ⟨r9, rfl, H⟩
    refine tr_e (f_buildL (cs := #[r5.enc, r7.enc, r9.enc]) rfl rfl (bl_53_3_0_1_2 r5 r7 r9) H) rfl rfl ?_
    rintro _ h10 ⟨s11, rfl, H⟩
    refine tr_p (y_assign rfl) rfl rfl ?_
    refine tr_nil ?_
    refine tr_thenN ?_
    refine tr_seq ?_
    refine tr_region ?_
    refine tr_p (y_move rfl) rfl rfl ?_
    obtain ⟨a12, e13, H⟩ := H
    refine tr_p (f_idx (s := s11) Try.runUnderlying53 Try.sizeOf51 rfl rfl e13) rfl rfl ?_
    obtain ⟨y14, k15, H⟩ := H
    refine tr_h (y_ld Try.isAgg51 rfl) k15 rfl rfl ?_
    refine tr_p (f_build rfl (bd_57_4 y14)) rfl rfl ?_
    refine tr_e (e_call Try.call30 rfl (F.spatelaw2_LendResponse_ok H)) rfl rfl ?_
    rintro _ h16 ⟨r17, rfl, H⟩
    refine tr_p (y_field (fl_57_4 r17) rfl) rfl rfl ?_
    refine tr_p (y_assign rfl) rfl rfl ?_
    refine tr_nil ?_
    refine tr_thenN ?_
    refine tr_seq ?_
    refine tr_region ?_
    refine tr_p (y_move rfl) rfl rfl ?_
    obtain ⟨a18, e19, H⟩ := H
    refine tr_p (f_idx (s := s11) Try.runUnderlying53 Try.sizeOf51 rfl rfl e19) rfl rfl ?_
    obtain ⟨y20, k21, H⟩ := H
    refine tr_h (y_ld Try.isAgg51 rfl) k21 rfl rfl ?_
    refine tr_p (f_build rfl (bd_57_4 y20)) rfl rfl ?_
    refine tr_e (e_call Try.call30 rfl (F.spatelaw2_LendResponse_ok H)) rfl rfl ?_
    rintro _ h22 ⟨r23, rfl, H⟩
    refine tr_p (y_field (fl_57_4 r23) rfl) rfl rfl ?_
    refine tr_p (y_assign rfl) rfl rfl ?_
    refine tr_nil ?_
    refine tr_thenN ?_
    refine tr_seq ?_
    refine tr_region ?_
    refine tr_p (y_move rfl) rfl rfl ?_
    obtain ⟨a24, e25, H⟩ := H
    refine tr_p (f_idx (s := s11) Try.runUnderlying53 Try.sizeOf51 rfl rfl e25) rfl rfl ?_
    obtain ⟨y26, k27, H⟩ := H
    refine tr_h (y_ld Try.isAgg51 rfl) k27 rfl rfl ?_
    refine tr_p (f_build rfl (bd_57_4 y26)) rfl rfl ?_
    refine tr_e (e_call Try.call30 rfl (F.spatelaw2_LendResponse_ok H)) rfl rfl ?_
    rintro _ h28 ⟨r29, rfl, H⟩
    refine tr_p (y_field (fl_57_4 r29) rfl) rfl rfl ?_
    refine tr_p (y_assign rfl) rfl rfl ?_
    refine tr_nil ?_
    refine tr_thenN ?_
    refine tr_seq ?_
    refine tr_region ?_
    refine tr_p (y_move rfl) rfl rfl ?_
    refine tr_p (y_move rfl) rfl rfl ?_
    refine tr_p (y_move rfl) rfl rfl ?_
    refine tr_p (y_move rfl) rfl rfl ?_
    refine tr_e (f_buildL (cs := #[r17.Rows.enc, r23.Rows.enc, r29.Rows.enc]) rfl rfl (bl_53_3_0_1_2 r17.Rows r23.Rows r29.Rows) H) rfl rfl ?_
    rintro _ h30 ⟨s31, rfl, H⟩
    refine tr_e (e_call Try.call31 rfl (F.merge_Rows_ok H)) rfl rfl ?_
    rintro _ h32 ⟨r33, rfl, H⟩
    refine tr_p (y_assign rfl) rfl rfl ?_
    refine tr_nil ?_
    refine tr_thenN ?_
    refine tr_seq ?_
    refine tr_region ?_
    refine tr_p (y_move rfl) rfl rfl ?_
    refine tr_p (y_move rfl) rfl rfl ?_
    refine tr_p (y_move rfl) rfl rfl ?_
    refine tr_e (e_call Try.call33 rfl (F.spateref8_Rows_ok H)) rfl rfl ?_
    rintro _ h34 ⟨r35, rfl, H⟩
    refine tr_e (e_call Try.call32 rfl (F.spatelaw2_SameRows_ok H)) rfl rfl ?_
    rintro _ h36 ⟨r37, rfl, H⟩
    refine tr_p (y_assign rfl) rfl rfl ?_
    refine tr_nil ?_
    refine tr_thenN ?_
    refine tr_seq ?_
    refine tr_draw mixed [0, 1, 3, 3, 11, 27, 63, 127, 255, 511, 511, 1535, 3583, 8191, 16383, 32767, 65535, 65535, 196607, 458751, 1048575, 2097151, 4194303, 8388607, 8388607, 8388607, 58720255, 134217727, 268435455, 536870911, 1073741823, 2147483647, 4294967295, 8589934591, 17179869183, 34359738367, 68719476735, 68719476735, 206158430207, 481036337151, 1030792151039, 2199023255551, 68719476735, 68719476735, 8864812498943, 35184372088831, 70368744177663, 140737488355327, 281474976710655] (by kernel_rfl) ?_
    refine g_p 0 1 rfl (by kernel_rfl) (y_move rfl) rfl rfl ?_
    refine g_p 1 3 rfl (by kernel_rfl) (y_move rfl) rfl rfl ?_
    refine g_split (t := 54) rfl (fun g38 => ?_) (fun g38 => ?_)
    · replace H := H.1 g38
      refine g_p 2 7 rfl (by kernel_rfl) (y_move rfl) rfl rfl ?_
      refine g_p 3 15 rfl (by kernel_rfl) (y_move rfl) rfl rfl ?_
      obtain ⟨a39, e40, H⟩ := H
      refine g_p 4 31 rfl (by kernel_rfl) (f_idx (s := s11) Try.runUnderlying53 Try.sizeOf51 rfl rfl e40) rfl rfl ?_
      obtain ⟨y41, k42, H⟩ := H
      refine g_h 5 63 rfl (by kernel_rfl) (y_ld Try.isAgg51 rfl) k42 rfl rfl ?_
      refine g_e 6 127 [] (by kernel_rfl) rfl (by kernel_rfl) (e_call Try.call34 rfl (F.spatelaw2_KeptRows_ok H)) rfl rfl ?_
      rintro _ h43 ⟨r44, rfl, H⟩
      refine ⟨trivial, ?_⟩
      refine g_p 7 255 rfl (by kernel_rfl) (y_pick_t rfl rfl) rfl rfl ?_
      refine g_p 8 511 rfl (by kernel_rfl) (y_move rfl) rfl rfl ?_
      refine g_split (t := 61) rfl (fun g45 => ?_) (fun g45 => ?_)
      · replace H := H.1 g45
        refine g_p 9 1023 rfl (by kernel_rfl) (y_move rfl) rfl rfl ?_
        refine g_p 10 2047 rfl (by kernel_rfl) (y_move rfl) rfl rfl ?_
        obtain ⟨a46, e47, H⟩ := H
        refine g_p 11 4095 rfl (by kernel_rfl) (f_idx (s := s11) Try.runUnderlying53 Try.sizeOf51 rfl rfl e47) rfl rfl ?_
        obtain ⟨y48, k49, H⟩ := H
        refine g_h 12 8191 rfl (by kernel_rfl) (y_ld Try.isAgg51 rfl) k49 rfl rfl ?_
        refine g_e 13 16383 [] (by kernel_rfl) rfl (by kernel_rfl) (e_call Try.call34 rfl (F.spatelaw2_KeptRows_ok H)) rfl rfl ?_
        rintro _ h50 ⟨r51, rfl, H⟩
        refine ⟨trivial, ?_⟩
        refine g_p 14 32767 rfl (by kernel_rfl) (y_pick_t rfl rfl) rfl rfl ?_
        refine g_p 15 65535 rfl (by kernel_rfl) (y_move rfl) rfl rfl ?_
        refine g_split (t := 68) rfl (fun g52 => ?_) (fun g52 => ?_)
        · replace H := H.1 g52
          refine g_p 16 131071 rfl (by kernel_rfl) (y_move rfl) rfl rfl ?_
          refine g_p 17 262143 rfl (by kernel_rfl) (y_move rfl) rfl rfl ?_
          obtain ⟨a53, e54, H⟩ := H
          refine g_p 18 524287 rfl (by kernel_rfl) (f_idx (s := s11) Try.runUnderlying53 Try.sizeOf51 rfl rfl e54) rfl rfl ?_
          obtain ⟨y55, k56, H⟩ := H
          refine g_h 19 1048575 rfl (by kernel_rfl) (y_ld Try.isAgg51 rfl) k56 rfl rfl ?_
          refine g_e 20 2097151 [] (by kernel_rfl) rfl (by kernel_rfl) (e_call Try.call34 rfl (F.spatelaw2_KeptRows_ok H)) rfl rfl ?_
          rintro _ h57 ⟨r58, rfl, H⟩
          refine ⟨trivial, ?_⟩
          refine g_p 21 4194303 rfl (by kernel_rfl) (y_pick_t rfl rfl) rfl rfl ?_
          refine g_p 22 8388607 rfl (by kernel_rfl) (y_move rfl) rfl rfl ?_
          refine g_split (t := 75) rfl (fun g59 => ?_) (fun g59 => ?_)
          · replace H := H.1 g59
            refine g_p 23 16777215 rfl (by kernel_rfl) (y_move rfl) rfl rfl ?_
            refine g_p 24 33554431 rfl (by kernel_rfl) (y_move rfl) rfl rfl ?_
            refine g_p 25 67108863 rfl (by kernel_rfl) (y_move rfl) rfl rfl ?_
            refine g_e 26 134217727 [] (by kernel_rfl) rfl (by kernel_rfl) (e_call Try.call33 rfl (F.spateref8_Rows_ok H)) rfl rfl ?_
            rintro _ h60 ⟨r61, rfl, H⟩
            refine ⟨trivial, ?_⟩
            refine g_e 27 268435455 [] (by kernel_rfl) rfl (by kernel_rfl) (e_call Try.call32 rfl (F.spatelaw2_SameRows_ok H)) rfl rfl ?_
            rintro _ h62 ⟨r63, rfl, H⟩
            refine ⟨trivial, ?_⟩
            refine g_p 28 536870911 rfl (by kernel_rfl) (y_pick_t rfl rfl) rfl rfl ?_
            refine g_p 29 1073741823 rfl (by kernel_rfl) (y_move rfl) rfl rfl ?_
            refine g_split (t := 82) rfl (fun g64 => ?_) (fun g64 => ?_)
            · replace H := H.1 g64
              refine g_p 30 2147483647 rfl (by kernel_rfl) (y_move rfl) rfl rfl ?_
              refine g_e 31 4294967295 [] (by kernel_rfl) rfl (by kernel_rfl) (e_call Try.call31 rfl (F.merge_Rows_ok H)) rfl rfl ?_
              rintro _ h65 ⟨r66, rfl, H⟩
              refine ⟨trivial, ?_⟩
              refine g_p 32 8589934591 rfl (by kernel_rfl) (y_len (ts := #[]) Try.runUnderlying51 (o := r66.ptr) (n := r66.len) (cap := r66.cap) rfl) rfl rfl ?_
              refine g_p 33 17179869183 rfl (by kernel_rfl) (y_eql rfl rfl) rfl rfl ?_
              refine g_p 34 34359738367 rfl (by kernel_rfl) (y_pick_t rfl rfl) rfl rfl ?_
              refine g_p 35 68719476735 rfl (by kernel_rfl) (y_move rfl) rfl rfl ?_
              refine g_split (t := 88) rfl (fun g67 => ?_) (fun g67 => ?_)
              · replace H := H.1 g67
                refine g_p 36 137438953471 rfl (by kernel_rfl) (y_move rfl) rfl rfl ?_
                refine g_p 37 274877906943 rfl (by kernel_rfl) (y_move rfl) rfl rfl ?_
                obtain ⟨a68, e69, H⟩ := H
                refine g_p 38 549755813887 rfl (by kernel_rfl) (f_idx (s := s11) Try.runUnderlying53 Try.sizeOf51 rfl rfl e69) rfl rfl ?_
                obtain ⟨y70, k71, H⟩ := H
                refine g_h 39 1099511627775 rfl (by kernel_rfl) (y_ld Try.isAgg51 rfl) k71 rfl rfl ?_
                refine g_p 42 5497558138879 rfl (by kernel_rfl) (y_move rfl) rfl rfl ?_
                refine g_p 43 14293651161087 rfl (by kernel_rfl) (y_move rfl) rfl rfl ?_
                obtain ⟨s73, e72, H⟩ := H
                refine g_p 44 31885837205503 rfl (by kernel_rfl) (f_cutL (s := s11) none (some (.i64, 1)) Try.runUnderlying53 Try.sizeOf51 rfl rfl rfl e72) rfl rfl ?_
                refine g_e 40 32985348833279 [] (by kernel_rfl) rfl (by kernel_rfl) (f_buildL (cs := #[y70.enc]) rfl rfl (bl_53_1_0 y70) H) rfl rfl ?_
                rintro _ h74 ⟨s75, rfl, H⟩
                refine ⟨trivial, ?_⟩
                refine g_e 41 35184372088831 [] (by kernel_rfl) rfl (by kernel_rfl) (e_call Try.call31 rfl (F.merge_Rows_ok H)) rfl rfl ?_
                rintro _ h76 ⟨r77, rfl, H⟩
                refine ⟨trivial, ?_⟩
                refine g_e 45 70368744177663 [] (by kernel_rfl) rfl (by kernel_rfl) (e_call Try.call33 rfl (F.spateref8_Rows_ok H)) rfl rfl ?_
                rintro _ h78 ⟨r79, rfl, H⟩
                refine ⟨trivial, ?_⟩
                refine g_e 46 140737488355327 [] (by kernel_rfl) rfl (by kernel_rfl) (e_call Try.call32 rfl (F.spatelaw2_SameRows_ok H)) rfl rfl ?_
                rintro _ h80 ⟨r81, rfl, H⟩
                refine ⟨trivial, ?_⟩
                refine g_p 47 281474976710655 rfl (by kernel_rfl) (y_pick_t rfl rfl) rfl rfl ?_
                refine g_p 48 562949953421311 rfl (by kernel_rfl) (y_assign rfl) rfl rfl ?_
                refine g_d (by kernel_rfl) ?_
                refine tr_thenN ?_
                refine tr_ret ?_
                exact tr_ret1 rfl rfl ⟨_, rfl, H⟩
              · replace H := H.2 g67
                refine g_s 36 137438953471 rfl (by kernel_rfl) rfl rfl ?_
                refine g_s 37 274877906943 rfl (by kernel_rfl) rfl rfl ?_
                refine g_s 38 549755813887 rfl (by kernel_rfl) rfl rfl ?_
                refine g_s 39 1099511627775 rfl (by kernel_rfl) rfl rfl ?_
                refine g_s 40 2199023255551 rfl (by kernel_rfl) rfl rfl ?_
                refine g_s 41 4398046511103 rfl (by kernel_rfl) rfl rfl ?_
                refine g_s 42 8796093022207 rfl (by kernel_rfl) rfl rfl ?_
                refine g_s 43 17592186044415 rfl (by kernel_rfl) rfl rfl ?_
                refine g_s 44 35184372088831 rfl (by kernel_rfl) rfl rfl ?_
                refine g_s 45 70368744177663 rfl (by kernel_rfl) rfl rfl ?_
                refine g_s 46 140737488355327 rfl (by kernel_rfl) rfl rfl ?_
                refine g_p 47 281474976710655 rfl (by kernel_rfl) (y_pick_f rfl rfl) rfl rfl ?_
                refine g_p 48 562949953421311 rfl (by kernel_rfl) (y_assign rfl) rfl rfl ?_
                refine g_d (by kernel_rfl) ?_
                refine tr_thenN ?_
                refine tr_ret ?_
                exact tr_ret1 rfl rfl ⟨_, rfl, H⟩
            · replace H := H.2 g64
              refine g_s 30 2147483647 rfl (by kernel_rfl) rfl rfl ?_
              refine g_s 31 4294967295 rfl (by kernel_rfl) rfl rfl ?_
              refine g_s 32 8589934591 rfl (by kernel_rfl) rfl rfl ?_
              refine g_s 33 17179869183 rfl (by kernel_rfl) rfl rfl ?_
              refine g_p 34 34359738367 rfl (by kernel_rfl) (y_pick_f rfl rfl) rfl rfl ?_
              refine g_p 35 68719476735 rfl (by kernel_rfl) (y_move rfl) rfl rfl ?_
              refine g_s 36 137438953471 rfl (by kernel_rfl) rfl rfl ?_
              refine g_s 37 274877906943 rfl (by kernel_rfl) rfl rfl ?_
              refine g_s 38 549755813887 rfl (by kernel_rfl) rfl rfl ?_
              refine g_s 39 1099511627775 rfl (by kernel_rfl) rfl rfl ?_
              refine g_s 40 2199023255551 rfl (by kernel_rfl) rfl rfl ?_
              refine g_s 41 4398046511103 rfl (by kernel_rfl) rfl rfl ?_
              refine g_s 42 8796093022207 rfl (by kernel_rfl) rfl rfl ?_
              refine g_s 43 17592186044415 rfl (by kernel_rfl) rfl rfl ?_
              refine g_s 44 35184372088831 rfl (by kernel_rfl) rfl rfl ?_
              refine g_s 45 70368744177663 rfl (by kernel_rfl) rfl rfl ?_
              refine g_s 46 140737488355327 rfl (by kernel_rfl) rfl rfl ?_
              refine g_p 47 281474976710655 rfl (by kernel_rfl) (y_pick_f rfl rfl) rfl rfl ?_
              refine g_p 48 562949953421311 rfl (by kernel_rfl) (y_assign rfl) rfl rfl ?_
              refine g_d (by kernel_rfl) ?_
              refine tr_thenN ?_
              refine tr_ret ?_
              exact tr_ret1 rfl rfl ⟨_, rfl, H⟩
          · replace H := H.2 g59
            refine g_s 23 16777215 rfl (by kernel_rfl) rfl rfl ?_
            refine g_s 24 33554431 rfl (by kernel_rfl) rfl rfl ?_
            refine g_s 25 67108863 rfl (by kernel_rfl) rfl rfl ?_
            refine g_s 26 134217727 rfl (by kernel_rfl) rfl rfl ?_
            refine g_s 27 268435455 rfl (by kernel_rfl) rfl rfl ?_
            refine g_p 28 536870911 rfl (by kernel_rfl) (y_pick_f rfl rfl) rfl rfl ?_
            refine g_p 29 1073741823 rfl (by kernel_rfl) (y_move rfl) rfl rfl ?_
            refine g_s 30 2147483647 rfl (by kernel_rfl) rfl rfl ?_
            refine g_s 31 4294967295 rfl (by kernel_rfl) rfl rfl ?_
            refine g_s 32 8589934591 rfl (by kernel_rfl) rfl rfl ?_
            refine g_s 33 17179869183 rfl (by kernel_rfl) rfl rfl ?_
            refine g_p 34 34359738367 rfl (by kernel_rfl) (y_pick_f rfl rfl) rfl rfl ?_
            refine g_p 35 68719476735 rfl (by kernel_rfl) (y_move rfl) rfl rfl ?_
            refine g_s 36 137438953471 rfl (by kernel_rfl) rfl rfl ?_
            refine g_s 37 274877906943 rfl (by kernel_rfl) rfl rfl ?_
            refine g_s 38 549755813887 rfl (by kernel_rfl) rfl rfl ?_
            refine g_s 39 1099511627775 rfl (by kernel_rfl) rfl rfl ?_
            refine g_s 40 2199023255551 rfl (by kernel_rfl) rfl rfl ?_
            refine g_s 41 4398046511103 rfl (by kernel_rfl) rfl rfl ?_
            refine g_s 42 8796093022207 rfl (by kernel_rfl) rfl rfl ?_
            refine g_s 43 17592186044415 rfl (by kernel_rfl) rfl rfl ?_
            refine g_s 44 35184372088831 rfl (by kernel_rfl) rfl rfl ?_
            refine g_s 45 70368744177663 rfl (by kernel_rfl) rfl rfl ?_
            refine g_s 46 140737488355327 rfl (by kernel_rfl) rfl rfl ?_
            refine g_p 47 281474976710655 rfl (by kernel_rfl) (y_pick_f rfl rfl) rfl rfl ?_
            refine g_p 48 562949953421311 rfl (by kernel_rfl) (y_assign rfl) rfl rfl ?_
            refine g_d (by kernel_rfl) ?_
            refine tr_thenN ?_
            refine tr_ret ?_
            exact tr_ret1 rfl rfl ⟨_, rfl, H⟩
        · replace H := H.2 g52
          refine g_s 16 131071 rfl (by kernel_rfl) rfl rfl ?_
          refine g_s 17 262143 rfl (by kernel_rfl) rfl rfl ?_
          refine g_s 18 524287 rfl (by kernel_rfl) rfl rfl ?_
          refine g_s 19 1048575 rfl (by kernel_rfl) rfl rfl ?_
          refine g_s 20 2097151 rfl (by kernel_rfl) rfl rfl ?_
          refine g_p 21 4194303 rfl (by kernel_rfl) (y_pick_f rfl rfl) rfl rfl ?_
          refine g_p 22 8388607 rfl (by kernel_rfl) (y_move rfl) rfl rfl ?_
          refine g_s 23 16777215 rfl (by kernel_rfl) rfl rfl ?_
          refine g_s 24 33554431 rfl (by kernel_rfl) rfl rfl ?_
          refine g_s 25 67108863 rfl (by kernel_rfl) rfl rfl ?_
          refine g_s 26 134217727 rfl (by kernel_rfl) rfl rfl ?_
          refine g_s 27 268435455 rfl (by kernel_rfl) rfl rfl ?_
          refine g_p 28 536870911 rfl (by kernel_rfl) (y_pick_f rfl rfl) rfl rfl ?_
          refine g_p 29 1073741823 rfl (by kernel_rfl) (y_move rfl) rfl rfl ?_
          refine g_s 30 2147483647 rfl (by kernel_rfl) rfl rfl ?_
          refine g_s 31 4294967295 rfl (by kernel_rfl) rfl rfl ?_
          refine g_s 32 8589934591 rfl (by kernel_rfl) rfl rfl ?_
          refine g_s 33 17179869183 rfl (by kernel_rfl) rfl rfl ?_
          refine g_p 34 34359738367 rfl (by kernel_rfl) (y_pick_f rfl rfl) rfl rfl ?_
          refine g_p 35 68719476735 rfl (by kernel_rfl) (y_move rfl) rfl rfl ?_
          refine g_s 36 137438953471 rfl (by kernel_rfl) rfl rfl ?_
          refine g_s 37 274877906943 rfl (by kernel_rfl) rfl rfl ?_
          refine g_s 38 549755813887 rfl (by kernel_rfl) rfl rfl ?_
          refine g_s 39 1099511627775 rfl (by kernel_rfl) rfl rfl ?_
          refine g_s 40 2199023255551 rfl (by kernel_rfl) rfl rfl ?_
          refine g_s 41 4398046511103 rfl (by kernel_rfl) rfl rfl ?_
          refine g_s 42 8796093022207 rfl (by kernel_rfl) rfl rfl ?_
          refine g_s 43 17592186044415 rfl (by kernel_rfl) rfl rfl ?_
          refine g_s 44 35184372088831 rfl (by kernel_rfl) rfl rfl ?_
          refine g_s 45 70368744177663 rfl (by kernel_rfl) rfl rfl ?_
          refine g_s 46 140737488355327 rfl (by kernel_rfl) rfl rfl ?_
          refine g_p 47 281474976710655 rfl (by kernel_rfl) (y_pick_f rfl rfl) rfl rfl ?_
          refine g_p 48 562949953421311 rfl (by kernel_rfl) (y_assign rfl) rfl rfl ?_
          refine g_d (by kernel_rfl) ?_
          refine tr_thenN ?_
          refine tr_ret ?_
          exact tr_ret1 rfl rfl ⟨_, rfl, H⟩
      · replace H := H.2 g45
        refine g_s 9 1023 rfl (by kernel_rfl) rfl rfl ?_
        refine g_s 10 2047 rfl (by kernel_rfl) rfl rfl ?_
        refine g_s 11 4095 rfl (by kernel_rfl) rfl rfl ?_
        refine g_s 12 8191 rfl (by kernel_rfl) rfl rfl ?_
        refine g_s 13 16383 rfl (by kernel_rfl) rfl rfl ?_
        refine g_p 14 32767 rfl (by kernel_rfl) (y_pick_f rfl rfl) rfl rfl ?_
        refine g_p 15 65535 rfl (by kernel_rfl) (y_move rfl) rfl rfl ?_
        refine g_s 16 131071 rfl (by kernel_rfl) rfl rfl ?_
        refine g_s 17 262143 rfl (by kernel_rfl) rfl rfl ?_
        refine g_s 18 524287 rfl (by kernel_rfl) rfl rfl ?_
        refine g_s 19 1048575 rfl (by kernel_rfl) rfl rfl ?_
        refine g_s 20 2097151 rfl (by kernel_rfl) rfl rfl ?_
        refine g_p 21 4194303 rfl (by kernel_rfl) (y_pick_f rfl rfl) rfl rfl ?_
        refine g_p 22 8388607 rfl (by kernel_rfl) (y_move rfl) rfl rfl ?_
        refine g_s 23 16777215 rfl (by kernel_rfl) rfl rfl ?_
        refine g_s 24 33554431 rfl (by kernel_rfl) rfl rfl ?_
        refine g_s 25 67108863 rfl (by kernel_rfl) rfl rfl ?_
        refine g_s 26 134217727 rfl (by kernel_rfl) rfl rfl ?_
        refine g_s 27 268435455 rfl (by kernel_rfl) rfl rfl ?_
        refine g_p 28 536870911 rfl (by kernel_rfl) (y_pick_f rfl rfl) rfl rfl ?_
        refine g_p 29 1073741823 rfl (by kernel_rfl) (y_move rfl) rfl rfl ?_
        refine g_s 30 2147483647 rfl (by kernel_rfl) rfl rfl ?_
        refine g_s 31 4294967295 rfl (by kernel_rfl) rfl rfl ?_
        refine g_s 32 8589934591 rfl (by kernel_rfl) rfl rfl ?_
        refine g_s 33 17179869183 rfl (by kernel_rfl) rfl rfl ?_
        refine g_p 34 34359738367 rfl (by kernel_rfl) (y_pick_f rfl rfl) rfl rfl ?_
        refine g_p 35 68719476735 rfl (by kernel_rfl) (y_move rfl) rfl rfl ?_
        refine g_s 36 137438953471 rfl (by kernel_rfl) rfl rfl ?_
        refine g_s 37 274877906943 rfl (by kernel_rfl) rfl rfl ?_
        refine g_s 38 549755813887 rfl (by kernel_rfl) rfl rfl ?_
        refine g_s 39 1099511627775 rfl (by kernel_rfl) rfl rfl ?_
        refine g_s 40 2199023255551 rfl (by kernel_rfl) rfl rfl ?_
        refine g_s 41 4398046511103 rfl (by kernel_rfl) rfl rfl ?_
        refine g_s 42 8796093022207 rfl (by kernel_rfl) rfl rfl ?_
        refine g_s 43 17592186044415 rfl (by kernel_rfl) rfl rfl ?_
        refine g_s 44 35184372088831 rfl (by kernel_rfl) rfl rfl ?_
        refine g_s 45 70368744177663 rfl (by kernel_rfl) rfl rfl ?_
        refine g_s 46 140737488355327 rfl (by kernel_rfl) rfl rfl ?_
        refine g_p 47 281474976710655 rfl (by kernel_rfl) (y_pick_f rfl rfl) rfl rfl ?_
        refine g_p 48 562949953421311 rfl (by kernel_rfl) (y_assign rfl) rfl rfl ?_
        refine g_d (by kernel_rfl) ?_
        refine tr_thenN ?_
        refine tr_ret ?_
        exact tr_ret1 rfl rfl ⟨_, rfl, H⟩
    · replace H := H.2 g38
      refine g_s 2 7 rfl (by kernel_rfl) rfl rfl ?_
      refine g_s 3 15 rfl (by kernel_rfl) rfl rfl ?_
      refine g_s 4 31 rfl (by kernel_rfl) rfl rfl ?_
      refine g_s 5 63 rfl (by kernel_rfl) rfl rfl ?_
      refine g_s 6 127 rfl (by kernel_rfl) rfl rfl ?_
      refine g_p 7 255 rfl (by kernel_rfl) (y_pick_f rfl rfl) rfl rfl ?_
      refine g_p 8 511 rfl (by kernel_rfl) (y_move rfl) rfl rfl ?_
      refine g_s 9 1023 rfl (by kernel_rfl) rfl rfl ?_
      refine g_s 10 2047 rfl (by kernel_rfl) rfl rfl ?_
      refine g_s 11 4095 rfl (by kernel_rfl) rfl rfl ?_
      refine g_s 12 8191 rfl (by kernel_rfl) rfl rfl ?_
      refine g_s 13 16383 rfl (by kernel_rfl) rfl rfl ?_
      refine g_p 14 32767 rfl (by kernel_rfl) (y_pick_f rfl rfl) rfl rfl ?_
      refine g_p 15 65535 rfl (by kernel_rfl) (y_move rfl) rfl rfl ?_
      refine g_s 16 131071 rfl (by kernel_rfl) rfl rfl ?_
      refine g_s 17 262143 rfl (by kernel_rfl) rfl rfl ?_
      refine g_s 18 524287 rfl (by kernel_rfl) rfl rfl ?_
      refine g_s 19 1048575 rfl (by kernel_rfl) rfl rfl ?_
      refine g_s 20 2097151 rfl (by kernel_rfl) rfl rfl ?_
      refine g_p 21 4194303 rfl (by kernel_rfl) (y_pick_f rfl rfl) rfl rfl ?_
      refine g_p 22 8388607 rfl (by kernel_rfl) (y_move rfl) rfl rfl ?_
      refine g_s 23 16777215 rfl (by kernel_rfl) rfl rfl ?_
      refine g_s 24 33554431 rfl (by kernel_rfl) rfl rfl ?_
      refine g_s 25 67108863 rfl (by kernel_rfl) rfl rfl ?_
      refine g_s 26 134217727 rfl (by kernel_rfl) rfl rfl ?_
      refine g_s 27 268435455 rfl (by kernel_rfl) rfl rfl ?_
      refine g_p 28 536870911 rfl (by kernel_rfl) (y_pick_f rfl rfl) rfl rfl ?_
      refine g_p 29 1073741823 rfl (by kernel_rfl) (y_move rfl) rfl rfl ?_
      refine g_s 30 2147483647 rfl (by kernel_rfl) rfl rfl ?_
      refine g_s 31 4294967295 rfl (by kernel_rfl) rfl rfl ?_
      refine g_s 32 8589934591 rfl (by kernel_rfl) rfl rfl ?_
      refine g_s 33 17179869183 rfl (by kernel_rfl) rfl rfl ?_
      refine g_p 34 34359738367 rfl (by kernel_rfl) (y_pick_f rfl rfl) rfl rfl ?_
      refine g_p 35 68719476735 rfl (by kernel_rfl) (y_move rfl) rfl rfl ?_
      refine g_s 36 137438953471 rfl (by kernel_rfl) rfl rfl ?_
      refine g_s 37 274877906943 rfl (by kernel_rfl) rfl rfl ?_
      refine g_s 38 549755813887 rfl (by kernel_rfl) rfl rfl ?_
      refine g_s 39 1099511627775 rfl (by kernel_rfl) rfl rfl ?_
      refine g_s 40 2199023255551 rfl (by kernel_rfl) rfl rfl ?_
      refine g_s 41 4398046511103 rfl (by kernel_rfl) rfl rfl ?_
      refine g_s 42 8796093022207 rfl (by kernel_rfl) rfl rfl ?_
      refine g_s 43 17592186044415 rfl (by kernel_rfl) rfl rfl ?_
      refine g_s 44 35184372088831 rfl (by kernel_rfl) rfl rfl ?_
      refine g_s 45 70368744177663 rfl (by kernel_rfl) rfl rfl ?_
      refine g_s 46 140737488355327 rfl (by kernel_rfl) rfl rfl ?_
      refine g_p 47 281474976710655 rfl (by kernel_rfl) (y_pick_f rfl rfl) rfl rfl ?_
      refine g_p 48 562949953421311 rfl (by kernel_rfl) (y_assign rfl) rfl rfl ?_
      refine g_d (by kernel_rfl) ?_
      refine tr_thenN ?_
      refine tr_ret ?_
      exact tr_ret1 rfl rfl ⟨_, rfl, H⟩

def F.spatelaw8_MergeParts.j2 (Q : Bool → H → Prop) (C1 : Int → Sl → Sl → Sl → Sl → Bool → Int → H → Prop) (x0 : Int) (x9 : Sl) (x10 : Sl) (x11 : Sl) (x12 : Sl) (x13 : Bool) (x14 : Int) (h : H) : Prop :=
  C1 x0 x9 x10 x11 x12 x13 (IntKind.wrap .i64 (x14 + 1)) h
def F.spatelaw8_MergeParts.j3 (Q : Bool → H → Prop) (C1 : Int → Sl → Sl → Sl → Sl → Bool → Int → H → Prop) (x0 : Int) (x9 : Sl) (x10 : Sl) (x11 : Sl) (x12 : Sl) (x13 : Bool) (x14 : Int) (x15 : Int) (h : H) : Prop :=
  ((decide (x15 > 0)) = true →
  Q false h) ∧
  ((decide (x15 > 0)) = false →
  F.spatelaw8_MergeParts.j2 Q C1 x0 x9 x10 x11 x12 x13 x14 h)
def F.spatelaw8_MergeParts.j4 (Q : Bool → H → Prop) (x9 : Sl) (x10 : Sl) (x11 : Sl) (x12 : Sl) (x13 : Bool) (h : H) : Prop :=
  (x13 = true →
  Q true h) ∧
  (x13 = false →
  newL h #[x11.enc, x9.enc, x10.enc] ty_51 3 fun s34 h33 =>
  F.merge_Rows 1000 s34 h33 fun r36 h35 =>
  F.spatelaw2_SameRows r36 x12 h35 fun r38 h37 =>
  Q r38 h37)
def F.spatelaw8_MergeParts.j5 (Q : Bool → H → Prop) (x9 : Sl) (x10 : Sl) (x11 : Sl) (x12 : Sl) (x13 : Bool) (x106 : Bool) (h : H) : Prop :=
  (x106 = true →
  Q false h) ∧
  (x106 = false →
  F.spatelaw8_MergeParts.j4 Q x9 x10 x11 x12 x13 h)
def F.spatelaw8_MergeParts.l1 (Q : Bool → H → Prop) : Nat → Int → Sl → Sl → Sl → Sl → Bool → Int → H → Prop
  | 0, _, _, _, _, _, _, _, _ => False
  | q1 + 1, x0, x9, x10, x11, x12, x13, x14, h =>
    ((decide (x14 < (x12.len : Int))) = true →
    idxA x12 (IntKind.wrap .i64 (x14 - 1)) 7 fun a18 =>
    ld_S_api_Cell h (a18.add 0) fun y20 =>
    idxA x12 x14 7 fun a22 =>
    ld_S_api_Cell h (a22.add 0) fun y24 =>
    F.merge_Compare y20 y24 h fun r27 h26 =>
    (x13 = true →
    F.spatelaw8_MergeParts.j3 Q (F.spatelaw8_MergeParts.l1 Q q1) x0 x9 x10 x11 x12 true x14 r27 h26) ∧
    (x13 = false →
    F.spatelaw8_MergeParts.j3 Q (F.spatelaw8_MergeParts.l1 Q q1) x0 x9 x10 x11 x12 ((r27 == 0)) x14 r27 h26)) ∧
    ((decide (x14 < (x12.len : Int))) = false →
    runI PP (Builtin.min_ #[3, 3] 3 #[(.int .i64 x0), (.int .i64 (x12.len : Int))]) h .i64 fun s31 h30 =>
    cutL x12 0 s31 7 fun s41 =>
    newL h30 #[x9.enc, x10.enc, x11.enc] ty_51 3 fun s43 h42 =>
    F.merge_Rows x0 s43 h42 fun r45 h44 =>
    F.spatelaw2_SameRows r45 s41 h44 fun r47 h46 =>
    ((!r47) = true →
    F.spatelaw8_MergeParts.j5 Q x9 x10 x11 x12 x13 true h46) ∧
    ((!r47) = false →
    newL h46 #[x9.enc, x10.enc] ty_51 2 fun s50 h49 =>
    F.merge_Rows 1000 s50 h49 fun r52 h51 =>
    newL h51 #[r52.enc, x11.enc] ty_51 2 fun s54 h53 =>
    F.merge_Rows 1000 s54 h53 fun r56 h55 =>
    F.spatelaw2_SameRows r56 x12 h55 fun r58 h57 =>
    ((!r58) = true →
    F.spatelaw8_MergeParts.j5 Q x9 x10 x11 x12 x13 true h57) ∧
    ((!r58) = false →
    newL h57 #[x10.enc, x11.enc] ty_51 2 fun s61 h60 =>
    F.merge_Rows 1000 s61 h60 fun r63 h62 =>
    newL h62 #[x9.enc, r63.enc] ty_51 2 fun s65 h64 =>
    F.merge_Rows 1000 s65 h64 fun r67 h66 =>
    F.spatelaw2_SameRows r67 x12 h66 fun r69 h68 =>
    F.spatelaw8_MergeParts.j5 Q x9 x10 x11 x12 x13 (!r69) h68)))
/-- spate/spatelaw8.MergeParts -/
def F.spatelaw8_MergeParts (p0 : Int) (p1 : Sl) (p2 : Sl) (p3 : Sl) (h : H) (Q : Bool → H → Prop) : Prop :=
  F.spatelaw8_known  h fun r2 h1 =>
  ((!r2) = true →
  Q false h1) ∧
  ((!r2) = false →
  F.spatelaw8_within p0 700 h1 fun r5 h4 =>
  F.spatelaw8_ordered p1 h4 fun r7 h6 =>
  F.spatelaw8_ordered p2 h6 fun r9 h8 =>
  F.spatelaw8_ordered p3 h8 fun r11 h10 =>
  newL h10 #[r7.enc, r9.enc, r11.enc] ty_51 3 fun s13 h12 =>
  F.merge_Rows 1000 s13 h12 fun r15 h14 =>
  ((((r15.len : Int) != (IntKind.wrap .i64 ((IntKind.wrap .i64 ((r7.len : Int) + (r9.len : Int))) + (r11.len : Int))))) = true →
  Q false h14) ∧
  ((((r15.len : Int) != (IntKind.wrap .i64 ((IntKind.wrap .i64 ((r7.len : Int) + (r9.len : Int))) + (r11.len : Int))))) = false →
  ∃ m, F.spatelaw8_MergeParts.l1 Q m r5 r7 r9 r11 r15 false 1 h14))
theorem F.spatelaw8_MergeParts_ok {p0 : Int} {p1 : Sl} {p2 : Sl} {p3 : Sl} {h : H} {Q : Bool → H → Prop} (H : F.spatelaw8_MergeParts p0 p1 p2 p3 h Q) : Fn PP 10 ([(.int .i64 p0), p1.enc, p2.enc, p3.enc] : List Value).toArray h fun r h' => ∃ r0, r = (.bool r0) ∧ Q r0 h' := by
  unfold F.spatelaw8_MergeParts at H
  refine fn_of Try.func10 Try.ntmps10 rfl rfl fun w0 => ?_
  refine tr_sub [(0, (.int .i64 p0)), (1, p1.enc), (2, p2.enc), (3, p3.enc)] ⟨rfl, rfl, rfl, rfl, trivial⟩ ?_
  refine tr_seq ?_
  refine tr_region ?_
  refine tr_p (y_assign rfl) rfl rfl ?_
  refine tr_nil ?_
  refine tr_thenN ?_
  refine tr_seq ?_
  refine tr_seq ?_
  refine tr_region ?_
  refine tr_e (e_call Try.call15 rfl (F.spatelaw8_known_ok H)) rfl rfl ?_
  rintro _ h1 ⟨r2, rfl, H⟩
  refine tr_p (y_not rfl) rfl rfl ?_
  refine tr_nil ?_
  refine tr_thenN ?_
  refine tr_cond rfl (fun g3 => ?_) (fun g3 => ?_)
  · replace H := H.1 g3
    refine tr_seq ?_
    refine tr_region ?_
    refine tr_p (y_assign rfl) rfl rfl ?_
    refine tr_nil ?_
    refine tr_thenN ?_
    refine tr_ret ?_
    refine tr_thenR ?_
    exact tr_ret1 rfl rfl ⟨_, rfl, H⟩
  · replace H := H.2 g3
    refine tr_skip ?_
    refine tr_thenN ?_
    refine tr_seq ?_
    refine tr_region ?_
    refine tr_p (y_move rfl) rfl rfl ?_
    refine tr_e (e_call Try.call28 rfl (F.spatelaw8_within_ok H)) rfl rfl ?_
    rintro _ h4 ⟨r5, rfl, H⟩
    refine tr_p (y_assign rfl) rfl rfl ?_
    refine tr_nil ?_
    refine tr_thenN ?_
    refine tr_seq ?_
    refine tr_region ?_
    refine tr_p (y_move rfl) rfl rfl ?_
    refine tr_e (e_call Try.call29 rfl (F.spatelaw8_ordered_ok H)) rfl rfl ?_
    rintro _ h6 ⟨r7, rfl, H⟩
    refine tr_p (y_assign rfl) rfl rfl ?_
    refine tr_nil ?_
    refine tr_thenN ?_
    refine tr_seq ?_
    refine tr_region ?_
    refine tr_p (y_move rfl) rfl rfl ?_
    refine tr_e (e_call Try.call29 rfl (F.spatelaw8_ordered_ok H)) rfl rfl ?_
    rintro _ h8 ⟨r9, rfl, H⟩
    refine tr_p (y_assign rfl) rfl rfl ?_
    refine tr_nil ?_
    refine tr_thenN ?_
    refine tr_seq ?_
    refine tr_region ?_
    refine tr_p (y_move rfl) rfl rfl ?_
    refine tr_e (e_call Try.call29 rfl (F.spatelaw8_ordered_ok H)) rfl rfl ?_
    rintro _ h10 ⟨r11, rfl, H⟩
    refine tr_p (y_assign rfl) rfl rfl ?_
    refine tr_nil ?_
    refine tr_thenN ?_
    refine tr_seq ?_
    refine tr_region ?_
    refine tr_p (y_move rfl) rfl rfl ?_
    refine tr_p (y_move rfl) rfl rfl ?_
    refine tr_p (y_move rfl) rfl rfl ?_
    refine tr_e (f_buildL (cs := #[r7.enc, r9.enc, r11.enc]) rfl rfl (bl_53_3_0_1_2 r7 r9 r11) H) rfl rfl ?_
    rintro _ h12 ⟨s13, rfl, H⟩
    refine tr_e (e_call Try.call31 rfl (F.merge_Rows_ok H)) rfl rfl ?_
    rintro _ h14 ⟨r15, rfl, H⟩
    refine tr_p (y_assign rfl) rfl rfl ?_
    refine tr_nil ?_
    refine tr_thenN ?_
    refine tr_seq ?_
    refine tr_seq ?_
    refine tr_region ?_
    refine tr_p (y_move rfl) rfl rfl ?_
    refine tr_p (y_len (ts := #[]) Try.runUnderlying51 (o := r15.ptr) (n := r15.len) (cap := r15.cap) rfl) rfl rfl ?_
    refine tr_p (y_move rfl) rfl rfl ?_
    refine tr_p (y_len (ts := #[]) Try.runUnderlying51 (o := r7.ptr) (n := r7.len) (cap := r7.cap) rfl) rfl rfl ?_
    refine tr_p (y_move rfl) rfl rfl ?_
    refine tr_p (y_len (ts := #[]) Try.runUnderlying51 (o := r9.ptr) (n := r9.len) (cap := r9.cap) rfl) rfl rfl ?_
    refine tr_p (y_add rfl rfl) rfl rfl ?_
    refine tr_p (y_move rfl) rfl rfl ?_
    refine tr_p (y_len (ts := #[]) Try.runUnderlying51 (o := r11.ptr) (n := r11.len) (cap := r11.cap) rfl) rfl rfl ?_
    refine tr_p (y_add rfl rfl) rfl rfl ?_
    refine tr_p (y_neq rfl rfl) rfl rfl ?_
    refine tr_nil ?_
    refine tr_thenN ?_
    refine tr_cond rfl (fun g16 => ?_) (fun g16 => ?_)
    · replace H := H.1 g16
      refine tr_seq ?_
      refine tr_region ?_
      refine tr_p (y_assign rfl) rfl rfl ?_
      refine tr_nil ?_
      refine tr_thenN ?_
      refine tr_ret ?_
      refine tr_thenR ?_
      exact tr_ret1 rfl rfl ⟨_, rfl, H⟩
    · replace H := H.2 g16
      refine tr_skip ?_
      refine tr_thenN ?_
      refine tr_seq ?_
      refine tr_region ?_
      refine tr_p (y_assign rfl) rfl rfl ?_
      refine tr_nil ?_
      refine tr_thenN ?_
      refine tr_seq ?_
      refine tr_seq ?_
      refine tr_region ?_
      refine tr_p (y_assign rfl) rfl rfl ?_
      refine tr_nil ?_
      refine tr_thenN ?_
      refine tr_block ?_
      obtain ⟨m70, H⟩ := H
      refine tr_sub [(0, (.int .i64 r5)), (9, r7.enc), (10, r9.enc), (11, r11.enc), (12, r15.enc), (13, (.bool false)), (14, (.int .i64 1))] ⟨rfl, rfl, rfl, rfl, rfl, rfl, rfl, trivial⟩ ?_
      refine tr_loop_j (fun m L' h => ∃ (x0 : Int) (x9 : Sl) (x10 : Sl) (x11 : Sl) (x12 : Sl) (x13 : Bool) (x14 : Int), L' = [(0, (.int .i64 x0)), (9, x9.enc), (10, x10.enc), (11, x11.enc), (12, x12.enc), (13, (.bool x13)), (14, (.int .i64 x14))] ∧ F.spatelaw8_MergeParts.l1 Q m x0 x9 x10 x11 x12 x13 x14 h) ?_ ?_ m70 ⟨_, _, _, _, _, _, _, rfl, H⟩
      · rintro L' h ⟨_, _, _, _, _, _, _, _, H⟩; exact H
      · rintro q1 L' h ⟨x0, x9, x10, x11, x12, x13, x14, rfl, H⟩
        unfold F.spatelaw8_MergeParts.l1 at H
        refine tr_seq ?_
        refine tr_seq ?_
        refine tr_region ?_
        refine tr_p (y_move rfl) rfl rfl ?_
        refine tr_p (y_move rfl) rfl rfl ?_
        refine tr_p (y_len (ts := #[]) Try.runUnderlying51 (o := x12.ptr) (n := x12.len) (cap := x12.cap) rfl) rfl rfl ?_
        refine tr_p (y_lss rfl rfl) rfl rfl ?_
        refine tr_nil ?_
        refine tr_thenN ?_
        refine tr_cond rfl (fun g17 => ?_) (fun g17 => ?_)
        · replace H := H.1 g17
          refine tr_skip ?_
          refine tr_thenN ?_
          refine tr_seq_j (fun L' h => ∃ (x0 : Int) (x9 : Sl) (x10 : Sl) (x11 : Sl) (x12 : Sl) (x13 : Bool) (x14 : Int), L' = [(0, (.int .i64 x0)), (9, x9.enc), (10, x10.enc), (11, x11.enc), (12, x12.enc), (13, (.bool x13)), (14, (.int .i64 x14))] ∧ F.spatelaw8_MergeParts.j2 Q (F.spatelaw8_MergeParts.l1 Q q1) x0 x9 x10 x11 x12 x13 x14 h) ?_ ?_
          · rintro L' h ⟨x0, x9, x10, x11, x12, x13, x14, rfl, H⟩
            unfold F.spatelaw8_MergeParts.j2 at H
            refine tr_region ?_
            refine tr_p (y_move rfl) rfl rfl ?_
            refine tr_p (y_add rfl rfl) rfl rfl ?_
            refine tr_p (y_assign rfl) rfl rfl ?_
            refine tr_nil ?_
            refine tr_thenN ?_
            exact tr_join [(0, (.int .i64 x0)), (9, x9.enc), (10, x10.enc), (11, x11.enc), (12, x12.enc), (13, (.bool x13)), (14, (.int .i64 (IntKind.wrap .i64 (x14 + 1))))] ⟨rfl, rfl, rfl, rfl, rfl, rfl, rfl, trivial⟩ ⟨_, _, _, _, _, _, _, rfl, H⟩
          · refine tr_block ?_
            refine tr_seq ?_
            refine tr_draw mixed [0, 0, 2, 7, 15, 31, 0, 0, 192, 448, 960, 2047, 4095] (by kernel_rfl) ?_
            refine g_p 0 1 rfl (by kernel_rfl) (y_move rfl) rfl rfl ?_
            refine g_p 1 3 rfl (by kernel_rfl) (y_move rfl) rfl rfl ?_
            refine g_p 2 7 rfl (by kernel_rfl) (y_sub rfl rfl) rfl rfl ?_
            obtain ⟨a18, e19, H⟩ := H
            refine g_p 3 15 rfl (by kernel_rfl) (f_idx (s := x12) Try.runUnderlying51 Try.sizeOf66 rfl rfl e19) rfl rfl ?_
            refine g_p 4 31 rfl (by kernel_rfl) (y_fa (off := 0) Try.runUnderlying66 fo_66_0 rfl) rfl rfl ?_
            obtain ⟨y20, k21, H⟩ := H
            refine g_h 5 63 rfl (by kernel_rfl) (y_ldS Try.isAgg34 Try.sizeOf34 rfl rfl) k21 rfl rfl ?_
            refine g_p 6 127 rfl (by kernel_rfl) (y_move rfl) rfl rfl ?_
            refine g_p 7 255 rfl (by kernel_rfl) (y_move rfl) rfl rfl ?_
            obtain ⟨a22, e23, H⟩ := H
            refine g_p 8 511 rfl (by kernel_rfl) (f_idx (s := x12) Try.runUnderlying51 Try.sizeOf66 rfl rfl e23) rfl rfl ?_
            refine g_p 9 1023 rfl (by kernel_rfl) (y_fa (off := 0) Try.runUnderlying66 fo_66_0 rfl) rfl rfl ?_
            obtain ⟨y24, k25, H⟩ := H
            refine g_h 10 2047 rfl (by kernel_rfl) (y_ldS Try.isAgg34 Try.sizeOf34 rfl rfl) k25 rfl rfl ?_
            refine g_e 11 4095 [] (by kernel_rfl) rfl (by kernel_rfl) (e_call Try.call26 rfl (F.merge_Compare_ok H)) rfl rfl ?_
            rintro _ h26 ⟨r27, rfl, H⟩
            refine ⟨trivial, ?_⟩
            refine g_p 12 8191 rfl (by kernel_rfl) (y_assign rfl) rfl rfl ?_
            refine g_d (by kernel_rfl) ?_
            refine tr_thenN ?_
            refine tr_seq_j (fun L' h => ∃ (x0 : Int) (x9 : Sl) (x10 : Sl) (x11 : Sl) (x12 : Sl) (x13 : Bool) (x14 : Int) (x15 : Int), L' = [(0, (.int .i64 x0)), (9, x9.enc), (10, x10.enc), (11, x11.enc), (12, x12.enc), (13, (.bool x13)), (14, (.int .i64 x14)), (15, (.int .i64 x15))] ∧ F.spatelaw8_MergeParts.j3 Q (F.spatelaw8_MergeParts.l1 Q q1) x0 x9 x10 x11 x12 x13 x14 x15 h) ?_ ?_
            · rintro L' h ⟨x0, x9, x10, x11, x12, x13, x14, x15, rfl, H⟩
              unfold F.spatelaw8_MergeParts.j3 at H
              refine tr_seq ?_
              refine tr_region ?_
              refine tr_p (y_move rfl) rfl rfl ?_
              refine tr_p (y_gtr rfl rfl) rfl rfl ?_
              refine tr_nil ?_
              refine tr_thenN ?_
              refine tr_cond rfl (fun g28 => ?_) (fun g28 => ?_)
              · replace H := H.1 g28
                refine tr_seq ?_
                refine tr_region ?_
                refine tr_p (y_assign rfl) rfl rfl ?_
                refine tr_nil ?_
                refine tr_thenN ?_
                refine tr_ret ?_
                refine tr_blockR ?_
                refine tr_thenR ?_
                refine tr_thenR ?_
                refine tr_blockR ?_
                refine tr_thenR ?_
                exact tr_ret1 rfl rfl ⟨_, rfl, H⟩
              · replace H := H.2 g28
                refine tr_skip ?_
                refine tr_blockN ?_
                refine tr_thenN ?_
                exact tr_join [(0, (.int .i64 x0)), (9, x9.enc), (10, x10.enc), (11, x11.enc), (12, x12.enc), (13, (.bool x13)), (14, (.int .i64 x14))] ⟨rfl, rfl, rfl, rfl, rfl, rfl, rfl, trivial⟩ ⟨_, _, _, _, _, _, _, rfl, H⟩
            · refine tr_region ?_
              refine tr_p (y_move rfl) rfl rfl ?_
              refine tr_p (y_move rfl) rfl rfl ?_
              refine tr_split (t := 62) rfl (fun g29 => ?_) (fun g29 => ?_)
              · replace H := H.1 g29
                refine tr_s rfl rfl ?_
                refine tr_s rfl rfl ?_
                refine tr_p (y_pick_t rfl rfl) rfl rfl ?_
                refine tr_p (y_assign rfl) rfl rfl ?_
                refine tr_nil ?_
                refine tr_thenN ?_
                exact tr_join [(0, (.int .i64 x0)), (9, x9.enc), (10, x10.enc), (11, x11.enc), (12, x12.enc), (13, (.bool true)), (14, (.int .i64 x14)), (15, (.int .i64 r27))] ⟨rfl, rfl, rfl, rfl, rfl, rfl, rfl, rfl, trivial⟩ ⟨_, _, _, _, _, _, _, _, rfl, H⟩
              · replace H := H.2 g29
                refine tr_p (y_move rfl) rfl rfl ?_
                refine tr_p (y_eql rfl rfl) rfl rfl ?_
                refine tr_p (y_pick_f rfl rfl) rfl rfl ?_
                refine tr_p (y_assign rfl) rfl rfl ?_
                refine tr_nil ?_
                refine tr_thenN ?_
                exact tr_join [(0, (.int .i64 x0)), (9, x9.enc), (10, x10.enc), (11, x11.enc), (12, x12.enc), (13, (.bool ((r27 == 0)))), (14, (.int .i64 x14)), (15, (.int .i64 r27))] ⟨rfl, rfl, rfl, rfl, rfl, rfl, rfl, rfl, trivial⟩ ⟨_, _, _, _, _, _, _, _, rfl, H⟩
        · replace H := H.2 g17
          refine tr_exit ?_
          refine tr_thenE ?_
          refine tr_thenE ?_
          refine tr_hit ?_
          refine tr_thenN ?_
          refine tr_seq ?_
          refine tr_region ?_
          refine tr_p (y_move rfl) rfl rfl ?_
          refine tr_p (y_move rfl) rfl rfl ?_
          refine tr_p (y_len (ts := #[]) Try.runUnderlying51 (o := x12.ptr) (n := x12.len) (cap := x12.cap) rfl) rfl rfl ?_
          refine tr_e (f_min rfl H) rfl rfl ?_
          rintro _ h30 ⟨s31, rfl, H⟩
          refine tr_p (y_assign rfl) rfl rfl ?_
          refine tr_nil ?_
          refine tr_thenN ?_
          refine tr_seq_j (fun L' h => ∃ (x9 : Sl) (x10 : Sl) (x11 : Sl) (x12 : Sl) (x13 : Bool), L' = [(9, x9.enc), (10, x10.enc), (11, x11.enc), (12, x12.enc), (13, (.bool x13))] ∧ F.spatelaw8_MergeParts.j4 Q x9 x10 x11 x12 x13 h) ?_ ?_
          · rintro L' h ⟨x9, x10, x11, x12, x13, rfl, H⟩
            unfold F.spatelaw8_MergeParts.j4 at H
            refine tr_seq ?_
            refine tr_region ?_
            refine tr_p (y_move rfl) rfl rfl ?_
            refine tr_p (y_move rfl) rfl rfl ?_
            refine tr_split (t := 108) rfl (fun g32 => ?_) (fun g32 => ?_)
            · replace H := H.1 g32
              refine tr_s rfl rfl ?_
              refine tr_s rfl rfl ?_
              refine tr_s rfl rfl ?_
              refine tr_s rfl rfl ?_
              refine tr_s rfl rfl ?_
              refine tr_s rfl rfl ?_
              refine tr_s rfl rfl ?_
              refine tr_p (y_pick_t rfl rfl) rfl rfl ?_
              refine tr_p (y_assign rfl) rfl rfl ?_
              refine tr_nil ?_
              refine tr_thenN ?_
              refine tr_ret ?_
              exact tr_ret1 rfl rfl ⟨_, rfl, H⟩
            · replace H := H.2 g32
              refine tr_p (y_move rfl) rfl rfl ?_
              refine tr_p (y_move rfl) rfl rfl ?_
              refine tr_p (y_move rfl) rfl rfl ?_
              refine tr_e (f_buildL (cs := #[x11.enc, x9.enc, x10.enc]) rfl rfl (bl_53_3_0_1_2 x11 x9 x10) H) rfl rfl ?_
              rintro _ h33 ⟨s34, rfl, H⟩
              refine tr_e (e_call Try.call31 rfl (F.merge_Rows_ok H)) rfl rfl ?_
              rintro _ h35 ⟨r36, rfl, H⟩
              refine tr_p (y_move rfl) rfl rfl ?_
              refine tr_e (e_call Try.call32 rfl (F.spatelaw2_SameRows_ok H)) rfl rfl ?_
              rintro _ h37 ⟨r38, rfl, H⟩
              refine tr_p (y_pick_f rfl rfl) rfl rfl ?_
              refine tr_p (y_assign rfl) rfl rfl ?_
              refine tr_nil ?_
              refine tr_thenN ?_
              refine tr_ret ?_
              exact tr_ret1 rfl rfl ⟨_, rfl, H⟩
          · refine tr_seq_j (fun L' h => ∃ (x9 : Sl) (x10 : Sl) (x11 : Sl) (x12 : Sl) (x13 : Bool) (x106 : Bool), L' = [(9, x9.enc), (10, x10.enc), (11, x11.enc), (12, x12.enc), (13, (.bool x13)), (106, (.bool x106))] ∧ F.spatelaw8_MergeParts.j5 Q x9 x10 x11 x12 x13 x106 h) ?_ ?_
            · rintro L' h ⟨x9, x10, x11, x12, x13, x106, rfl, H⟩
              unfold F.spatelaw8_MergeParts.j5 at H
              refine tr_cond rfl (fun g39 => ?_) (fun g39 => ?_)
              · replace H := H.1 g39
                refine tr_seq ?_
                refine tr_region ?_
                refine tr_p (y_assign rfl) rfl rfl ?_
                refine tr_nil ?_
                refine tr_thenN ?_
                refine tr_ret ?_
                refine tr_thenR ?_
                exact tr_ret1 rfl rfl ⟨_, rfl, H⟩
              · replace H := H.2 g39
                refine tr_skip ?_
                refine tr_thenN ?_
                exact tr_join [(9, x9.enc), (10, x10.enc), (11, x11.enc), (12, x12.enc), (13, (.bool x13))] ⟨rfl, rfl, rfl, rfl, rfl, trivial⟩ ⟨_, _, _, _, _, rfl, H⟩
            · refine tr_draw mixed [0, 0, 0, 0, 14, 31, 0, 0, 192, 511, 1023, 2047, 4095, 4095, 16383, 32767, 4095, 131071, 262143, 4095, 1048575, 2097151, 4194303, 8388607, 16777215, 16777215, 16777215, 117440511, 251658239, 536870911, 1073741823, 16777215, 4294967295, 8589934591, 17179869183] (by kernel_rfl) ?_
              refine g_p 0 1 rfl (by kernel_rfl) (y_move rfl) rfl rfl ?_
              refine g_p 1 3 rfl (by kernel_rfl) (y_move rfl) rfl rfl ?_
              refine g_p 2 7 rfl (by kernel_rfl) (y_move rfl) rfl rfl ?_
              refine g_p 3 15 rfl (by kernel_rfl) (y_move rfl) rfl rfl ?_
              refine g_p 6 79 rfl (by kernel_rfl) (y_move rfl) rfl rfl ?_
              refine g_p 7 207 rfl (by kernel_rfl) (y_move rfl) rfl rfl ?_
              obtain ⟨s41, e40, H⟩ := H
              refine g_p 8 463 rfl (by kernel_rfl) (f_cutL (s := x12) none (some (.i64, s31)) Try.runUnderlying51 Try.sizeOf66 rfl rfl rfl e40) rfl rfl ?_
              refine g_e 4 479 [] (by kernel_rfl) rfl (by kernel_rfl) (f_buildL (cs := #[x9.enc, x10.enc, x11.enc]) rfl rfl (bl_53_3_0_1_2 x9 x10 x11) H) rfl rfl ?_
              rintro _ h42 ⟨s43, rfl, H⟩
              refine ⟨trivial, ?_⟩
              refine g_e 5 511 [] (by kernel_rfl) rfl (by kernel_rfl) (e_call Try.call31 rfl (F.merge_Rows_ok H)) rfl rfl ?_
              rintro _ h44 ⟨r45, rfl, H⟩
              refine ⟨trivial, ?_⟩
              refine g_e 9 1023 [] (by kernel_rfl) rfl (by kernel_rfl) (e_call Try.call32 rfl (F.spatelaw2_SameRows_ok H)) rfl rfl ?_
              rintro _ h46 ⟨r47, rfl, H⟩
              refine ⟨trivial, ?_⟩
              refine g_p 10 2047 rfl (by kernel_rfl) (y_not rfl) rfl rfl ?_
              refine g_p 11 4095 rfl (by kernel_rfl) (y_move rfl) rfl rfl ?_
              refine g_split (t := 83) rfl (fun g48 => ?_) (fun g48 => ?_)
              · replace H := H.1 g48
                refine g_s 12 8191 rfl (by kernel_rfl) rfl rfl ?_
                refine g_s 13 16383 rfl (by kernel_rfl) rfl rfl ?_
                refine g_s 14 32767 rfl (by kernel_rfl) rfl rfl ?_
                refine g_s 15 65535 rfl (by kernel_rfl) rfl rfl ?_
                refine g_s 16 131071 rfl (by kernel_rfl) rfl rfl ?_
                refine g_s 17 262143 rfl (by kernel_rfl) rfl rfl ?_
                refine g_s 18 524287 rfl (by kernel_rfl) rfl rfl ?_
                refine g_s 19 1048575 rfl (by kernel_rfl) rfl rfl ?_
                refine g_s 20 2097151 rfl (by kernel_rfl) rfl rfl ?_
                refine g_s 21 4194303 rfl (by kernel_rfl) rfl rfl ?_
                refine g_p 22 8388607 rfl (by kernel_rfl) (y_pick_t rfl rfl) rfl rfl ?_
                refine g_p 23 16777215 rfl (by kernel_rfl) (y_move rfl) rfl rfl ?_
                refine g_s 24 33554431 rfl (by kernel_rfl) rfl rfl ?_
                refine g_s 25 67108863 rfl (by kernel_rfl) rfl rfl ?_
                refine g_s 26 134217727 rfl (by kernel_rfl) rfl rfl ?_
                refine g_s 27 268435455 rfl (by kernel_rfl) rfl rfl ?_
                refine g_s 28 536870911 rfl (by kernel_rfl) rfl rfl ?_
                refine g_s 29 1073741823 rfl (by kernel_rfl) rfl rfl ?_
                refine g_s 30 2147483647 rfl (by kernel_rfl) rfl rfl ?_
                refine g_s 31 4294967295 rfl (by kernel_rfl) rfl rfl ?_
                refine g_s 32 8589934591 rfl (by kernel_rfl) rfl rfl ?_
                refine g_s 33 17179869183 rfl (by kernel_rfl) rfl rfl ?_
                refine g_p 34 34359738367 rfl (by kernel_rfl) (y_pick_t rfl rfl) rfl rfl ?_
                refine g_d (by kernel_rfl) ?_
                refine tr_thenN ?_
                exact tr_join [(9, x9.enc), (10, x10.enc), (11, x11.enc), (12, x12.enc), (13, (.bool x13)), (106, (.bool true))] ⟨rfl, rfl, rfl, rfl, rfl, rfl, trivial⟩ ⟨_, _, _, _, _, _, rfl, H⟩
              · replace H := H.2 g48
                refine g_p 12 8191 rfl (by kernel_rfl) (y_move rfl) rfl rfl ?_
                refine g_p 13 16383 rfl (by kernel_rfl) (y_move rfl) rfl rfl ?_
                refine g_p 16 81919 rfl (by kernel_rfl) (y_move rfl) rfl rfl ?_
                refine g_p 19 606207 rfl (by kernel_rfl) (y_move rfl) rfl rfl ?_
                refine g_e 14 622591 [] (by kernel_rfl) rfl (by kernel_rfl) (f_buildL (cs := #[x9.enc, x10.enc]) rfl rfl (bl_53_2_0_1 x9 x10) H) rfl rfl ?_
                rintro _ h49 ⟨s50, rfl, H⟩
                refine ⟨trivial, ?_⟩
                refine g_e 15 655359 [] (by kernel_rfl) rfl (by kernel_rfl) (e_call Try.call31 rfl (F.merge_Rows_ok H)) rfl rfl ?_
                rintro _ h51 ⟨r52, rfl, H⟩
                refine ⟨trivial, ?_⟩
                refine g_e 17 786431 [] (by kernel_rfl) rfl (by kernel_rfl) (f_buildL (cs := #[r52.enc, x11.enc]) rfl rfl (bl_53_2_0_1 r52 x11) H) rfl rfl ?_
                rintro _ h53 ⟨s54, rfl, H⟩
                refine ⟨trivial, ?_⟩
                refine g_e 18 1048575 [] (by kernel_rfl) rfl (by kernel_rfl) (e_call Try.call31 rfl (F.merge_Rows_ok H)) rfl rfl ?_
                rintro _ h55 ⟨r56, rfl, H⟩
                refine ⟨trivial, ?_⟩
                refine g_e 20 2097151 [] (by kernel_rfl) rfl (by kernel_rfl) (e_call Try.call32 rfl (F.spatelaw2_SameRows_ok H)) rfl rfl ?_
                rintro _ h57 ⟨r58, rfl, H⟩
                refine ⟨trivial, ?_⟩
                refine g_p 21 4194303 rfl (by kernel_rfl) (y_not rfl) rfl rfl ?_
                refine g_p 22 8388607 rfl (by kernel_rfl) (y_pick_f rfl rfl) rfl rfl ?_
                refine g_p 23 16777215 rfl (by kernel_rfl) (y_move rfl) rfl rfl ?_
                refine g_split (t := 95) rfl (fun g59 => ?_) (fun g59 => ?_)
                · replace H := H.1 g59
                  refine g_s 24 33554431 rfl (by kernel_rfl) rfl rfl ?_
                  refine g_s 25 67108863 rfl (by kernel_rfl) rfl rfl ?_
                  refine g_s 26 134217727 rfl (by kernel_rfl) rfl rfl ?_
                  refine g_s 27 268435455 rfl (by kernel_rfl) rfl rfl ?_
                  refine g_s 28 536870911 rfl (by kernel_rfl) rfl rfl ?_
                  refine g_s 29 1073741823 rfl (by kernel_rfl) rfl rfl ?_
                  refine g_s 30 2147483647 rfl (by kernel_rfl) rfl rfl ?_
                  refine g_s 31 4294967295 rfl (by kernel_rfl) rfl rfl ?_
                  refine g_s 32 8589934591 rfl (by kernel_rfl) rfl rfl ?_
                  refine g_s 33 17179869183 rfl (by kernel_rfl) rfl rfl ?_
                  refine g_p 34 34359738367 rfl (by kernel_rfl) (y_pick_t rfl rfl) rfl rfl ?_
                  refine g_d (by kernel_rfl) ?_
                  refine tr_thenN ?_
                  exact tr_join [(9, x9.enc), (10, x10.enc), (11, x11.enc), (12, x12.enc), (13, (.bool x13)), (106, (.bool true))] ⟨rfl, rfl, rfl, rfl, rfl, rfl, trivial⟩ ⟨_, _, _, _, _, _, rfl, H⟩
                · replace H := H.2 g59
                  refine g_p 24 33554431 rfl (by kernel_rfl) (y_move rfl) rfl rfl ?_
                  refine g_p 25 67108863 rfl (by kernel_rfl) (y_move rfl) rfl rfl ?_
                  refine g_p 26 134217727 rfl (by kernel_rfl) (y_move rfl) rfl rfl ?_
                  refine g_p 31 2281701375 rfl (by kernel_rfl) (y_move rfl) rfl rfl ?_
                  refine g_e 27 2415919103 [] (by kernel_rfl) rfl (by kernel_rfl) (f_buildL (cs := #[x10.enc, x11.enc]) rfl rfl (bl_53_2_0_1 x10 x11) H) rfl rfl ?_
                  rintro _ h60 ⟨s61, rfl, H⟩
                  refine ⟨trivial, ?_⟩
                  refine g_e 28 2684354559 [] (by kernel_rfl) rfl (by kernel_rfl) (e_call Try.call31 rfl (F.merge_Rows_ok H)) rfl rfl ?_
                  rintro _ h62 ⟨r63, rfl, H⟩
                  refine ⟨trivial, ?_⟩
                  refine g_e 29 3221225471 [] (by kernel_rfl) rfl (by kernel_rfl) (f_buildL (cs := #[x9.enc, r63.enc]) rfl rfl (bl_53_2_0_1 x9 r63) H) rfl rfl ?_
                  rintro _ h64 ⟨s65, rfl, H⟩
                  refine ⟨trivial, ?_⟩
                  refine g_e 30 4294967295 [] (by kernel_rfl) rfl (by kernel_rfl) (e_call Try.call31 rfl (F.merge_Rows_ok H)) rfl rfl ?_
                  rintro _ h66 ⟨r67, rfl, H⟩
                  refine ⟨trivial, ?_⟩
                  refine g_e 32 8589934591 [] (by kernel_rfl) rfl (by kernel_rfl) (e_call Try.call32 rfl (F.spatelaw2_SameRows_ok H)) rfl rfl ?_
                  rintro _ h68 ⟨r69, rfl, H⟩
                  refine ⟨trivial, ?_⟩
                  refine g_p 33 17179869183 rfl (by kernel_rfl) (y_not rfl) rfl rfl ?_
                  refine g_p 34 34359738367 rfl (by kernel_rfl) (y_pick_f rfl rfl) rfl rfl ?_
                  refine g_d (by kernel_rfl) ?_
                  refine tr_thenN ?_
                  exact tr_join [(9, x9.enc), (10, x10.enc), (11, x11.enc), (12, x12.enc), (13, (.bool x13)), (106, (.bool (!r69)))] ⟨rfl, rfl, rfl, rfl, rfl, rfl, trivial⟩ ⟨_, _, _, _, _, _, rfl, H⟩

def F.spatelaw8_once.j2 (Q : Sl → H → Prop) (C1 : Sl → Sl → Int → H → Prop) (x0 : Sl) (x3 : Sl) (x4 : Int) (h : H) : Prop :=
  C1 x0 x3 (IntKind.wrap .i64 (x4 + 1)) h
def F.spatelaw8_once.j3 (Q : Sl → H → Prop) (C1 : Sl → Sl → Int → H → Prop) (x0 : Sl) (x3 : Sl) (x4 : Int) (x24 : Bool) (h : H) : Prop :=
  (x24 = true →
  idxA x0 x4 1 fun a3 =>
  ldI .i64 h a3 fun y5 =>
  newL h #[(.int .i64 y5)] ty_3 1 fun s8 h7 =>
  runL PP (Builtin.append_ #[23, 23] 23 #[x3.enc, s8.enc]) h7 fun s10 h9 =>
  F.spatelaw8_once.j2 Q C1 x0 s10 x4 h9) ∧
  (x24 = false →
  F.spatelaw8_once.j2 Q C1 x0 x3 x4 h)
def F.spatelaw8_once.l1 (Q : Sl → H → Prop) : Nat → Sl → Sl → Int → H → Prop
  | 0, _, _, _, _ => False
  | q1 + 1, x0, x3, x4, h =>
    ((decide (x4 < (x0.len : Int))) = true →
    (((x4 == 0)) = true →
    F.spatelaw8_once.j3 Q (F.spatelaw8_once.l1 Q q1) x0 x3 x4 true h) ∧
    (((x4 == 0)) = false →
    idxA x0 x4 1 fun a12 =>
    ldI .i64 h a12 fun y14 =>
    idxA x0 (IntKind.wrap .i64 (x4 - 1)) 1 fun a16 =>
    ldI .i64 h a16 fun y18 =>
    F.spatelaw8_once.j3 Q (F.spatelaw8_once.l1 Q q1) x0 x3 x4 ((y14 != y18)) h)) ∧
    ((decide (x4 < (x0.len : Int))) = false →
    Q x3 h)
/-- spate/spatelaw8.once -/
def F.spatelaw8_once (p0 : Sl) (h : H) (Q : Sl → H → Prop) : Prop :=
  ∃ m, F.spatelaw8_once.l1 Q m p0 (⟨none, 0, 0⟩ : Sl) 0 h
theorem F.spatelaw8_once_ok {p0 : Sl} {h : H} {Q : Sl → H → Prop} (H : F.spatelaw8_once p0 h Q) : Fn PP 35 ([p0.enc] : List Value).toArray h fun r h' => ∃ r0, r = r0.enc ∧ Q r0 h' := by
  unfold F.spatelaw8_once at H
  refine fn_of Try.func35 Try.ntmps35 rfl rfl fun w0 => ?_
  refine tr_sub [(0, p0.enc)] ⟨rfl, trivial⟩ ?_
  refine tr_seq ?_
  refine tr_region ?_
  refine tr_p (y_assign rfl) rfl rfl ?_
  refine tr_nil ?_
  refine tr_thenN ?_
  refine tr_seq ?_
  refine tr_region ?_
  refine tr_p (y_assign rfl) rfl rfl ?_
  refine tr_nil ?_
  refine tr_thenN ?_
  refine tr_seq ?_
  refine tr_seq ?_
  refine tr_region ?_
  refine tr_p (y_assign rfl) rfl rfl ?_
  refine tr_nil ?_
  refine tr_thenN ?_
  refine tr_block ?_
  obtain ⟨m20, H⟩ := H
  refine tr_sub [(0, p0.enc), (3, (⟨none, 0, 0⟩ : Sl).enc), (4, (.int .i64 0))] ⟨rfl, rfl, rfl, trivial⟩ ?_
  refine tr_loop_j (fun m L' h => ∃ (x0 : Sl) (x3 : Sl) (x4 : Int), L' = [(0, x0.enc), (3, x3.enc), (4, (.int .i64 x4))] ∧ F.spatelaw8_once.l1 Q m x0 x3 x4 h) ?_ ?_ m20 ⟨_, _, _, rfl, H⟩
  · rintro L' h ⟨_, _, _, _, H⟩; exact H
  · rintro q1 L' h ⟨x0, x3, x4, rfl, H⟩
    unfold F.spatelaw8_once.l1 at H
    refine tr_seq ?_
    refine tr_seq ?_
    refine tr_region ?_
    refine tr_p (y_move rfl) rfl rfl ?_
    refine tr_p (y_move rfl) rfl rfl ?_
    refine tr_p (y_len (ts := #[]) Try.runUnderlying23 (o := x0.ptr) (n := x0.len) (cap := x0.cap) rfl) rfl rfl ?_
    refine tr_p (y_lss rfl rfl) rfl rfl ?_
    refine tr_nil ?_
    refine tr_thenN ?_
    refine tr_cond rfl (fun g1 => ?_) (fun g1 => ?_)
    · replace H := H.1 g1
      refine tr_skip ?_
      refine tr_thenN ?_
      refine tr_seq_j (fun L' h => ∃ (x0 : Sl) (x3 : Sl) (x4 : Int), L' = [(0, x0.enc), (3, x3.enc), (4, (.int .i64 x4))] ∧ F.spatelaw8_once.j2 Q (F.spatelaw8_once.l1 Q q1) x0 x3 x4 h) ?_ ?_
      · rintro L' h ⟨x0, x3, x4, rfl, H⟩
        unfold F.spatelaw8_once.j2 at H
        refine tr_region ?_
        refine tr_p (y_move rfl) rfl rfl ?_
        refine tr_p (y_add rfl rfl) rfl rfl ?_
        refine tr_p (y_assign rfl) rfl rfl ?_
        refine tr_nil ?_
        refine tr_thenN ?_
        exact tr_join [(0, x0.enc), (3, x3.enc), (4, (.int .i64 (IntKind.wrap .i64 (x4 + 1))))] ⟨rfl, rfl, rfl, trivial⟩ ⟨_, _, _, rfl, H⟩
      · refine tr_block ?_
        refine tr_seq_j (fun L' h => ∃ (x0 : Sl) (x3 : Sl) (x4 : Int) (x24 : Bool), L' = [(0, x0.enc), (3, x3.enc), (4, (.int .i64 x4)), (24, (.bool x24))] ∧ F.spatelaw8_once.j3 Q (F.spatelaw8_once.l1 Q q1) x0 x3 x4 x24 h) ?_ ?_
        · rintro L' h ⟨x0, x3, x4, x24, rfl, H⟩
          unfold F.spatelaw8_once.j3 at H
          refine tr_cond rfl (fun g2 => ?_) (fun g2 => ?_)
          · replace H := H.1 g2
            refine tr_region ?_
            refine tr_p (y_move rfl) rfl rfl ?_
            refine tr_p (y_move rfl) rfl rfl ?_
            refine tr_p (y_move rfl) rfl rfl ?_
            obtain ⟨a3, e4, H⟩ := H
            refine tr_p (f_idx (s := x0) Try.runUnderlying23 Try.sizeOf3 rfl rfl e4) rfl rfl ?_
            obtain ⟨y5, k6, H⟩ := H
            refine tr_h (y_ld Try.isAgg3 rfl) k6 rfl rfl ?_
            refine tr_e (f_buildL (cs := #[(.int .i64 y5)]) rfl rfl (bl_23_1_0 y5) H) rfl rfl ?_
            rintro _ h7 ⟨s8, rfl, H⟩
            refine tr_e (f_app rfl H) rfl rfl ?_
            rintro _ h9 ⟨s10, rfl, H⟩
            refine tr_p (y_assign rfl) rfl rfl ?_
            refine tr_nil ?_
            refine tr_blockN ?_
            refine tr_thenN ?_
            exact tr_join [(0, x0.enc), (3, s10.enc), (4, (.int .i64 x4))] ⟨rfl, rfl, rfl, trivial⟩ ⟨_, _, _, rfl, H⟩
          · replace H := H.2 g2
            refine tr_skip ?_
            refine tr_blockN ?_
            refine tr_thenN ?_
            exact tr_join [(0, x0.enc), (3, x3.enc), (4, (.int .i64 x4))] ⟨rfl, rfl, rfl, trivial⟩ ⟨_, _, _, rfl, H⟩
        · refine tr_draw mixed [0, 1, 3, 7, 7, 31, 63, 7, 7, 263, 903, 1927, 4095, 8191] (by kernel_rfl) ?_
          refine g_p 0 1 rfl (by kernel_rfl) (y_move rfl) rfl rfl ?_
          refine g_p 1 3 rfl (by kernel_rfl) (y_eql rfl rfl) rfl rfl ?_
          refine g_p 2 7 rfl (by kernel_rfl) (y_move rfl) rfl rfl ?_
          refine g_split (t := 13) rfl (fun g11 => ?_) (fun g11 => ?_)
          · replace H := H.1 g11
            refine g_s 3 15 rfl (by kernel_rfl) rfl rfl ?_
            refine g_s 4 31 rfl (by kernel_rfl) rfl rfl ?_
            refine g_s 5 63 rfl (by kernel_rfl) rfl rfl ?_
            refine g_s 6 127 rfl (by kernel_rfl) rfl rfl ?_
            refine g_s 7 255 rfl (by kernel_rfl) rfl rfl ?_
            refine g_s 8 511 rfl (by kernel_rfl) rfl rfl ?_
            refine g_s 9 1023 rfl (by kernel_rfl) rfl rfl ?_
            refine g_s 10 2047 rfl (by kernel_rfl) rfl rfl ?_
            refine g_s 11 4095 rfl (by kernel_rfl) rfl rfl ?_
            refine g_s 12 8191 rfl (by kernel_rfl) rfl rfl ?_
            refine g_p 13 16383 rfl (by kernel_rfl) (y_pick_t rfl rfl) rfl rfl ?_
            refine g_d (by kernel_rfl) ?_
            refine tr_thenN ?_
            exact tr_join [(0, x0.enc), (3, x3.enc), (4, (.int .i64 x4)), (24, (.bool true))] ⟨rfl, rfl, rfl, rfl, trivial⟩ ⟨_, _, _, _, rfl, H⟩
          · replace H := H.2 g11
            refine g_p 3 15 rfl (by kernel_rfl) (y_move rfl) rfl rfl ?_
            refine g_p 4 31 rfl (by kernel_rfl) (y_move rfl) rfl rfl ?_
            obtain ⟨a12, e13, H⟩ := H
            refine g_p 5 63 rfl (by kernel_rfl) (f_idx (s := x0) Try.runUnderlying23 Try.sizeOf3 rfl rfl e13) rfl rfl ?_
            obtain ⟨y14, k15, H⟩ := H
            refine g_h 6 127 rfl (by kernel_rfl) (y_ld Try.isAgg3 rfl) k15 rfl rfl ?_
            refine g_p 7 255 rfl (by kernel_rfl) (y_move rfl) rfl rfl ?_
            refine g_p 8 511 rfl (by kernel_rfl) (y_move rfl) rfl rfl ?_
            refine g_p 9 1023 rfl (by kernel_rfl) (y_sub rfl rfl) rfl rfl ?_
            obtain ⟨a16, e17, H⟩ := H
            refine g_p 10 2047 rfl (by kernel_rfl) (f_idx (s := x0) Try.runUnderlying23 Try.sizeOf3 rfl rfl e17) rfl rfl ?_
            obtain ⟨y18, k19, H⟩ := H
            refine g_h 11 4095 rfl (by kernel_rfl) (y_ld Try.isAgg3 rfl) k19 rfl rfl ?_
            refine g_p 12 8191 rfl (by kernel_rfl) (y_neq rfl rfl) rfl rfl ?_
            refine g_p 13 16383 rfl (by kernel_rfl) (y_pick_f rfl rfl) rfl rfl ?_
            refine g_d (by kernel_rfl) ?_
            refine tr_thenN ?_
            exact tr_join [(0, x0.enc), (3, x3.enc), (4, (.int .i64 x4)), (24, (.bool ((y14 != y18))))] ⟨rfl, rfl, rfl, rfl, trivial⟩ ⟨_, _, _, _, rfl, H⟩
    · replace H := H.2 g1
      refine tr_exit ?_
      refine tr_thenE ?_
      refine tr_thenE ?_
      refine tr_hit ?_
      refine tr_thenN ?_
      refine tr_seq ?_
      refine tr_region ?_
      refine tr_p (y_move rfl) rfl rfl ?_
      refine tr_p (y_assign rfl) rfl rfl ?_
      refine tr_nil ?_
      refine tr_thenN ?_
      refine tr_ret ?_
      exact tr_ret1 rfl rfl ⟨_, rfl, H⟩

def F.spatelaw8_MergeOwn.l4 (Q : Bool → H → Prop) : Nat → Sl → Sl → Sl → Sl → Sl → Sl → Sl → Sl → Sl → Int → H → Prop
  | 0, _, _, _, _, _, _, _, _, _, _, _ => False
  | q4 + 1, x9, x11, x13, x14, x16, x17, x18, x19, x20, x24, h =>
    ((decide (x24 < (x17.len : Int))) = true →
    idxA x17 x24 1 fun a67 =>
    stH h a67 [(.int .i64 (-8))] fun h69 =>
    (F.spatelaw8_MergeOwn.l4 Q q4) x9 x11 x13 x14 x16 x17 x18 x19 x20 (IntKind.wrap .i64 (x24 + 1)) h69) ∧
    ((decide (x24 < (x17.len : Int))) = false →
    ((decide ((x13.len : Int) ≥ 2)) = true →
    ((decide ((x16.len : Int) ≥ 3)) = true →
    F.spatelaw2_SameRows x14 x18 h fun r73 h72 =>
    (r73 = true →
    F.spatelaw2_SameRows x9 x19 h72 fun r76 h75 =>
    (r76 = true →
    F.spatelaw8_same x11 x20 h75 fun r79 h78 =>
    Q r79 h78) ∧
    (r76 = false →
    Q false h75)) ∧
    (r73 = false →
    Q false h72)) ∧
    ((decide ((x16.len : Int) ≥ 3)) = false →
    Q false h)) ∧
    ((decide ((x13.len : Int) ≥ 2)) = false →
    Q false h))
def F.spatelaw8_MergeOwn.l3 (Q : Bool → H → Prop) : Nat → Sl → Sl → Sl → Sl → Sl → Sl → Sl → Sl → Sl → Int → H → Prop
  | 0, _, _, _, _, _, _, _, _, _, _, _ => False
  | q3 + 1, x9, x11, x13, x14, x16, x17, x18, x19, x20, x23, h =>
    ((decide (x23 < (x16.len : Int))) = true →
    idxA x16 x23 1 fun a59 =>
    stH h a59 [(.int .i64 (-7))] fun h61 =>
    (F.spatelaw8_MergeOwn.l3 Q q3) x9 x11 x13 x14 x16 x17 x18 x19 x20 (IntKind.wrap .i64 (x23 + 1)) h61) ∧
    ((decide (x23 < (x16.len : Int))) = false →
    newL h #[(.int .i64 1), (.int .i64 2), (.int .i64 3)] ty_3 3 fun s63 h62 =>
    runL PP (Builtin.append_ #[23, 23] 23 #[x16.enc, s63.enc]) h62 fun s65 h64 =>
    ∃ m, F.spatelaw8_MergeOwn.l4 Q m x9 x11 x13 x14 s65 x17 x18 x19 x20 0 h64)
def F.spatelaw8_MergeOwn.l2 (Q : Bool → H → Prop) : Nat → Sl → Sl → Sl → Sl → Sl → Sl → Sl → Sl → Sl → Sl → Int → H → Prop
  | 0, _, _, _, _, _, _, _, _, _, _, _, _ => False
  | q2 + 1, x9, x11, x13, x14, x15, x16, x17, x18, x19, x20, x22, h =>
    ((decide (x22 < (x15.len : Int))) = true →
    idxA x15 x22 7 fun a51 =>
    stH h a51 ((⟨(⟨0, (⟨#[121]⟩ : ByteArray), 0⟩ : S_api_Cell), (⟨0, 0, 0, 0⟩ : S_api_Agg)⟩ : S_api_Row).cells) fun h53 =>
    (F.spatelaw8_MergeOwn.l2 Q q2) x9 x11 x13 x14 x15 x16 x17 x18 x19 x20 (IntKind.wrap .i64 (x22 + 1)) h53) ∧
    ((decide (x22 < (x15.len : Int))) = false →
    newL h (((⟨(⟨0, (⟨#[]⟩ : ByteArray), 0⟩ : S_api_Cell), (⟨0, 0, 0, 0⟩ : S_api_Agg)⟩ : S_api_Row).cells ++ (⟨(⟨0, (⟨#[]⟩ : ByteArray), 0⟩ : S_api_Cell), (⟨0, 0, 0, 0⟩ : S_api_Agg)⟩ : S_api_Row).cells).toArray) ty_66 2 fun s55 h54 =>
    runL PP (Builtin.append_ #[51, 51] 51 #[x13.enc, s55.enc]) h54 fun s57 h56 =>
    ∃ m, F.spatelaw8_MergeOwn.l3 Q m x9 x11 s57 x14 x16 x17 x18 x19 x20 0 h56)
def F.spatelaw8_MergeOwn.l1 (Q : Bool → H → Prop) : Nat → Sl → Sl → Sl → Sl → Sl → Sl → Sl → Sl → Sl → Sl → Int → H → Prop
  | 0, _, _, _, _, _, _, _, _, _, _, _, _ => False
  | q1 + 1, x9, x11, x13, x14, x15, x16, x17, x18, x19, x20, x21, h =>
    ((decide (x21 < (x13.len : Int))) = true →
    idxA x13 x21 7 fun a47 =>
    stH h a47 ((⟨(⟨0, (⟨#[122]⟩ : ByteArray), 0⟩ : S_api_Cell), (⟨0, 0, 0, 0⟩ : S_api_Agg)⟩ : S_api_Row).cells) fun h49 =>
    (F.spatelaw8_MergeOwn.l1 Q q1) x9 x11 x13 x14 x15 x16 x17 x18 x19 x20 (IntKind.wrap .i64 (x21 + 1)) h49) ∧
    ((decide (x21 < (x13.len : Int))) = false →
    ∃ m, F.spatelaw8_MergeOwn.l2 Q m x9 x11 x13 x14 x15 x16 x17 x18 x19 x20 0 h)
/-- spate/spatelaw8.MergeOwn -/
def F.spatelaw8_MergeOwn (p0 : Sl) (p1 : Sl) (p2 : Sl) (p3 : Sl) (h : H) (Q : Bool → H → Prop) : Prop :=
  F.spatelaw8_known  h fun r2 h1 =>
  ((!r2) = true →
  Q false h1) ∧
  ((!r2) = false →
  F.spatelaw8_ordered p0 h1 fun r5 h4 =>
  F.spatelaw8_ordered p1 h4 fun r7 h6 =>
  F.spatelaw8_rising p2 h6 fun r9 h8 =>
  F.spatelaw8_rising p3 h8 fun r11 h10 =>
  newL h10 #[r5.enc, r7.enc] ty_51 2 fun s13 h12 =>
  F.merge_Rows 1000 s13 h12 fun r15 h14 =>
  newL h14 #[r5.enc, r7.enc] ty_51 2 fun s17 h16 =>
  F.merge_Rows 1000 s17 h16 fun r19 h18 =>
  newL h18 #[r5.enc] ty_51 1 fun s21 h20 =>
  F.merge_Rows 1000 s21 h20 fun r23 h22 =>
  newL h22 #[r9.enc, r11.enc] ty_23 2 fun s25 h24 =>
  F.merge_Lists_int s25 h24 fun r27 h26 =>
  F.spatelaw8_once r9 h26 fun r29 h28 =>
  newL h28 #[r29.enc] ty_23 1 fun s31 h30 =>
  F.merge_Lists_int s31 h30 fun r33 h32 =>
  newL h32 (([]).toArray) ty_66 0 fun s35 h34 =>
  runL PP (Builtin.append_ #[51, 51] 51 #[s35.enc, r19.enc]) h34 fun s37 h36 =>
  newL h36 (([]).toArray) ty_66 0 fun s39 h38 =>
  runL PP (Builtin.append_ #[51, 51] 51 #[s39.enc, r5.enc]) h38 fun s41 h40 =>
  newL h40 #[] ty_3 0 fun s43 h42 =>
  runL PP (Builtin.append_ #[23, 23] 23 #[s43.enc, r9.enc]) h42 fun s45 h44 =>
  ∃ m, F.spatelaw8_MergeOwn.l1 Q m r5 r9 r15 r19 r23 r27 r33 s37 s41 s45 0 h44)
theorem F.spatelaw8_MergeOwn_ok {p0 : Sl} {p1 : Sl} {p2 : Sl} {p3 : Sl} {h : H} {Q : Bool → H → Prop} (H : F.spatelaw8_MergeOwn p0 p1 p2 p3 h Q) : Fn PP 11 ([p0.enc, p1.enc, p2.enc, p3.enc] : List Value).toArray h fun r h' => ∃ r0, r = (.bool r0) ∧ Q r0 h' := by
  unfold F.spatelaw8_MergeOwn at H
  refine fn_of Try.func11 Try.ntmps11 rfl rfl fun w0 => ?_
  refine tr_sub [(0, p0.enc), (1, p1.enc), (2, p2.enc), (3, p3.enc)] ⟨rfl, rfl, rfl, rfl, trivial⟩ ?_
  refine tr_seq ?_
  refine tr_region ?_
  refine tr_p (y_assign rfl) rfl rfl ?_
  refine tr_nil ?_
  refine tr_thenN ?_
  refine tr_seq ?_
  refine tr_seq ?_
  refine tr_region ?_
  refine tr_e (e_call Try.call15 rfl (F.spatelaw8_known_ok H)) rfl rfl ?_
  rintro _ h1 ⟨r2, rfl, H⟩
  refine tr_p (y_not rfl) rfl rfl ?_
  refine tr_nil ?_
  refine tr_thenN ?_
  refine tr_cond rfl (fun g3 => ?_) (fun g3 => ?_)
  · replace H := H.1 g3
    refine tr_seq ?_
    refine tr_region ?_
    refine tr_p (y_assign rfl) rfl rfl ?_
    refine tr_nil ?_
    refine tr_thenN ?_
    refine tr_ret ?_
    refine tr_thenR ?_
    exact tr_ret1 rfl rfl ⟨_, rfl, H⟩
  · replace H := H.2 g3
    refine tr_skip ?_
    refine tr_thenN ?_
    refine tr_seq ?_
    refine tr_region ?_
    refine tr_p (y_move rfl) rfl rfl ?_
    refine tr_e (e_call Try.call29 rfl (F.spatelaw8_ordered_ok H)) rfl rfl ?_
    rintro _ h4 ⟨r5, rfl, H⟩
    refine tr_p (y_assign rfl) rfl rfl ?_
    refine tr_nil ?_
    refine tr_thenN ?_
    refine tr_seq ?_
    refine tr_region ?_
    refine tr_p (y_move rfl) rfl rfl ?_
    refine tr_e (e_call Try.call29 rfl (F.spatelaw8_ordered_ok H)) rfl rfl ?_
    rintro _ h6 ⟨r7, rfl, H⟩
    refine tr_p (y_assign rfl) rfl rfl ?_
    refine tr_nil ?_
    refine tr_thenN ?_
    refine tr_seq ?_
    refine tr_region ?_
    refine tr_p (y_move rfl) rfl rfl ?_
    refine tr_e (e_call Try.call16 rfl (F.spatelaw8_rising_ok H)) rfl rfl ?_
    rintro _ h8 ⟨r9, rfl, H⟩
    refine tr_p (y_assign rfl) rfl rfl ?_
    refine tr_nil ?_
    refine tr_thenN ?_
    refine tr_seq ?_
    refine tr_region ?_
    refine tr_p (y_move rfl) rfl rfl ?_
    refine tr_e (e_call Try.call16 rfl (F.spatelaw8_rising_ok H)) rfl rfl ?_
    rintro _ h10 ⟨r11, rfl, H⟩
    refine tr_p (y_assign rfl) rfl rfl ?_
    refine tr_nil ?_
    refine tr_thenN ?_
    refine tr_seq ?_
    refine tr_region ?_
    refine tr_p (y_move rfl) rfl rfl ?_
    refine tr_p (y_move rfl) rfl rfl ?_
    refine tr_e (f_buildL (cs := #[r5.enc, r7.enc]) rfl rfl (bl_53_2_0_1 r5 r7) H) rfl rfl ?_
    rintro _ h12 ⟨s13, rfl, H⟩
    refine tr_e (e_call Try.call31 rfl (F.merge_Rows_ok H)) rfl rfl ?_
    rintro _ h14 ⟨r15, rfl, H⟩
    refine tr_p (y_assign rfl) rfl rfl ?_
    refine tr_nil ?_
    refine tr_thenN ?_
    refine tr_seq ?_
    refine tr_region ?_
    refine tr_p (y_move rfl) rfl rfl ?_
    refine tr_p (y_move rfl) rfl rfl ?_
    refine tr_e (f_buildL (cs := #[r5.enc, r7.enc]) rfl rfl (bl_53_2_0_1 r5 r7) H) rfl rfl ?_
    rintro _ h16 ⟨s17, rfl, H⟩
    refine tr_e (e_call Try.call31 rfl (F.merge_Rows_ok H)) rfl rfl ?_
    rintro _ h18 ⟨r19, rfl, H⟩
    refine tr_p (y_assign rfl) rfl rfl ?_
    refine tr_nil ?_
    refine tr_thenN ?_
    refine tr_seq ?_
    refine tr_region ?_
    refine tr_p (y_move rfl) rfl rfl ?_
    refine tr_e (f_buildL (cs := #[r5.enc]) rfl rfl (bl_53_1_0 r5) H) rfl rfl ?_
    rintro _ h20 ⟨s21, rfl, H⟩
    refine tr_e (e_call Try.call31 rfl (F.merge_Rows_ok H)) rfl rfl ?_
    rintro _ h22 ⟨r23, rfl, H⟩
    refine tr_p (y_assign rfl) rfl rfl ?_
    refine tr_nil ?_
    refine tr_thenN ?_
    refine tr_seq ?_
    refine tr_region ?_
    refine tr_p (y_move rfl) rfl rfl ?_
    refine tr_p (y_move rfl) rfl rfl ?_
    refine tr_e (f_buildL (cs := #[r9.enc, r11.enc]) rfl rfl (bl_25_2_0_1 r9 r11) H) rfl rfl ?_
    rintro _ h24 ⟨s25, rfl, H⟩
    refine tr_e (e_call Try.call18 rfl (F.merge_Lists_int_ok H)) rfl rfl ?_
    rintro _ h26 ⟨r27, rfl, H⟩
    refine tr_p (y_assign rfl) rfl rfl ?_
    refine tr_nil ?_
    refine tr_thenN ?_
    refine tr_seq ?_
    refine tr_region ?_
    refine tr_p (y_move rfl) rfl rfl ?_
    refine tr_e (e_call Try.call35 rfl (F.spatelaw8_once_ok H)) rfl rfl ?_
    rintro _ h28 ⟨r29, rfl, H⟩
    refine tr_e (f_buildL (cs := #[r29.enc]) rfl rfl (bl_25_1_0 r29) H) rfl rfl ?_
    rintro _ h30 ⟨s31, rfl, H⟩
    refine tr_e (e_call Try.call18 rfl (F.merge_Lists_int_ok H)) rfl rfl ?_
    rintro _ h32 ⟨r33, rfl, H⟩
    refine tr_p (y_assign rfl) rfl rfl ?_
    refine tr_nil ?_
    refine tr_thenN ?_
    refine tr_seq ?_
    refine tr_region ?_
    refine tr_e (f_buildL (cs := ([]).toArray) rfl rfl (bl_51_0_) H) rfl rfl ?_
    rintro _ h34 ⟨s35, rfl, H⟩
    refine tr_p (y_move rfl) rfl rfl ?_
    refine tr_e (f_app rfl H) rfl rfl ?_
    rintro _ h36 ⟨s37, rfl, H⟩
    refine tr_p (y_assign rfl) rfl rfl ?_
    refine tr_nil ?_
    refine tr_thenN ?_
    refine tr_seq ?_
    refine tr_region ?_
    refine tr_e (f_buildL (cs := ([]).toArray) rfl rfl (bl_51_0_) H) rfl rfl ?_
    rintro _ h38 ⟨s39, rfl, H⟩
    refine tr_p (y_move rfl) rfl rfl ?_
    refine tr_e (f_app rfl H) rfl rfl ?_
    rintro _ h40 ⟨s41, rfl, H⟩
    refine tr_p (y_assign rfl) rfl rfl ?_
    refine tr_nil ?_
    refine tr_thenN ?_
    refine tr_seq ?_
    refine tr_region ?_
    refine tr_e (f_buildL (cs := #[]) rfl rfl (bl_23_0_) H) rfl rfl ?_
    rintro _ h42 ⟨s43, rfl, H⟩
    refine tr_p (y_move rfl) rfl rfl ?_
    refine tr_e (f_app rfl H) rfl rfl ?_
    rintro _ h44 ⟨s45, rfl, H⟩
    refine tr_p (y_assign rfl) rfl rfl ?_
    refine tr_nil ?_
    refine tr_thenN ?_
    refine tr_seq ?_
    refine tr_seq ?_
    refine tr_region ?_
    refine tr_p (y_assign rfl) rfl rfl ?_
    refine tr_nil ?_
    refine tr_thenN ?_
    refine tr_block ?_
    obtain ⟨m83, H⟩ := H
    refine tr_sub [(9, r5.enc), (11, r9.enc), (13, r15.enc), (14, r19.enc), (15, r23.enc), (16, r27.enc), (17, r33.enc), (18, s37.enc), (19, s41.enc), (20, s45.enc), (21, (.int .i64 0))] ⟨rfl, rfl, rfl, rfl, rfl, rfl, rfl, rfl, rfl, rfl, rfl, trivial⟩ ?_
    refine tr_loop_j (fun m L' h => ∃ (x9 : Sl) (x11 : Sl) (x13 : Sl) (x14 : Sl) (x15 : Sl) (x16 : Sl) (x17 : Sl) (x18 : Sl) (x19 : Sl) (x20 : Sl) (x21 : Int), L' = [(9, x9.enc), (11, x11.enc), (13, x13.enc), (14, x14.enc), (15, x15.enc), (16, x16.enc), (17, x17.enc), (18, x18.enc), (19, x19.enc), (20, x20.enc), (21, (.int .i64 x21))] ∧ F.spatelaw8_MergeOwn.l1 Q m x9 x11 x13 x14 x15 x16 x17 x18 x19 x20 x21 h) ?_ ?_ m83 ⟨_, _, _, _, _, _, _, _, _, _, _, rfl, H⟩
    · rintro L' h ⟨_, _, _, _, _, _, _, _, _, _, _, _, H⟩; exact H
    · rintro q1 L' h ⟨x9, x11, x13, x14, x15, x16, x17, x18, x19, x20, x21, rfl, H⟩
      unfold F.spatelaw8_MergeOwn.l1 at H
      refine tr_seq ?_
      refine tr_seq ?_
      refine tr_region ?_
      refine tr_p (y_move rfl) rfl rfl ?_
      refine tr_p (y_move rfl) rfl rfl ?_
      refine tr_p (y_len (ts := #[]) Try.runUnderlying51 (o := x13.ptr) (n := x13.len) (cap := x13.cap) rfl) rfl rfl ?_
      refine tr_p (y_lss rfl rfl) rfl rfl ?_
      refine tr_nil ?_
      refine tr_thenN ?_
      refine tr_cond rfl (fun g46 => ?_) (fun g46 => ?_)
      · replace H := H.1 g46
        refine tr_skip ?_
        refine tr_thenN ?_
        refine tr_seq ?_
        refine tr_block ?_
        refine tr_region ?_
        refine tr_p (y_move rfl) rfl rfl ?_
        refine tr_p (y_move rfl) rfl rfl ?_
        refine tr_p (f_build rfl (bd_34_1 (⟨#[122]⟩ : ByteArray))) rfl rfl ?_
        refine tr_p (f_build rfl (bd_66_0 (⟨0, (⟨#[122]⟩ : ByteArray), 0⟩ : S_api_Cell))) rfl rfl ?_
        obtain ⟨a47, e48, H⟩ := H
        refine tr_p (f_idx (s := x13) Try.runUnderlying51 Try.sizeOf66 rfl rfl e48) rfl rfl ?_
        refine tr_e (f_store (vs := (⟨(⟨0, (⟨#[122]⟩ : ByteArray), 0⟩ : S_api_Cell), (⟨0, 0, 0, 0⟩ : S_api_Agg)⟩ : S_api_Row).cells) Try.sizeOf66 rfl rfl cellsOfStruct rfl (by intro v hv; exact ones_S_api_Row _ v hv) H) rfl rfl ?_
        rintro _ h49 ⟨rfl, H⟩
        refine tr_nil ?_
        refine tr_blockN ?_
        refine tr_thenN ?_
        refine tr_region ?_
        refine tr_p (y_move rfl) rfl rfl ?_
        refine tr_p (y_add rfl rfl) rfl rfl ?_
        refine tr_p (y_assign rfl) rfl rfl ?_
        refine tr_nil ?_
        refine tr_thenN ?_
        exact tr_join [(9, x9.enc), (11, x11.enc), (13, x13.enc), (14, x14.enc), (15, x15.enc), (16, x16.enc), (17, x17.enc), (18, x18.enc), (19, x19.enc), (20, x20.enc), (21, (.int .i64 (IntKind.wrap .i64 (x21 + 1))))] ⟨rfl, rfl, rfl, rfl, rfl, rfl, rfl, rfl, rfl, rfl, rfl, trivial⟩ ⟨_, _, _, _, _, _, _, _, _, _, _, rfl, H⟩
      · replace H := H.2 g46
        refine tr_exit ?_
        refine tr_thenE ?_
        refine tr_thenE ?_
        refine tr_hit ?_
        refine tr_thenN ?_
        refine tr_seq ?_
        refine tr_seq ?_
        refine tr_region ?_
        refine tr_p (y_assign rfl) rfl rfl ?_
        refine tr_nil ?_
        refine tr_thenN ?_
        refine tr_block ?_
        obtain ⟨m82, H⟩ := H
        refine tr_sub [(9, x9.enc), (11, x11.enc), (13, x13.enc), (14, x14.enc), (15, x15.enc), (16, x16.enc), (17, x17.enc), (18, x18.enc), (19, x19.enc), (20, x20.enc), (22, (.int .i64 0))] ⟨rfl, rfl, rfl, rfl, rfl, rfl, rfl, rfl, rfl, rfl, rfl, trivial⟩ ?_
        refine tr_loop_j (fun m L' h => ∃ (x9 : Sl) (x11 : Sl) (x13 : Sl) (x14 : Sl) (x15 : Sl) (x16 : Sl) (x17 : Sl) (x18 : Sl) (x19 : Sl) (x20 : Sl) (x22 : Int), L' = [(9, x9.enc), (11, x11.enc), (13, x13.enc), (14, x14.enc), (15, x15.enc), (16, x16.enc), (17, x17.enc), (18, x18.enc), (19, x19.enc), (20, x20.enc), (22, (.int .i64 x22))] ∧ F.spatelaw8_MergeOwn.l2 Q m x9 x11 x13 x14 x15 x16 x17 x18 x19 x20 x22 h) ?_ ?_ m82 ⟨_, _, _, _, _, _, _, _, _, _, _, rfl, H⟩
        · rintro L' h ⟨_, _, _, _, _, _, _, _, _, _, _, _, H⟩; exact H
        · rintro q2 L' h ⟨x9, x11, x13, x14, x15, x16, x17, x18, x19, x20, x22, rfl, H⟩
          unfold F.spatelaw8_MergeOwn.l2 at H
          refine tr_seq ?_
          refine tr_seq ?_
          refine tr_region ?_
          refine tr_p (y_move rfl) rfl rfl ?_
          refine tr_p (y_move rfl) rfl rfl ?_
          refine tr_p (y_len (ts := #[]) Try.runUnderlying51 (o := x15.ptr) (n := x15.len) (cap := x15.cap) rfl) rfl rfl ?_
          refine tr_p (y_lss rfl rfl) rfl rfl ?_
          refine tr_nil ?_
          refine tr_thenN ?_
          refine tr_cond rfl (fun g50 => ?_) (fun g50 => ?_)
          · replace H := H.1 g50
            refine tr_skip ?_
            refine tr_thenN ?_
            refine tr_seq ?_
            refine tr_block ?_
            refine tr_region ?_
            refine tr_p (y_move rfl) rfl rfl ?_
            refine tr_p (y_move rfl) rfl rfl ?_
            refine tr_p (f_build rfl (bd_34_1 (⟨#[121]⟩ : ByteArray))) rfl rfl ?_
            refine tr_p (f_build rfl (bd_66_0 (⟨0, (⟨#[121]⟩ : ByteArray), 0⟩ : S_api_Cell))) rfl rfl ?_
            obtain ⟨a51, e52, H⟩ := H
            refine tr_p (f_idx (s := x15) Try.runUnderlying51 Try.sizeOf66 rfl rfl e52) rfl rfl ?_
            refine tr_e (f_store (vs := (⟨(⟨0, (⟨#[121]⟩ : ByteArray), 0⟩ : S_api_Cell), (⟨0, 0, 0, 0⟩ : S_api_Agg)⟩ : S_api_Row).cells) Try.sizeOf66 rfl rfl cellsOfStruct rfl (by intro v hv; exact ones_S_api_Row _ v hv) H) rfl rfl ?_
            rintro _ h53 ⟨rfl, H⟩
            refine tr_nil ?_
            refine tr_blockN ?_
            refine tr_thenN ?_
            refine tr_region ?_
            refine tr_p (y_move rfl) rfl rfl ?_
            refine tr_p (y_add rfl rfl) rfl rfl ?_
            refine tr_p (y_assign rfl) rfl rfl ?_
            refine tr_nil ?_
            refine tr_thenN ?_
            exact tr_join [(9, x9.enc), (11, x11.enc), (13, x13.enc), (14, x14.enc), (15, x15.enc), (16, x16.enc), (17, x17.enc), (18, x18.enc), (19, x19.enc), (20, x20.enc), (22, (.int .i64 (IntKind.wrap .i64 (x22 + 1))))] ⟨rfl, rfl, rfl, rfl, rfl, rfl, rfl, rfl, rfl, rfl, rfl, trivial⟩ ⟨_, _, _, _, _, _, _, _, _, _, _, rfl, H⟩
          · replace H := H.2 g50
            refine tr_exit ?_
            refine tr_thenE ?_
            refine tr_thenE ?_
            refine tr_hit ?_
            refine tr_thenN ?_
            refine tr_seq ?_
            refine tr_region ?_
            refine tr_p (y_move rfl) rfl rfl ?_
            refine tr_p (f_build rfl (bd_66_ )) rfl rfl ?_
            refine tr_p (f_build rfl (bd_66_ )) rfl rfl ?_
            refine tr_e (f_buildL (cs := ((⟨(⟨0, (⟨#[]⟩ : ByteArray), 0⟩ : S_api_Cell), (⟨0, 0, 0, 0⟩ : S_api_Agg)⟩ : S_api_Row).cells ++ (⟨(⟨0, (⟨#[]⟩ : ByteArray), 0⟩ : S_api_Cell), (⟨0, 0, 0, 0⟩ : S_api_Agg)⟩ : S_api_Row).cells).toArray) rfl rfl (bl_51_2_0_1 (⟨(⟨0, (⟨#[]⟩ : ByteArray), 0⟩ : S_api_Cell), (⟨0, 0, 0, 0⟩ : S_api_Agg)⟩ : S_api_Row) (⟨(⟨0, (⟨#[]⟩ : ByteArray), 0⟩ : S_api_Cell), (⟨0, 0, 0, 0⟩ : S_api_Agg)⟩ : S_api_Row)) H) rfl rfl ?_
            rintro _ h54 ⟨s55, rfl, H⟩
            refine tr_e (f_app rfl H) rfl rfl ?_
            rintro _ h56 ⟨s57, rfl, H⟩
            refine tr_p (y_assign rfl) rfl rfl ?_
            refine tr_nil ?_
            refine tr_thenN ?_
            refine tr_seq ?_
            refine tr_seq ?_
            refine tr_region ?_
            refine tr_p (y_assign rfl) rfl rfl ?_
            refine tr_nil ?_
            refine tr_thenN ?_
            refine tr_block ?_
            obtain ⟨m81, H⟩ := H
            refine tr_sub [(9, x9.enc), (11, x11.enc), (13, s57.enc), (14, x14.enc), (16, x16.enc), (17, x17.enc), (18, x18.enc), (19, x19.enc), (20, x20.enc), (23, (.int .i64 0))] ⟨rfl, rfl, rfl, rfl, rfl, rfl, rfl, rfl, rfl, rfl, trivial⟩ ?_
            refine tr_loop_j (fun m L' h => ∃ (x9 : Sl) (x11 : Sl) (x13 : Sl) (x14 : Sl) (x16 : Sl) (x17 : Sl) (x18 : Sl) (x19 : Sl) (x20 : Sl) (x23 : Int), L' = [(9, x9.enc), (11, x11.enc), (13, x13.enc), (14, x14.enc), (16, x16.enc), (17, x17.enc), (18, x18.enc), (19, x19.enc), (20, x20.enc), (23, (.int .i64 x23))] ∧ F.spatelaw8_MergeOwn.l3 Q m x9 x11 x13 x14 x16 x17 x18 x19 x20 x23 h) ?_ ?_ m81 ⟨_, _, _, _, _, _, _, _, _, _, rfl, H⟩
            · rintro L' h ⟨_, _, _, _, _, _, _, _, _, _, _, H⟩; exact H
            · rintro q3 L' h ⟨x9, x11, x13, x14, x16, x17, x18, x19, x20, x23, rfl, H⟩
              unfold F.spatelaw8_MergeOwn.l3 at H
              refine tr_seq ?_
              refine tr_seq ?_
              refine tr_region ?_
              refine tr_p (y_move rfl) rfl rfl ?_
              refine tr_p (y_move rfl) rfl rfl ?_
              refine tr_p (y_len (ts := #[]) Try.runUnderlying23 (o := x16.ptr) (n := x16.len) (cap := x16.cap) rfl) rfl rfl ?_
              refine tr_p (y_lss rfl rfl) rfl rfl ?_
              refine tr_nil ?_
              refine tr_thenN ?_
              refine tr_cond rfl (fun g58 => ?_) (fun g58 => ?_)
              · replace H := H.1 g58
                refine tr_skip ?_
                refine tr_thenN ?_
                refine tr_seq ?_
                refine tr_block ?_
                refine tr_region ?_
                refine tr_p (y_move rfl) rfl rfl ?_
                refine tr_p (y_move rfl) rfl rfl ?_
                obtain ⟨a59, e60, H⟩ := H
                refine tr_p (f_idx (s := x16) Try.runUnderlying23 Try.sizeOf3 rfl rfl e60) rfl rfl ?_
                refine tr_e (f_store (vs := [(.int .i64 (-7))]) Try.sizeOf3 rfl rfl rfl rfl (one1 rfl) H) rfl rfl ?_
                rintro _ h61 ⟨rfl, H⟩
                refine tr_nil ?_
                refine tr_blockN ?_
                refine tr_thenN ?_
                refine tr_region ?_
                refine tr_p (y_move rfl) rfl rfl ?_
                refine tr_p (y_add rfl rfl) rfl rfl ?_
                refine tr_p (y_assign rfl) rfl rfl ?_
                refine tr_nil ?_
                refine tr_thenN ?_
                exact tr_join [(9, x9.enc), (11, x11.enc), (13, x13.enc), (14, x14.enc), (16, x16.enc), (17, x17.enc), (18, x18.enc), (19, x19.enc), (20, x20.enc), (23, (.int .i64 (IntKind.wrap .i64 (x23 + 1))))] ⟨rfl, rfl, rfl, rfl, rfl, rfl, rfl, rfl, rfl, rfl, trivial⟩ ⟨_, _, _, _, _, _, _, _, _, _, rfl, H⟩
              · replace H := H.2 g58
                refine tr_exit ?_
                refine tr_thenE ?_
                refine tr_thenE ?_
                refine tr_hit ?_
                refine tr_thenN ?_
                refine tr_seq ?_
                refine tr_region ?_
                refine tr_p (y_move rfl) rfl rfl ?_
                refine tr_e (f_buildL (cs := #[(.int .i64 1), (.int .i64 2), (.int .i64 3)]) rfl rfl (bl_23_3_0_1_2 1 2 3) H) rfl rfl ?_
                rintro _ h62 ⟨s63, rfl, H⟩
                refine tr_e (f_app rfl H) rfl rfl ?_
                rintro _ h64 ⟨s65, rfl, H⟩
                refine tr_p (y_assign rfl) rfl rfl ?_
                refine tr_nil ?_
                refine tr_thenN ?_
                refine tr_seq ?_
                refine tr_seq ?_
                refine tr_region ?_
                refine tr_p (y_assign rfl) rfl rfl ?_
                refine tr_nil ?_
                refine tr_thenN ?_
                refine tr_block ?_
                obtain ⟨m80, H⟩ := H
                refine tr_sub [(9, x9.enc), (11, x11.enc), (13, x13.enc), (14, x14.enc), (16, s65.enc), (17, x17.enc), (18, x18.enc), (19, x19.enc), (20, x20.enc), (24, (.int .i64 0))] ⟨rfl, rfl, rfl, rfl, rfl, rfl, rfl, rfl, rfl, rfl, trivial⟩ ?_
                refine tr_loop_j (fun m L' h => ∃ (x9 : Sl) (x11 : Sl) (x13 : Sl) (x14 : Sl) (x16 : Sl) (x17 : Sl) (x18 : Sl) (x19 : Sl) (x20 : Sl) (x24 : Int), L' = [(9, x9.enc), (11, x11.enc), (13, x13.enc), (14, x14.enc), (16, x16.enc), (17, x17.enc), (18, x18.enc), (19, x19.enc), (20, x20.enc), (24, (.int .i64 x24))] ∧ F.spatelaw8_MergeOwn.l4 Q m x9 x11 x13 x14 x16 x17 x18 x19 x20 x24 h) ?_ ?_ m80 ⟨_, _, _, _, _, _, _, _, _, _, rfl, H⟩
                · rintro L' h ⟨_, _, _, _, _, _, _, _, _, _, _, H⟩; exact H
                · rintro q4 L' h ⟨x9, x11, x13, x14, x16, x17, x18, x19, x20, x24, rfl, H⟩
                  unfold F.spatelaw8_MergeOwn.l4 at H
                  refine tr_seq ?_
                  refine tr_seq ?_
                  refine tr_region ?_
                  refine tr_p (y_move rfl) rfl rfl ?_
                  refine tr_p (y_move rfl) rfl rfl ?_
                  refine tr_p (y_len (ts := #[]) Try.runUnderlying23 (o := x17.ptr) (n := x17.len) (cap := x17.cap) rfl) rfl rfl ?_
                  refine tr_p (y_lss rfl rfl) rfl rfl ?_
                  refine tr_nil ?_
                  refine tr_thenN ?_
                  refine tr_cond rfl (fun g66 => ?_) (fun g66 => ?_)
                  · replace H := H.1 g66
                    refine tr_skip ?_
                    refine tr_thenN ?_
                    refine tr_seq ?_
                    refine tr_block ?_
                    refine tr_region ?_
                    refine tr_p (y_move rfl) rfl rfl ?_
                    refine tr_p (y_move rfl) rfl rfl ?_
                    obtain ⟨a67, e68, H⟩ := H
                    refine tr_p (f_idx (s := x17) Try.runUnderlying23 Try.sizeOf3 rfl rfl e68) rfl rfl ?_
                    refine tr_e (f_store (vs := [(.int .i64 (-8))]) Try.sizeOf3 rfl rfl rfl rfl (one1 rfl) H) rfl rfl ?_
                    rintro _ h69 ⟨rfl, H⟩
                    refine tr_nil ?_
                    refine tr_blockN ?_
                    refine tr_thenN ?_
                    refine tr_region ?_
                    refine tr_p (y_move rfl) rfl rfl ?_
                    refine tr_p (y_add rfl rfl) rfl rfl ?_
                    refine tr_p (y_assign rfl) rfl rfl ?_
                    refine tr_nil ?_
                    refine tr_thenN ?_
                    exact tr_join [(9, x9.enc), (11, x11.enc), (13, x13.enc), (14, x14.enc), (16, x16.enc), (17, x17.enc), (18, x18.enc), (19, x19.enc), (20, x20.enc), (24, (.int .i64 (IntKind.wrap .i64 (x24 + 1))))] ⟨rfl, rfl, rfl, rfl, rfl, rfl, rfl, rfl, rfl, rfl, trivial⟩ ⟨_, _, _, _, _, _, _, _, _, _, rfl, H⟩
                  · replace H := H.2 g66
                    refine tr_exit ?_
                    refine tr_thenE ?_
                    refine tr_thenE ?_
                    refine tr_hit ?_
                    refine tr_thenN ?_
                    refine tr_seq ?_
                    refine tr_region ?_
                    refine tr_p (y_move rfl) rfl rfl ?_
                    refine tr_p (y_len (ts := #[]) Try.runUnderlying51 (o := x13.ptr) (n := x13.len) (cap := x13.cap) rfl) rfl rfl ?_
                    refine tr_p (y_geq rfl rfl) rfl rfl ?_
                    refine tr_p (y_move rfl) rfl rfl ?_
                    refine tr_split (t := 114) rfl (fun g70 => ?_) (fun g70 => ?_)
                    · replace H := H.1 g70
                      refine tr_p (y_move rfl) rfl rfl ?_
                      refine tr_p (y_len (ts := #[]) Try.runUnderlying23 (o := x16.ptr) (n := x16.len) (cap := x16.cap) rfl) rfl rfl ?_
                      refine tr_p (y_geq rfl rfl) rfl rfl ?_
                      refine tr_p (y_pick_t rfl rfl) rfl rfl ?_
                      refine tr_p (y_move rfl) rfl rfl ?_
                      refine tr_split (t := 119) rfl (fun g71 => ?_) (fun g71 => ?_)
                      · replace H := H.1 g71
                        refine tr_p (y_move rfl) rfl rfl ?_
                        refine tr_p (y_move rfl) rfl rfl ?_
                        refine tr_e (e_call Try.call32 rfl (F.spatelaw2_SameRows_ok H)) rfl rfl ?_
                        rintro _ h72 ⟨r73, rfl, H⟩
                        refine tr_p (y_pick_t rfl rfl) rfl rfl ?_
                        refine tr_p (y_move rfl) rfl rfl ?_
                        refine tr_split (t := 124) rfl (fun g74 => ?_) (fun g74 => ?_)
                        · replace H := H.1 g74
                          refine tr_p (y_move rfl) rfl rfl ?_
                          refine tr_p (y_move rfl) rfl rfl ?_
                          refine tr_e (e_call Try.call32 rfl (F.spatelaw2_SameRows_ok H)) rfl rfl ?_
                          rintro _ h75 ⟨r76, rfl, H⟩
                          refine tr_p (y_pick_t rfl rfl) rfl rfl ?_
                          refine tr_p (y_move rfl) rfl rfl ?_
                          refine tr_split (t := 129) rfl (fun g77 => ?_) (fun g77 => ?_)
                          · replace H := H.1 g77
                            refine tr_p (y_move rfl) rfl rfl ?_
                            refine tr_p (y_move rfl) rfl rfl ?_
                            refine tr_e (e_call Try.call19 rfl (F.spatelaw8_same_ok H)) rfl rfl ?_
                            rintro _ h78 ⟨r79, rfl, H⟩
                            refine tr_p (y_pick_t rfl rfl) rfl rfl ?_
                            refine tr_p (y_assign rfl) rfl rfl ?_
                            refine tr_nil ?_
                            refine tr_thenN ?_
                            refine tr_ret ?_
                            exact tr_ret1 rfl rfl ⟨_, rfl, H⟩
                          · replace H := H.2 g77
                            refine tr_s rfl rfl ?_
                            refine tr_s rfl rfl ?_
                            refine tr_s rfl rfl ?_
                            refine tr_p (y_pick_f rfl rfl) rfl rfl ?_
                            refine tr_p (y_assign rfl) rfl rfl ?_
                            refine tr_nil ?_
                            refine tr_thenN ?_
                            refine tr_ret ?_
                            exact tr_ret1 rfl rfl ⟨_, rfl, H⟩
                        · replace H := H.2 g74
                          refine tr_s rfl rfl ?_
                          refine tr_s rfl rfl ?_
                          refine tr_s rfl rfl ?_
                          refine tr_p (y_pick_f rfl rfl) rfl rfl ?_
                          refine tr_p (y_move rfl) rfl rfl ?_
                          refine tr_s rfl rfl ?_
                          refine tr_s rfl rfl ?_
                          refine tr_s rfl rfl ?_
                          refine tr_p (y_pick_f rfl rfl) rfl rfl ?_
                          refine tr_p (y_assign rfl) rfl rfl ?_
                          refine tr_nil ?_
                          refine tr_thenN ?_
                          refine tr_ret ?_
                          exact tr_ret1 rfl rfl ⟨_, rfl, H⟩
                      · replace H := H.2 g71
                        refine tr_s rfl rfl ?_
                        refine tr_s rfl rfl ?_
                        refine tr_s rfl rfl ?_
                        refine tr_p (y_pick_f rfl rfl) rfl rfl ?_
                        refine tr_p (y_move rfl) rfl rfl ?_
                        refine tr_s rfl rfl ?_
                        refine tr_s rfl rfl ?_
                        refine tr_s rfl rfl ?_
                        refine tr_p (y_pick_f rfl rfl) rfl rfl ?_
                        refine tr_p (y_move rfl) rfl rfl ?_
                        refine tr_s rfl rfl ?_
                        refine tr_s rfl rfl ?_
                        refine tr_s rfl rfl ?_
                        refine tr_p (y_pick_f rfl rfl) rfl rfl ?_
                        refine tr_p (y_assign rfl) rfl rfl ?_
                        refine tr_nil ?_
                        refine tr_thenN ?_
                        refine tr_ret ?_
                        exact tr_ret1 rfl rfl ⟨_, rfl, H⟩
                    · replace H := H.2 g70
                      refine tr_s rfl rfl ?_
                      refine tr_s rfl rfl ?_
                      refine tr_s rfl rfl ?_
                      refine tr_p (y_pick_f rfl rfl) rfl rfl ?_
                      refine tr_p (y_move rfl) rfl rfl ?_
                      refine tr_s rfl rfl ?_
                      refine tr_s rfl rfl ?_
                      refine tr_s rfl rfl ?_
                      refine tr_p (y_pick_f rfl rfl) rfl rfl ?_
                      refine tr_p (y_move rfl) rfl rfl ?_
                      refine tr_s rfl rfl ?_
                      refine tr_s rfl rfl ?_
                      refine tr_s rfl rfl ?_
                      refine tr_p (y_pick_f rfl rfl) rfl rfl ?_
                      refine tr_p (y_move rfl) rfl rfl ?_
                      refine tr_s rfl rfl ?_
                      refine tr_s rfl rfl ?_
                      refine tr_s rfl rfl ?_
                      refine tr_p (y_pick_f rfl rfl) rfl rfl ?_
                      refine tr_p (y_assign rfl) rfl rfl ?_
                      refine tr_nil ?_
                      refine tr_thenN ?_
                      refine tr_ret ?_
                      exact tr_ret1 rfl rfl ⟨_, rfl, H⟩

def F.spatelaw8_MergeMany.j3 (Q : Bool → H → Prop) (C1 : Int → Sl → Sl → Sl → Int → H → Prop) (x0 : Int) (x1 : Sl) (x2 : Sl) (x7 : Sl) (x8 : Int) (h : H) : Prop :=
  C1 x0 x1 x2 x7 (IntKind.wrap .i64 (x8 + 1)) h
def F.spatelaw8_MergeMany.j4 (Q : Bool → H → Prop) (C1 : Int → Sl → Sl → Sl → Int → H → Prop) (x0 : Int) (x1 : Sl) (x2 : Sl) (x7 : Sl) (x8 : Int) (x9 : Sl) (h : H) : Prop :=
  newL h #[x9.enc] ty_51 1 fun s11 h10 =>
  runL PP (Builtin.append_ #[53, 53] 53 #[x7.enc, s11.enc]) h10 fun s13 h12 =>
  F.spatelaw8_MergeMany.j3 Q C1 x0 x1 x2 s13 x8 h12
def F.spatelaw8_MergeMany.j2 (Q : Bool → H → Prop) (C1 : Int → Sl → Sl → Sl → Int → H → Prop) (x0 : Int) (x1 : Sl) (x2 : Sl) (x7 : Sl) (x8 : Int) (h : H) : Prop :=
  idxA x1 x8 1 fun a4 =>
  ldL h a4 fun y6 =>
  F.spatelaw8_ordered y6 h fun r9 h8 =>
  ((decide ((r9.len : Int) > 30)) = true →
  cutL r9 0 30 7 fun s16 =>
  F.spatelaw8_MergeMany.j4 Q C1 x0 x1 x2 x7 x8 s16 h8) ∧
  ((decide ((r9.len : Int) > 30)) = false →
  F.spatelaw8_MergeMany.j4 Q C1 x0 x1 x2 x7 x8 r9 h8)
def F.spatelaw8_MergeMany.j8 (Q : Bool → H → Prop) (C1 : Int → Sl → Sl → Sl → Int → H → Prop) (x0 : Int) (x2 : Sl) (x7 : Sl) (x10 : Sl) (x11 : Int) (h : H) : Prop :=
  C1 x0 x2 x7 x10 (IntKind.wrap .i64 (x11 + 1)) h
def F.spatelaw8_MergeMany.j9 (Q : Bool → H → Prop) (C1 : Int → Sl → Sl → Sl → Int → H → Prop) (x0 : Int) (x2 : Sl) (x7 : Sl) (x10 : Sl) (x11 : Int) (x12 : Sl) (h : H) : Prop :=
  newL h #[x12.enc] ty_23 1 fun s25 h24 =>
  runL PP (Builtin.append_ #[25, 25] 25 #[x10.enc, s25.enc]) h24 fun s27 h26 =>
  F.spatelaw8_MergeMany.j8 Q C1 x0 x2 x7 s27 x11 h26
def F.spatelaw8_MergeMany.j7 (Q : Bool → H → Prop) (C1 : Int → Sl → Sl → Sl → Int → H → Prop) (x0 : Int) (x2 : Sl) (x7 : Sl) (x10 : Sl) (x11 : Int) (h : H) : Prop :=
  idxA x2 x11 1 fun a18 =>
  ldL h a18 fun y20 =>
  F.spatelaw8_rising y20 h fun r23 h22 =>
  ((decide ((r23.len : Int) > 30)) = true →
  cutL r23 0 30 1 fun s30 =>
  F.spatelaw8_MergeMany.j9 Q C1 x0 x2 x7 x10 x11 s30 h22) ∧
  ((decide ((r23.len : Int) > 30)) = false →
  F.spatelaw8_MergeMany.j9 Q C1 x0 x2 x7 x10 x11 r23 h22)
def F.spatelaw8_MergeMany.j10 (Q : Bool → H → Prop) (C1 : Int → Sl → Sl → Sl → Int → H → Prop) (x0 : Int) (x2 : Sl) (x7 : Sl) (x10 : Sl) (x11 : Int) (x46 : Bool) (h : H) : Prop :=
  (x46 = true →
  F.spatelaw8_MergeMany.j7 Q C1 x0 x2 x7 x10 x11 h) ∧
  (x46 = false →
  F.merge_Rows x0 x7 h fun r33 h32 =>
  F.spateref8_Rows x0 x7 h32 fun r35 h34 =>
  F.spatelaw2_SameRows r33 r35 h34 fun r37 h36 =>
  (r37 = true →
  F.merge_Lists_int x10 h36 fun r40 h39 =>
  F.spateref8_Lists x10 h39 fun r42 h41 =>
  F.spatelaw8_same r40 r42 h41 fun r44 h43 =>
  Q r44 h43) ∧
  (r37 = false →
  Q false h36))
def F.spatelaw8_MergeMany.l6 (Q : Bool → H → Prop) : Nat → Int → Sl → Sl → Sl → Int → H → Prop
  | 0, _, _, _, _, _, _ => False
  | q6 + 1, x0, x2, x7, x10, x11, h =>
    ((decide (x11 < (x2.len : Int))) = true →
    F.spatelaw8_MergeMany.j10 Q (F.spatelaw8_MergeMany.l6 Q q6) x0 x2 x7 x10 x11 (decide (x11 < 60)) h) ∧
    ((decide (x11 < (x2.len : Int))) = false →
    F.spatelaw8_MergeMany.j10 Q (F.spatelaw8_MergeMany.l6 Q q6) x0 x2 x7 x10 x11 false h)
def F.spatelaw8_MergeMany.j5 (Q : Bool → H → Prop) (C1 : Int → Sl → Sl → Sl → Int → H → Prop) (x0 : Int) (x1 : Sl) (x2 : Sl) (x7 : Sl) (x8 : Int) (x22 : Bool) (h : H) : Prop :=
  (x22 = true →
  F.spatelaw8_MergeMany.j2 Q C1 x0 x1 x2 x7 x8 h) ∧
  (x22 = false →
  ∃ m, F.spatelaw8_MergeMany.l6 Q m x0 x2 x7 (⟨none, 0, 0⟩ : Sl) 0 h)
def F.spatelaw8_MergeMany.l1 (Q : Bool → H → Prop) : Nat → Int → Sl → Sl → Sl → Int → H → Prop
  | 0, _, _, _, _, _, _ => False
  | q1 + 1, x0, x1, x2, x7, x8, h =>
    ((decide (x8 < (x1.len : Int))) = true →
    F.spatelaw8_MergeMany.j5 Q (F.spatelaw8_MergeMany.l1 Q q1) x0 x1 x2 x7 x8 (decide (x8 < 40)) h) ∧
    ((decide (x8 < (x1.len : Int))) = false →
    F.spatelaw8_MergeMany.j5 Q (F.spatelaw8_MergeMany.l1 Q q1) x0 x1 x2 x7 x8 false h)
/-- spate/spatelaw8.MergeMany -/
def F.spatelaw8_MergeMany (p0 : Int) (p1 : Sl) (p2 : Sl) (h : H) (Q : Bool → H → Prop) : Prop :=
  F.spatelaw8_known  h fun r2 h1 =>
  ((!r2) = true →
  Q false h1) ∧
  ((!r2) = false →
  ∃ m, F.spatelaw8_MergeMany.l1 Q m p0 p1 p2 (⟨none, 0, 0⟩ : Sl) 0 h1)
theorem F.spatelaw8_MergeMany_ok {p0 : Int} {p1 : Sl} {p2 : Sl} {h : H} {Q : Bool → H → Prop} (H : F.spatelaw8_MergeMany p0 p1 p2 h Q) : Fn PP 12 ([(.int .i64 p0), p1.enc, p2.enc] : List Value).toArray h fun r h' => ∃ r0, r = (.bool r0) ∧ Q r0 h' := by
  unfold F.spatelaw8_MergeMany at H
  refine fn_of Try.func12 Try.ntmps12 rfl rfl fun w0 => ?_
  refine tr_sub [(0, (.int .i64 p0)), (1, p1.enc), (2, p2.enc)] ⟨rfl, rfl, rfl, trivial⟩ ?_
  refine tr_seq ?_
  refine tr_region ?_
  refine tr_p (y_assign rfl) rfl rfl ?_
  refine tr_nil ?_
  refine tr_thenN ?_
  refine tr_seq ?_
  refine tr_seq ?_
  refine tr_region ?_
  refine tr_e (e_call Try.call15 rfl (F.spatelaw8_known_ok H)) rfl rfl ?_
  rintro _ h1 ⟨r2, rfl, H⟩
  refine tr_p (y_not rfl) rfl rfl ?_
  refine tr_nil ?_
  refine tr_thenN ?_
  refine tr_cond rfl (fun g3 => ?_) (fun g3 => ?_)
  · replace H := H.1 g3
    refine tr_seq ?_
    refine tr_region ?_
    refine tr_p (y_assign rfl) rfl rfl ?_
    refine tr_nil ?_
    refine tr_thenN ?_
    refine tr_ret ?_
    refine tr_thenR ?_
    exact tr_ret1 rfl rfl ⟨_, rfl, H⟩
  · replace H := H.2 g3
    refine tr_skip ?_
    refine tr_thenN ?_
    refine tr_seq ?_
    refine tr_region ?_
    refine tr_p (y_assign rfl) rfl rfl ?_
    refine tr_nil ?_
    refine tr_thenN ?_
    refine tr_seq ?_
    refine tr_seq ?_
    refine tr_region ?_
    refine tr_p (y_assign rfl) rfl rfl ?_
    refine tr_nil ?_
    refine tr_thenN ?_
    refine tr_block ?_
    obtain ⟨m48, H⟩ := H
    refine tr_sub [(0, (.int .i64 p0)), (1, p1.enc), (2, p2.enc), (7, (⟨none, 0, 0⟩ : Sl).enc), (8, (.int .i64 0))] ⟨rfl, rfl, rfl, rfl, rfl, trivial⟩ ?_
    refine tr_loop_j (fun m L' h => ∃ (x0 : Int) (x1 : Sl) (x2 : Sl) (x7 : Sl) (x8 : Int), L' = [(0, (.int .i64 x0)), (1, x1.enc), (2, x2.enc), (7, x7.enc), (8, (.int .i64 x8))] ∧ F.spatelaw8_MergeMany.l1 Q m x0 x1 x2 x7 x8 h) ?_ ?_ m48 ⟨_, _, _, _, _, rfl, H⟩
    · rintro L' h ⟨_, _, _, _, _, _, H⟩; exact H
    · rintro q1 L' h ⟨x0, x1, x2, x7, x8, rfl, H⟩
      unfold F.spatelaw8_MergeMany.l1 at H
      refine tr_seq_j (fun L' h => ∃ (x0 : Int) (x1 : Sl) (x2 : Sl) (x7 : Sl) (x8 : Int), L' = [(0, (.int .i64 x0)), (1, x1.enc), (2, x2.enc), (7, x7.enc), (8, (.int .i64 x8))] ∧ F.spatelaw8_MergeMany.j2 Q (F.spatelaw8_MergeMany.l1 Q q1) x0 x1 x2 x7 x8 h) ?_ ?_
      · rintro L' h ⟨x0, x1, x2, x7, x8, rfl, H⟩
        unfold F.spatelaw8_MergeMany.j2 at H
        refine tr_seq_j (fun L' h => ∃ (x0 : Int) (x1 : Sl) (x2 : Sl) (x7 : Sl) (x8 : Int), L' = [(0, (.int .i64 x0)), (1, x1.enc), (2, x2.enc), (7, x7.enc), (8, (.int .i64 x8))] ∧ F.spatelaw8_MergeMany.j3 Q (F.spatelaw8_MergeMany.l1 Q q1) x0 x1 x2 x7 x8 h) ?_ ?_
        · rintro L' h ⟨x0, x1, x2, x7, x8, rfl, H⟩
          unfold F.spatelaw8_MergeMany.j3 at H
          refine tr_region ?_
          refine tr_p (y_move rfl) rfl rfl ?_
          refine tr_p (y_add rfl rfl) rfl rfl ?_
          refine tr_p (y_assign rfl) rfl rfl ?_
          refine tr_nil ?_
          refine tr_thenN ?_
          exact tr_join [(0, (.int .i64 x0)), (1, x1.enc), (2, x2.enc), (7, x7.enc), (8, (.int .i64 (IntKind.wrap .i64 (x8 + 1))))] ⟨rfl, rfl, rfl, rfl, rfl, trivial⟩ ⟨_, _, _, _, _, rfl, H⟩
        · refine tr_block ?_
          refine tr_seq ?_
          refine tr_region ?_
          refine tr_p (y_move rfl) rfl rfl ?_
          refine tr_p (y_move rfl) rfl rfl ?_
          obtain ⟨a4, e5, H⟩ := H
          refine tr_p (f_idx (s := x1) Try.runUnderlying53 Try.sizeOf51 rfl rfl e5) rfl rfl ?_
          obtain ⟨y6, k7, H⟩ := H
          refine tr_h (y_ld Try.isAgg51 rfl) k7 rfl rfl ?_
          refine tr_e (e_call Try.call29 rfl (F.spatelaw8_ordered_ok H)) rfl rfl ?_
          rintro _ h8 ⟨r9, rfl, H⟩
          refine tr_p (y_assign rfl) rfl rfl ?_
          refine tr_nil ?_
          refine tr_thenN ?_
          refine tr_seq_j (fun L' h => ∃ (x0 : Int) (x1 : Sl) (x2 : Sl) (x7 : Sl) (x8 : Int) (x9 : Sl), L' = [(0, (.int .i64 x0)), (1, x1.enc), (2, x2.enc), (7, x7.enc), (8, (.int .i64 x8)), (9, x9.enc)] ∧ F.spatelaw8_MergeMany.j4 Q (F.spatelaw8_MergeMany.l1 Q q1) x0 x1 x2 x7 x8 x9 h) ?_ ?_
          · rintro L' h ⟨x0, x1, x2, x7, x8, x9, rfl, H⟩
            unfold F.spatelaw8_MergeMany.j4 at H
            refine tr_region ?_
            refine tr_p (y_move rfl) rfl rfl ?_
            refine tr_p (y_move rfl) rfl rfl ?_
            refine tr_e (f_buildL (cs := #[x9.enc]) rfl rfl (bl_53_1_0 x9) H) rfl rfl ?_
            rintro _ h10 ⟨s11, rfl, H⟩
            refine tr_e (f_app rfl H) rfl rfl ?_
            rintro _ h12 ⟨s13, rfl, H⟩
            refine tr_p (y_assign rfl) rfl rfl ?_
            refine tr_nil ?_
            refine tr_blockN ?_
            refine tr_thenN ?_
            exact tr_join [(0, (.int .i64 x0)), (1, x1.enc), (2, x2.enc), (7, s13.enc), (8, (.int .i64 x8))] ⟨rfl, rfl, rfl, rfl, rfl, trivial⟩ ⟨_, _, _, _, _, rfl, H⟩
          · refine tr_seq ?_
            refine tr_region ?_
            refine tr_p (y_move rfl) rfl rfl ?_
            refine tr_p (y_len (ts := #[]) Try.runUnderlying51 (o := r9.ptr) (n := r9.len) (cap := r9.cap) rfl) rfl rfl ?_
            refine tr_p (y_gtr rfl rfl) rfl rfl ?_
            refine tr_nil ?_
            refine tr_thenN ?_
            refine tr_cond rfl (fun g14 => ?_) (fun g14 => ?_)
            · replace H := H.1 g14
              refine tr_region ?_
              refine tr_p (y_move rfl) rfl rfl ?_
              obtain ⟨s16, e15, H⟩ := H
              refine tr_p (f_cutL (s := r9) none (some (.i64, 30)) Try.runUnderlying51 Try.sizeOf66 rfl rfl rfl e15) rfl rfl ?_
              refine tr_p (y_assign rfl) rfl rfl ?_
              refine tr_nil ?_
              refine tr_thenN ?_
              exact tr_join [(0, (.int .i64 x0)), (1, x1.enc), (2, x2.enc), (7, x7.enc), (8, (.int .i64 x8)), (9, s16.enc)] ⟨rfl, rfl, rfl, rfl, rfl, rfl, trivial⟩ ⟨_, _, _, _, _, _, rfl, H⟩
            · replace H := H.2 g14
              refine tr_skip ?_
              refine tr_thenN ?_
              exact tr_join [(0, (.int .i64 x0)), (1, x1.enc), (2, x2.enc), (7, x7.enc), (8, (.int .i64 x8)), (9, r9.enc)] ⟨rfl, rfl, rfl, rfl, rfl, rfl, trivial⟩ ⟨_, _, _, _, _, _, rfl, H⟩
      · refine tr_seq_j (fun L' h => ∃ (x0 : Int) (x1 : Sl) (x2 : Sl) (x7 : Sl) (x8 : Int) (x22 : Bool), L' = [(0, (.int .i64 x0)), (1, x1.enc), (2, x2.enc), (7, x7.enc), (8, (.int .i64 x8)), (22, (.bool x22))] ∧ F.spatelaw8_MergeMany.j5 Q (F.spatelaw8_MergeMany.l1 Q q1) x0 x1 x2 x7 x8 x22 h) ?_ ?_
        · rintro L' h ⟨x0, x1, x2, x7, x8, x22, rfl, H⟩
          unfold F.spatelaw8_MergeMany.j5 at H
          refine tr_cond rfl (fun g17 => ?_) (fun g17 => ?_)
          · replace H := H.1 g17
            refine tr_skip ?_
            refine tr_thenN ?_
            exact tr_join [(0, (.int .i64 x0)), (1, x1.enc), (2, x2.enc), (7, x7.enc), (8, (.int .i64 x8))] ⟨rfl, rfl, rfl, rfl, rfl, trivial⟩ ⟨_, _, _, _, _, rfl, H⟩
          · replace H := H.2 g17
            refine tr_exit ?_
            refine tr_thenE ?_
            refine tr_thenE ?_
            refine tr_hit ?_
            refine tr_thenN ?_
            refine tr_seq ?_
            refine tr_region ?_
            refine tr_p (y_assign rfl) rfl rfl ?_
            refine tr_nil ?_
            refine tr_thenN ?_
            refine tr_seq ?_
            refine tr_seq ?_
            refine tr_region ?_
            refine tr_p (y_assign rfl) rfl rfl ?_
            refine tr_nil ?_
            refine tr_thenN ?_
            refine tr_block ?_
            obtain ⟨m46, H⟩ := H
            refine tr_sub [(0, (.int .i64 x0)), (2, x2.enc), (7, x7.enc), (10, (⟨none, 0, 0⟩ : Sl).enc), (11, (.int .i64 0))] ⟨rfl, rfl, rfl, rfl, rfl, trivial⟩ ?_
            refine tr_loop_j (fun m L' h => ∃ (x0 : Int) (x2 : Sl) (x7 : Sl) (x10 : Sl) (x11 : Int), L' = [(0, (.int .i64 x0)), (2, x2.enc), (7, x7.enc), (10, x10.enc), (11, (.int .i64 x11))] ∧ F.spatelaw8_MergeMany.l6 Q m x0 x2 x7 x10 x11 h) ?_ ?_ m46 ⟨_, _, _, _, _, rfl, H⟩
            · rintro L' h ⟨_, _, _, _, _, _, H⟩; exact H
            · rintro q6 L' h ⟨x0, x2, x7, x10, x11, rfl, H⟩
              unfold F.spatelaw8_MergeMany.l6 at H
              refine tr_seq_j (fun L' h => ∃ (x0 : Int) (x2 : Sl) (x7 : Sl) (x10 : Sl) (x11 : Int), L' = [(0, (.int .i64 x0)), (2, x2.enc), (7, x7.enc), (10, x10.enc), (11, (.int .i64 x11))] ∧ F.spatelaw8_MergeMany.j7 Q (F.spatelaw8_MergeMany.l6 Q q6) x0 x2 x7 x10 x11 h) ?_ ?_
              · rintro L' h ⟨x0, x2, x7, x10, x11, rfl, H⟩
                unfold F.spatelaw8_MergeMany.j7 at H
                refine tr_seq_j (fun L' h => ∃ (x0 : Int) (x2 : Sl) (x7 : Sl) (x10 : Sl) (x11 : Int), L' = [(0, (.int .i64 x0)), (2, x2.enc), (7, x7.enc), (10, x10.enc), (11, (.int .i64 x11))] ∧ F.spatelaw8_MergeMany.j8 Q (F.spatelaw8_MergeMany.l6 Q q6) x0 x2 x7 x10 x11 h) ?_ ?_
                · rintro L' h ⟨x0, x2, x7, x10, x11, rfl, H⟩
                  unfold F.spatelaw8_MergeMany.j8 at H
                  refine tr_region ?_
                  refine tr_p (y_move rfl) rfl rfl ?_
                  refine tr_p (y_add rfl rfl) rfl rfl ?_
                  refine tr_p (y_assign rfl) rfl rfl ?_
                  refine tr_nil ?_
                  refine tr_thenN ?_
                  exact tr_join [(0, (.int .i64 x0)), (2, x2.enc), (7, x7.enc), (10, x10.enc), (11, (.int .i64 (IntKind.wrap .i64 (x11 + 1))))] ⟨rfl, rfl, rfl, rfl, rfl, trivial⟩ ⟨_, _, _, _, _, rfl, H⟩
                · refine tr_block ?_
                  refine tr_seq ?_
                  refine tr_region ?_
                  refine tr_p (y_move rfl) rfl rfl ?_
                  refine tr_p (y_move rfl) rfl rfl ?_
                  obtain ⟨a18, e19, H⟩ := H
                  refine tr_p (f_idx (s := x2) Try.runUnderlying25 Try.sizeOf23 rfl rfl e19) rfl rfl ?_
                  obtain ⟨y20, k21, H⟩ := H
                  refine tr_h (y_ld Try.isAgg23 rfl) k21 rfl rfl ?_
                  refine tr_e (e_call Try.call16 rfl (F.spatelaw8_rising_ok H)) rfl rfl ?_
                  rintro _ h22 ⟨r23, rfl, H⟩
                  refine tr_p (y_assign rfl) rfl rfl ?_
                  refine tr_nil ?_
                  refine tr_thenN ?_
                  refine tr_seq_j (fun L' h => ∃ (x0 : Int) (x2 : Sl) (x7 : Sl) (x10 : Sl) (x11 : Int) (x12 : Sl), L' = [(0, (.int .i64 x0)), (2, x2.enc), (7, x7.enc), (10, x10.enc), (11, (.int .i64 x11)), (12, x12.enc)] ∧ F.spatelaw8_MergeMany.j9 Q (F.spatelaw8_MergeMany.l6 Q q6) x0 x2 x7 x10 x11 x12 h) ?_ ?_
                  · rintro L' h ⟨x0, x2, x7, x10, x11, x12, rfl, H⟩
                    unfold F.spatelaw8_MergeMany.j9 at H
                    refine tr_region ?_
                    refine tr_p (y_move rfl) rfl rfl ?_
                    refine tr_p (y_move rfl) rfl rfl ?_
                    refine tr_e (f_buildL (cs := #[x12.enc]) rfl rfl (bl_25_1_0 x12) H) rfl rfl ?_
                    rintro _ h24 ⟨s25, rfl, H⟩
                    refine tr_e (f_app rfl H) rfl rfl ?_
                    rintro _ h26 ⟨s27, rfl, H⟩
                    refine tr_p (y_assign rfl) rfl rfl ?_
                    refine tr_nil ?_
                    refine tr_blockN ?_
                    refine tr_thenN ?_
                    exact tr_join [(0, (.int .i64 x0)), (2, x2.enc), (7, x7.enc), (10, s27.enc), (11, (.int .i64 x11))] ⟨rfl, rfl, rfl, rfl, rfl, trivial⟩ ⟨_, _, _, _, _, rfl, H⟩
                  · refine tr_seq ?_
                    refine tr_region ?_
                    refine tr_p (y_move rfl) rfl rfl ?_
                    refine tr_p (y_len (ts := #[]) Try.runUnderlying23 (o := r23.ptr) (n := r23.len) (cap := r23.cap) rfl) rfl rfl ?_
                    refine tr_p (y_gtr rfl rfl) rfl rfl ?_
                    refine tr_nil ?_
                    refine tr_thenN ?_
                    refine tr_cond rfl (fun g28 => ?_) (fun g28 => ?_)
                    · replace H := H.1 g28
                      refine tr_region ?_
                      refine tr_p (y_move rfl) rfl rfl ?_
                      obtain ⟨s30, e29, H⟩ := H
                      refine tr_p (f_cutL (s := r23) none (some (.i64, 30)) Try.runUnderlying23 Try.sizeOf3 rfl rfl rfl e29) rfl rfl ?_
                      refine tr_p (y_assign rfl) rfl rfl ?_
                      refine tr_nil ?_
                      refine tr_thenN ?_
                      exact tr_join [(0, (.int .i64 x0)), (2, x2.enc), (7, x7.enc), (10, x10.enc), (11, (.int .i64 x11)), (12, s30.enc)] ⟨rfl, rfl, rfl, rfl, rfl, rfl, trivial⟩ ⟨_, _, _, _, _, _, rfl, H⟩
                    · replace H := H.2 g28
                      refine tr_skip ?_
                      refine tr_thenN ?_
                      exact tr_join [(0, (.int .i64 x0)), (2, x2.enc), (7, x7.enc), (10, x10.enc), (11, (.int .i64 x11)), (12, r23.enc)] ⟨rfl, rfl, rfl, rfl, rfl, rfl, trivial⟩ ⟨_, _, _, _, _, _, rfl, H⟩
              · refine tr_seq_j (fun L' h => ∃ (x0 : Int) (x2 : Sl) (x7 : Sl) (x10 : Sl) (x11 : Int) (x46 : Bool), L' = [(0, (.int .i64 x0)), (2, x2.enc), (7, x7.enc), (10, x10.enc), (11, (.int .i64 x11)), (46, (.bool x46))] ∧ F.spatelaw8_MergeMany.j10 Q (F.spatelaw8_MergeMany.l6 Q q6) x0 x2 x7 x10 x11 x46 h) ?_ ?_
                · rintro L' h ⟨x0, x2, x7, x10, x11, x46, rfl, H⟩
                  unfold F.spatelaw8_MergeMany.j10 at H
                  refine tr_cond rfl (fun g31 => ?_) (fun g31 => ?_)
                  · replace H := H.1 g31
                    refine tr_skip ?_
                    refine tr_thenN ?_
                    exact tr_join [(0, (.int .i64 x0)), (2, x2.enc), (7, x7.enc), (10, x10.enc), (11, (.int .i64 x11))] ⟨rfl, rfl, rfl, rfl, rfl, trivial⟩ ⟨_, _, _, _, _, rfl, H⟩
                  · replace H := H.2 g31
                    refine tr_exit ?_
                    refine tr_thenE ?_
                    refine tr_thenE ?_
                    refine tr_hit ?_
                    refine tr_thenN ?_
                    refine tr_seq ?_
                    refine tr_region ?_
                    refine tr_p (y_move rfl) rfl rfl ?_
                    refine tr_p (y_move rfl) rfl rfl ?_
                    refine tr_e (e_call Try.call31 rfl (F.merge_Rows_ok H)) rfl rfl ?_
                    rintro _ h32 ⟨r33, rfl, H⟩
                    refine tr_p (y_move rfl) rfl rfl ?_
                    refine tr_p (y_move rfl) rfl rfl ?_
                    refine tr_e (e_call Try.call33 rfl (F.spateref8_Rows_ok H)) rfl rfl ?_
                    rintro _ h34 ⟨r35, rfl, H⟩
                    refine tr_e (e_call Try.call32 rfl (F.spatelaw2_SameRows_ok H)) rfl rfl ?_
                    rintro _ h36 ⟨r37, rfl, H⟩
                    refine tr_p (y_move rfl) rfl rfl ?_
                    refine tr_split (t := 70) rfl (fun g38 => ?_) (fun g38 => ?_)
                    · replace H := H.1 g38
                      refine tr_p (y_move rfl) rfl rfl ?_
                      refine tr_e (e_call Try.call18 rfl (F.merge_Lists_int_ok H)) rfl rfl ?_
                      rintro _ h39 ⟨r40, rfl, H⟩
                      refine tr_p (y_move rfl) rfl rfl ?_
                      refine tr_e (e_call Try.call17 rfl (F.spateref8_Lists_ok H)) rfl rfl ?_
                      rintro _ h41 ⟨r42, rfl, H⟩
                      refine tr_e (e_call Try.call19 rfl (F.spatelaw8_same_ok H)) rfl rfl ?_
                      rintro _ h43 ⟨r44, rfl, H⟩
                      refine tr_p (y_pick_t rfl rfl) rfl rfl ?_
                      refine tr_p (y_assign rfl) rfl rfl ?_
                      refine tr_nil ?_
                      refine tr_thenN ?_
                      refine tr_ret ?_
                      exact tr_ret1 rfl rfl ⟨_, rfl, H⟩
                    · replace H := H.2 g38
                      refine tr_s rfl rfl ?_
                      refine tr_s rfl rfl ?_
                      refine tr_s rfl rfl ?_
                      refine tr_s rfl rfl ?_
                      refine tr_s rfl rfl ?_
                      refine tr_p (y_pick_f rfl rfl) rfl rfl ?_
                      refine tr_p (y_assign rfl) rfl rfl ?_
                      refine tr_nil ?_
                      refine tr_thenN ?_
                      refine tr_ret ?_
                      exact tr_ret1 rfl rfl ⟨_, rfl, H⟩
                · refine tr_region ?_
                  refine tr_p (y_move rfl) rfl rfl ?_
                  refine tr_p (y_move rfl) rfl rfl ?_
                  refine tr_p (y_len (ts := #[]) Try.runUnderlying25 (o := x2.ptr) (n := x2.len) (cap := x2.cap) rfl) rfl rfl ?_
                  refine tr_p (y_lss rfl rfl) rfl rfl ?_
                  refine tr_p (y_move rfl) rfl rfl ?_
                  refine tr_split (t := 43) rfl (fun g45 => ?_) (fun g45 => ?_)
                  · replace H := H.1 g45
                    refine tr_p (y_move rfl) rfl rfl ?_
                    refine tr_p (y_lss rfl rfl) rfl rfl ?_
                    refine tr_p (y_pick_t rfl rfl) rfl rfl ?_
                    refine tr_nil ?_
                    refine tr_thenN ?_
                    exact tr_join [(0, (.int .i64 x0)), (2, x2.enc), (7, x7.enc), (10, x10.enc), (11, (.int .i64 x11)), (46, (.bool (decide (x11 < 60))))] ⟨rfl, rfl, rfl, rfl, rfl, rfl, trivial⟩ ⟨_, _, _, _, _, _, rfl, H⟩
                  · replace H := H.2 g45
                    refine tr_s rfl rfl ?_
                    refine tr_s rfl rfl ?_
                    refine tr_p (y_pick_f rfl rfl) rfl rfl ?_
                    refine tr_nil ?_
                    refine tr_thenN ?_
                    exact tr_join [(0, (.int .i64 x0)), (2, x2.enc), (7, x7.enc), (10, x10.enc), (11, (.int .i64 x11)), (46, (.bool false))] ⟨rfl, rfl, rfl, rfl, rfl, rfl, trivial⟩ ⟨_, _, _, _, _, _, rfl, H⟩
        · refine tr_region ?_
          refine tr_p (y_move rfl) rfl rfl ?_
          refine tr_p (y_move rfl) rfl rfl ?_
          refine tr_p (y_len (ts := #[]) Try.runUnderlying53 (o := x1.ptr) (n := x1.len) (cap := x1.cap) rfl) rfl rfl ?_
          refine tr_p (y_lss rfl rfl) rfl rfl ?_
          refine tr_p (y_move rfl) rfl rfl ?_
          refine tr_split (t := 19) rfl (fun g47 => ?_) (fun g47 => ?_)
          · replace H := H.1 g47
            refine tr_p (y_move rfl) rfl rfl ?_
            refine tr_p (y_lss rfl rfl) rfl rfl ?_
            refine tr_p (y_pick_t rfl rfl) rfl rfl ?_
            refine tr_nil ?_
            refine tr_thenN ?_
            exact tr_join [(0, (.int .i64 x0)), (1, x1.enc), (2, x2.enc), (7, x7.enc), (8, (.int .i64 x8)), (22, (.bool (decide (x8 < 40))))] ⟨rfl, rfl, rfl, rfl, rfl, rfl, trivial⟩ ⟨_, _, _, _, _, _, rfl, H⟩
          · replace H := H.2 g47
            refine tr_s rfl rfl ?_
            refine tr_s rfl rfl ?_
            refine tr_p (y_pick_f rfl rfl) rfl rfl ?_
            refine tr_nil ?_
            refine tr_thenN ?_
            exact tr_join [(0, (.int .i64 x0)), (1, x1.enc), (2, x2.enc), (7, x7.enc), (8, (.int .i64 x8)), (22, (.bool false))] ⟨rfl, rfl, rfl, rfl, rfl, rfl, trivial⟩ ⟨_, _, _, _, _, _, rfl, H⟩

def F.spatelaw8_MergeLong.l2 (Q : Bool → H → Prop) (C1 : Int → Int → Int → Sl → Sl → Int → H → Prop) : Nat → Int → Int → Int → Sl → Sl → Int → Sl → Sl → Int → H → Prop
  | 0, _, _, _, _, _, _, _, _, _, _ => False
  | q2 + 1, x0, x1, x2, x7, x8, x9, x10, x11, x12, h =>
    ((decide (x12 < x1)) = true →
    newL h (((⟨(⟨0, (⟨#[107]⟩ : ByteArray), x12⟩ : S_api_Cell), (⟨(IntKind.wrap .i64 (x9 + 1)), 0, 0, 0⟩ : S_api_Agg)⟩ : S_api_Row).cells).toArray) ty_66 1 fun s11 h10 =>
    runL PP (Builtin.append_ #[51, 51] 51 #[x10.enc, s11.enc]) h10 fun s13 h12 =>
    newL h12 #[(.int .i64 x12)] ty_3 1 fun s15 h14 =>
    runL PP (Builtin.append_ #[23, 23] 23 #[x11.enc, s15.enc]) h14 fun s17 h16 =>
    (F.spatelaw8_MergeLong.l2 Q C1 q2) x0 x1 x2 x7 x8 x9 s13 s17 (IntKind.wrap .i64 (x12 + x0)) h16) ∧
    ((decide (x12 < x1)) = false →
    newL h #[x10.enc] ty_51 1 fun s19 h18 =>
    runL PP (Builtin.append_ #[53, 53] 53 #[x7.enc, s19.enc]) h18 fun s21 h20 =>
    newL h20 #[x11.enc] ty_23 1 fun s23 h22 =>
    runL PP (Builtin.append_ #[25, 25] 25 #[x8.enc, s23.enc]) h22 fun s25 h24 =>
    C1 x0 x1 x2 s21 s25 (IntKind.wrap .i64 (x9 + 1)) h24)
def F.spatelaw8_MergeLong.j5 (Q : Bool → H → Prop) (C1 : Int → Int → Sl → Sl → Int → H → Prop) (x0 : Int) (x1 : Int) (x13 : Sl) (x14 : Sl) (x15 : Int) (h : H) : Prop :=
  C1 x0 x1 x13 x14 (IntKind.wrap .i64 (x15 + 1)) h
def F.spatelaw8_MergeLong.j6 (Q : Bool → H → Prop) (C1 : Int → Int → Sl → Sl → Int → H → Prop) (x0 : Int) (x1 : Int) (x13 : Sl) (x14 : Sl) (x15 : Int) (x104 : Bool) (h : H) : Prop :=
  (x104 = true →
  Q false h) ∧
  (x104 = false →
  F.spatelaw8_MergeLong.j5 Q C1 x0 x1 x13 x14 x15 h)
def F.spatelaw8_MergeLong.l7 (Q : Bool → H → Prop) : Nat → Int → Sl → Int → H → Prop
  | 0, _, _, _, _ => False
  | q7 + 1, x1, x14, x16, h =>
    ((decide (x16 < x1)) = true →
    idxA x14 x16 1 fun a46 =>
    ldI .i64 h a46 fun y48 =>
    (((y48 != x16)) = true →
    Q false h) ∧
    (((y48 != x16)) = false →
    (F.spatelaw8_MergeLong.l7 Q q7) x1 x14 (IntKind.wrap .i64 (x16 + 1)) h)) ∧
    ((decide (x16 < x1)) = false →
    Q true h)
def F.spatelaw8_MergeLong.l4 (Q : Bool → H → Prop) : Nat → Int → Int → Sl → Sl → Int → H → Prop
  | 0, _, _, _, _, _, _ => False
  | q4 + 1, x0, x1, x13, x14, x15, h =>
    ((decide (x15 < (x13.len : Int))) = true →
    idxA x13 x15 7 fun a35 =>
    ldI .i64 h ((a35.add 0).add 2) fun y37 =>
    (((y37 != x15)) = true →
    F.spatelaw8_MergeLong.j6 Q (F.spatelaw8_MergeLong.l4 Q q4) x0 x1 x13 x14 x15 true h) ∧
    (((y37 != x15)) = false →
    idxA x13 x15 7 fun a40 =>
    ldI .i64 h ((a40.add 3).add 0) fun y42 =>
    (x0 : Int) ≠ 0 ∧
    F.spatelaw8_MergeLong.j6 Q (F.spatelaw8_MergeLong.l4 Q q4) x0 x1 x13 x14 x15 ((y42 != (IntKind.wrap .i64 ((Int.tmod x15 x0) + 1)))) h)) ∧
    ((decide (x15 < (x13.len : Int))) = false →
    ∃ m, F.spatelaw8_MergeLong.l7 Q m x1 x14 0 h)
def F.spatelaw8_MergeLong.j3 (Q : Bool → H → Prop) (x0 : Int) (x1 : Int) (x13 : Sl) (x14 : Sl) (h : H) : Prop :=
  ∃ m, F.spatelaw8_MergeLong.l4 Q m x0 x1 x13 x14 0 h
def F.spatelaw8_MergeLong.j8 (Q : Bool → H → Prop) (x0 : Int) (x1 : Int) (x13 : Sl) (x14 : Sl) (x77 : Bool) (h : H) : Prop :=
  (x77 = true →
  Q false h) ∧
  (x77 = false →
  F.spatelaw8_MergeLong.j3 Q x0 x1 x13 x14 h)
def F.spatelaw8_MergeLong.l1 (Q : Bool → H → Prop) : Nat → Int → Int → Int → Sl → Sl → Int → H → Prop
  | 0, _, _, _, _, _, _, _ => False
  | q1 + 1, x0, x1, x2, x7, x8, x9, h =>
    ((decide (x9 < x0)) = true →
    ∃ m, F.spatelaw8_MergeLong.l2 Q (F.spatelaw8_MergeLong.l1 Q q1) m x0 x1 x2 x7 x8 x9 (⟨none, 0, 0⟩ : Sl) (⟨none, 0, 0⟩ : Sl) x9 h) ∧
    ((decide (x9 < x0)) = false →
    F.spatelaw8_within x2 (IntKind.wrap .i64 (x1 + 2)) h fun r28 h27 =>
    F.merge_Rows r28 x7 h27 fun r30 h29 =>
    F.merge_Lists_int x8 h29 fun r32 h31 =>
    runI PP (Builtin.min_ #[3, 3] 3 #[(.int .i64 r28), (.int .i64 x1)]) h31 .i64 fun s55 h54 =>
    ((((r30.len : Int) != s55)) = true →
    F.spatelaw8_MergeLong.j8 Q x0 x1 r30 r32 true h54) ∧
    ((((r30.len : Int) != s55)) = false →
    F.spatelaw8_MergeLong.j8 Q x0 x1 r30 r32 (((r32.len : Int) != x1)) h54))
/-- spate/spatelaw8.MergeLong -/
def F.spatelaw8_MergeLong (p0 : Int) (p1 : Int) (p2 : Int) (h : H) (Q : Bool → H → Prop) : Prop :=
  F.spatelaw8_known  h fun r2 h1 =>
  ((!r2) = true →
  Q false h1) ∧
  ((!r2) = false →
  F.spatelaw8_within p0 50 h1 fun r5 h4 =>
  F.spatelaw8_within p1 5000 h4 fun r7 h6 =>
  ∃ m, F.spatelaw8_MergeLong.l1 Q m (IntKind.wrap .i64 (1 + r5)) r7 p2 (⟨none, 0, 0⟩ : Sl) (⟨none, 0, 0⟩ : Sl) 0 h6)
theorem F.spatelaw8_MergeLong_ok {p0 : Int} {p1 : Int} {p2 : Int} {h : H} {Q : Bool → H → Prop} (H : F.spatelaw8_MergeLong p0 p1 p2 h Q) : Fn PP 13 ([(.int .i64 p0), (.int .i64 p1), (.int .i64 p2)] : List Value).toArray h fun r h' => ∃ r0, r = (.bool r0) ∧ Q r0 h' := by
  unfold F.spatelaw8_MergeLong at H
  refine fn_of Try.func13 Try.ntmps13 rfl rfl fun w0 => ?_
  refine tr_sub [(0, (.int .i64 p0)), (1, (.int .i64 p1)), (2, (.int .i64 p2))] ⟨rfl, rfl, rfl, trivial⟩ ?_
  refine tr_seq ?_
  refine tr_region ?_
  refine tr_p (y_assign rfl) rfl rfl ?_
  refine tr_nil ?_
  refine tr_thenN ?_
  refine tr_seq ?_
  refine tr_seq ?_
  refine tr_region ?_
  refine tr_e (e_call Try.call15 rfl (F.spatelaw8_known_ok H)) rfl rfl ?_
  rintro _ h1 ⟨r2, rfl, H⟩
  refine tr_p (y_not rfl) rfl rfl ?_
  refine tr_nil ?_
  refine tr_thenN ?_
  refine tr_cond rfl (fun g3 => ?_) (fun g3 => ?_)
  · replace H := H.1 g3
    refine tr_seq ?_
    refine tr_region ?_
    refine tr_p (y_assign rfl) rfl rfl ?_
    refine tr_nil ?_
    refine tr_thenN ?_
    refine tr_ret ?_
    refine tr_thenR ?_
    exact tr_ret1 rfl rfl ⟨_, rfl, H⟩
  · replace H := H.2 g3
    refine tr_skip ?_
    refine tr_thenN ?_
    refine tr_seq ?_
    refine tr_region ?_
    refine tr_p (y_move rfl) rfl rfl ?_
    refine tr_e (e_call Try.call28 rfl (F.spatelaw8_within_ok H)) rfl rfl ?_
    rintro _ h4 ⟨r5, rfl, H⟩
    refine tr_p (y_add rfl rfl) rfl rfl ?_
    refine tr_p (y_assign rfl) rfl rfl ?_
    refine tr_nil ?_
    refine tr_thenN ?_
    refine tr_seq ?_
    refine tr_region ?_
    refine tr_p (y_move rfl) rfl rfl ?_
    refine tr_e (e_call Try.call28 rfl (F.spatelaw8_within_ok H)) rfl rfl ?_
    rintro _ h6 ⟨r7, rfl, H⟩
    refine tr_p (y_assign rfl) rfl rfl ?_
    refine tr_nil ?_
    refine tr_thenN ?_
    refine tr_seq ?_
    refine tr_region ?_
    refine tr_p (y_assign rfl) rfl rfl ?_
    refine tr_nil ?_
    refine tr_thenN ?_
    refine tr_seq ?_
    refine tr_region ?_
    refine tr_p (y_assign rfl) rfl rfl ?_
    refine tr_nil ?_
    refine tr_thenN ?_
    refine tr_seq ?_
    refine tr_seq ?_
    refine tr_region ?_
    refine tr_p (y_assign rfl) rfl rfl ?_
    refine tr_nil ?_
    refine tr_thenN ?_
    refine tr_block ?_
    obtain ⟨m57, H⟩ := H
    refine tr_sub [(0, (.int .i64 (IntKind.wrap .i64 (1 + r5)))), (1, (.int .i64 r7)), (2, (.int .i64 p2)), (7, (⟨none, 0, 0⟩ : Sl).enc), (8, (⟨none, 0, 0⟩ : Sl).enc), (9, (.int .i64 0))] ⟨rfl, rfl, rfl, rfl, rfl, rfl, trivial⟩ ?_
    refine tr_loop_j (fun m L' h => ∃ (x0 : Int) (x1 : Int) (x2 : Int) (x7 : Sl) (x8 : Sl) (x9 : Int), L' = [(0, (.int .i64 x0)), (1, (.int .i64 x1)), (2, (.int .i64 x2)), (7, x7.enc), (8, x8.enc), (9, (.int .i64 x9))] ∧ F.spatelaw8_MergeLong.l1 Q m x0 x1 x2 x7 x8 x9 h) ?_ ?_ m57 ⟨_, _, _, _, _, _, rfl, H⟩
    · rintro L' h ⟨_, _, _, _, _, _, _, H⟩; exact H
    · rintro q1 L' h ⟨x0, x1, x2, x7, x8, x9, rfl, H⟩
      unfold F.spatelaw8_MergeLong.l1 at H
      refine tr_seq ?_
      refine tr_seq ?_
      refine tr_region ?_
      refine tr_p (y_move rfl) rfl rfl ?_
      refine tr_p (y_move rfl) rfl rfl ?_
      refine tr_p (y_lss rfl rfl) rfl rfl ?_
      refine tr_nil ?_
      refine tr_thenN ?_
      refine tr_cond rfl (fun g8 => ?_) (fun g8 => ?_)
      · replace H := H.1 g8
        refine tr_skip ?_
        refine tr_thenN ?_
        refine tr_seq ?_
        refine tr_block ?_
        refine tr_seq ?_
        refine tr_region ?_
        refine tr_p (y_assign rfl) rfl rfl ?_
        refine tr_nil ?_
        refine tr_thenN ?_
        refine tr_seq ?_
        refine tr_region ?_
        refine tr_p (y_assign rfl) rfl rfl ?_
        refine tr_nil ?_
        refine tr_thenN ?_
        refine tr_seq ?_
        refine tr_seq ?_
        refine tr_region ?_
        refine tr_p (y_move rfl) rfl rfl ?_
        refine tr_p (y_assign rfl) rfl rfl ?_
        refine tr_nil ?_
        refine tr_thenN ?_
        refine tr_block ?_
        obtain ⟨m26, H⟩ := H
        refine tr_sub [(0, (.int .i64 x0)), (1, (.int .i64 x1)), (2, (.int .i64 x2)), (7, x7.enc), (8, x8.enc), (9, (.int .i64 x9)), (10, (⟨none, 0, 0⟩ : Sl).enc), (11, (⟨none, 0, 0⟩ : Sl).enc), (12, (.int .i64 x9))] ⟨rfl, rfl, rfl, rfl, rfl, rfl, rfl, rfl, rfl, trivial⟩ ?_
        refine tr_loop_j (fun m L' h => ∃ (x0 : Int) (x1 : Int) (x2 : Int) (x7 : Sl) (x8 : Sl) (x9 : Int) (x10 : Sl) (x11 : Sl) (x12 : Int), L' = [(0, (.int .i64 x0)), (1, (.int .i64 x1)), (2, (.int .i64 x2)), (7, x7.enc), (8, x8.enc), (9, (.int .i64 x9)), (10, x10.enc), (11, x11.enc), (12, (.int .i64 x12))] ∧ F.spatelaw8_MergeLong.l2 Q (F.spatelaw8_MergeLong.l1 Q q1) m x0 x1 x2 x7 x8 x9 x10 x11 x12 h) ?_ ?_ m26 ⟨_, _, _, _, _, _, _, _, _, rfl, H⟩
        · rintro L' h ⟨_, _, _, _, _, _, _, _, _, _, H⟩; exact H
        · rintro q2 L' h ⟨x0, x1, x2, x7, x8, x9, x10, x11, x12, rfl, H⟩
          unfold F.spatelaw8_MergeLong.l2 at H
          refine tr_seq ?_
          refine tr_seq ?_
          refine tr_region ?_
          refine tr_p (y_move rfl) rfl rfl ?_
          refine tr_p (y_move rfl) rfl rfl ?_
          refine tr_p (y_lss rfl rfl) rfl rfl ?_
          refine tr_nil ?_
          refine tr_thenN ?_
          refine tr_cond rfl (fun g9 => ?_) (fun g9 => ?_)
          · replace H := H.1 g9
            refine tr_skip ?_
            refine tr_thenN ?_
            refine tr_seq ?_
            refine tr_block ?_
            refine tr_seq ?_
            refine tr_region ?_
            refine tr_p (y_move rfl) rfl rfl ?_
            refine tr_p (y_move rfl) rfl rfl ?_
            refine tr_p (f_build rfl (bd_34_1_2 (⟨#[107]⟩ : ByteArray) x12)) rfl rfl ?_
            refine tr_p (y_move rfl) rfl rfl ?_
            refine tr_p (y_add rfl rfl) rfl rfl ?_
            refine tr_p (f_build rfl (bd_64_0 (IntKind.wrap .i64 (x9 + 1)))) rfl rfl ?_
            refine tr_p (f_build rfl (bd_66_0_1 (⟨0, (⟨#[107]⟩ : ByteArray), x12⟩ : S_api_Cell) (⟨(IntKind.wrap .i64 (x9 + 1)), 0, 0, 0⟩ : S_api_Agg))) rfl rfl ?_
            refine tr_e (f_buildL (cs := ((⟨(⟨0, (⟨#[107]⟩ : ByteArray), x12⟩ : S_api_Cell), (⟨(IntKind.wrap .i64 (x9 + 1)), 0, 0, 0⟩ : S_api_Agg)⟩ : S_api_Row).cells).toArray) rfl rfl (bl_51_1_0 (⟨(⟨0, (⟨#[107]⟩ : ByteArray), x12⟩ : S_api_Cell), (⟨(IntKind.wrap .i64 (x9 + 1)), 0, 0, 0⟩ : S_api_Agg)⟩ : S_api_Row)) H) rfl rfl ?_
            rintro _ h10 ⟨s11, rfl, H⟩
            refine tr_e (f_app rfl H) rfl rfl ?_
            rintro _ h12 ⟨s13, rfl, H⟩
            refine tr_p (y_assign rfl) rfl rfl ?_
            refine tr_nil ?_
            refine tr_thenN ?_
            refine tr_region ?_
            refine tr_p (y_move rfl) rfl rfl ?_
            refine tr_p (y_move rfl) rfl rfl ?_
            refine tr_e (f_buildL (cs := #[(.int .i64 x12)]) rfl rfl (bl_23_1_0 x12) H) rfl rfl ?_
            rintro _ h14 ⟨s15, rfl, H⟩
            refine tr_e (f_app rfl H) rfl rfl ?_
            rintro _ h16 ⟨s17, rfl, H⟩
            refine tr_p (y_assign rfl) rfl rfl ?_
            refine tr_nil ?_
            refine tr_blockN ?_
            refine tr_thenN ?_
            refine tr_region ?_
            refine tr_p (y_move rfl) rfl rfl ?_
            refine tr_p (y_move rfl) rfl rfl ?_
            refine tr_p (y_add rfl rfl) rfl rfl ?_
            refine tr_p (y_assign rfl) rfl rfl ?_
            refine tr_nil ?_
            refine tr_thenN ?_
            exact tr_join [(0, (.int .i64 x0)), (1, (.int .i64 x1)), (2, (.int .i64 x2)), (7, x7.enc), (8, x8.enc), (9, (.int .i64 x9)), (10, s13.enc), (11, s17.enc), (12, (.int .i64 (IntKind.wrap .i64 (x12 + x0))))] ⟨rfl, rfl, rfl, rfl, rfl, rfl, rfl, rfl, rfl, trivial⟩ ⟨_, _, _, _, _, _, _, _, _, rfl, H⟩
          · replace H := H.2 g9
            refine tr_exit ?_
            refine tr_thenE ?_
            refine tr_thenE ?_
            refine tr_hit ?_
            refine tr_thenN ?_
            refine tr_seq ?_
            refine tr_region ?_
            refine tr_p (y_move rfl) rfl rfl ?_
            refine tr_p (y_move rfl) rfl rfl ?_
            refine tr_e (f_buildL (cs := #[x10.enc]) rfl rfl (bl_53_1_0 x10) H) rfl rfl ?_
            rintro _ h18 ⟨s19, rfl, H⟩
            refine tr_e (f_app rfl H) rfl rfl ?_
            rintro _ h20 ⟨s21, rfl, H⟩
            refine tr_p (y_assign rfl) rfl rfl ?_
            refine tr_nil ?_
            refine tr_thenN ?_
            refine tr_region ?_
            refine tr_p (y_move rfl) rfl rfl ?_
            refine tr_p (y_move rfl) rfl rfl ?_
            refine tr_e (f_buildL (cs := #[x11.enc]) rfl rfl (bl_25_1_0 x11) H) rfl rfl ?_
            rintro _ h22 ⟨s23, rfl, H⟩
            refine tr_e (f_app rfl H) rfl rfl ?_
            rintro _ h24 ⟨s25, rfl, H⟩
            refine tr_p (y_assign rfl) rfl rfl ?_
            refine tr_nil ?_
            refine tr_blockN ?_
            refine tr_thenN ?_
            refine tr_region ?_
            refine tr_p (y_move rfl) rfl rfl ?_
            refine tr_p (y_add rfl rfl) rfl rfl ?_
            refine tr_p (y_assign rfl) rfl rfl ?_
            refine tr_nil ?_
            refine tr_thenN ?_
            exact tr_join [(0, (.int .i64 x0)), (1, (.int .i64 x1)), (2, (.int .i64 x2)), (7, s21.enc), (8, s25.enc), (9, (.int .i64 (IntKind.wrap .i64 (x9 + 1))))] ⟨rfl, rfl, rfl, rfl, rfl, rfl, trivial⟩ ⟨_, _, _, _, _, _, rfl, H⟩
      · replace H := H.2 g8
        refine tr_exit ?_
        refine tr_thenE ?_
        refine tr_thenE ?_
        refine tr_hit ?_
        refine tr_thenN ?_
        refine tr_seq ?_
        refine tr_region ?_
        refine tr_p (y_move rfl) rfl rfl ?_
        refine tr_p (y_move rfl) rfl rfl ?_
        refine tr_p (y_add rfl rfl) rfl rfl ?_
        refine tr_e (e_call Try.call28 rfl (F.spatelaw8_within_ok H)) rfl rfl ?_
        rintro _ h27 ⟨r28, rfl, H⟩
        refine tr_p (y_assign rfl) rfl rfl ?_
        refine tr_nil ?_
        refine tr_thenN ?_
        refine tr_seq ?_
        refine tr_region ?_
        refine tr_p (y_move rfl) rfl rfl ?_
        refine tr_p (y_move rfl) rfl rfl ?_
        refine tr_e (e_call Try.call31 rfl (F.merge_Rows_ok H)) rfl rfl ?_
        rintro _ h29 ⟨r30, rfl, H⟩
        refine tr_p (y_assign rfl) rfl rfl ?_
        refine tr_nil ?_
        refine tr_thenN ?_
        refine tr_seq ?_
        refine tr_region ?_
        refine tr_p (y_move rfl) rfl rfl ?_
        refine tr_e (e_call Try.call18 rfl (F.merge_Lists_int_ok H)) rfl rfl ?_
        rintro _ h31 ⟨r32, rfl, H⟩
        refine tr_p (y_assign rfl) rfl rfl ?_
        refine tr_nil ?_
        refine tr_thenN ?_
        refine tr_seq_j (fun L' h => ∃ (x0 : Int) (x1 : Int) (x13 : Sl) (x14 : Sl), L' = [(0, (.int .i64 x0)), (1, (.int .i64 x1)), (13, x13.enc), (14, x14.enc)] ∧ F.spatelaw8_MergeLong.j3 Q x0 x1 x13 x14 h) ?_ ?_
        · rintro L' h ⟨x0, x1, x13, x14, rfl, H⟩
          unfold F.spatelaw8_MergeLong.j3 at H
          refine tr_seq ?_
          refine tr_seq ?_
          refine tr_region ?_
          refine tr_p (y_assign rfl) rfl rfl ?_
          refine tr_nil ?_
          refine tr_thenN ?_
          refine tr_block ?_
          obtain ⟨m52, H⟩ := H
          refine tr_sub [(0, (.int .i64 x0)), (1, (.int .i64 x1)), (13, x13.enc), (14, x14.enc), (15, (.int .i64 0))] ⟨rfl, rfl, rfl, rfl, rfl, trivial⟩ ?_
          refine tr_loop_j (fun m L' h => ∃ (x0 : Int) (x1 : Int) (x13 : Sl) (x14 : Sl) (x15 : Int), L' = [(0, (.int .i64 x0)), (1, (.int .i64 x1)), (13, x13.enc), (14, x14.enc), (15, (.int .i64 x15))] ∧ F.spatelaw8_MergeLong.l4 Q m x0 x1 x13 x14 x15 h) ?_ ?_ m52 ⟨_, _, _, _, _, rfl, H⟩
          · rintro L' h ⟨_, _, _, _, _, _, H⟩; exact H
          · rintro q4 L' h ⟨x0, x1, x13, x14, x15, rfl, H⟩
            unfold F.spatelaw8_MergeLong.l4 at H
            refine tr_seq ?_
            refine tr_seq ?_
            refine tr_region ?_
            refine tr_p (y_move rfl) rfl rfl ?_
            refine tr_p (y_move rfl) rfl rfl ?_
            refine tr_p (y_len (ts := #[]) Try.runUnderlying51 (o := x13.ptr) (n := x13.len) (cap := x13.cap) rfl) rfl rfl ?_
            refine tr_p (y_lss rfl rfl) rfl rfl ?_
            refine tr_nil ?_
            refine tr_thenN ?_
            refine tr_cond rfl (fun g33 => ?_) (fun g33 => ?_)
            · replace H := H.1 g33
              refine tr_skip ?_
              refine tr_thenN ?_
              refine tr_seq_j (fun L' h => ∃ (x0 : Int) (x1 : Int) (x13 : Sl) (x14 : Sl) (x15 : Int), L' = [(0, (.int .i64 x0)), (1, (.int .i64 x1)), (13, x13.enc), (14, x14.enc), (15, (.int .i64 x15))] ∧ F.spatelaw8_MergeLong.j5 Q (F.spatelaw8_MergeLong.l4 Q q4) x0 x1 x13 x14 x15 h) ?_ ?_
              · rintro L' h ⟨x0, x1, x13, x14, x15, rfl, H⟩
                unfold F.spatelaw8_MergeLong.j5 at H
                refine tr_region ?_
                refine tr_p (y_move rfl) rfl rfl ?_
                refine tr_p (y_add rfl rfl) rfl rfl ?_
                refine tr_p (y_assign rfl) rfl rfl ?_
                refine tr_nil ?_
                refine tr_thenN ?_
                exact tr_join [(0, (.int .i64 x0)), (1, (.int .i64 x1)), (13, x13.enc), (14, x14.enc), (15, (.int .i64 (IntKind.wrap .i64 (x15 + 1))))] ⟨rfl, rfl, rfl, rfl, rfl, trivial⟩ ⟨_, _, _, _, _, rfl, H⟩
              · refine tr_block ?_
                refine tr_seq_j (fun L' h => ∃ (x0 : Int) (x1 : Int) (x13 : Sl) (x14 : Sl) (x15 : Int) (x104 : Bool), L' = [(0, (.int .i64 x0)), (1, (.int .i64 x1)), (13, x13.enc), (14, x14.enc), (15, (.int .i64 x15)), (104, (.bool x104))] ∧ F.spatelaw8_MergeLong.j6 Q (F.spatelaw8_MergeLong.l4 Q q4) x0 x1 x13 x14 x15 x104 h) ?_ ?_
                · rintro L' h ⟨x0, x1, x13, x14, x15, x104, rfl, H⟩
                  unfold F.spatelaw8_MergeLong.j6 at H
                  refine tr_cond rfl (fun g34 => ?_) (fun g34 => ?_)
                  · replace H := H.1 g34
                    refine tr_seq ?_
                    refine tr_region ?_
                    refine tr_p (y_assign rfl) rfl rfl ?_
                    refine tr_nil ?_
                    refine tr_thenN ?_
                    refine tr_ret ?_
                    refine tr_blockR ?_
                    refine tr_thenR ?_
                    refine tr_thenR ?_
                    refine tr_blockR ?_
                    refine tr_thenR ?_
                    exact tr_ret1 rfl rfl ⟨_, rfl, H⟩
                  · replace H := H.2 g34
                    refine tr_skip ?_
                    refine tr_blockN ?_
                    refine tr_thenN ?_
                    exact tr_join [(0, (.int .i64 x0)), (1, (.int .i64 x1)), (13, x13.enc), (14, x14.enc), (15, (.int .i64 x15))] ⟨rfl, rfl, rfl, rfl, rfl, trivial⟩ ⟨_, _, _, _, _, rfl, H⟩
                · refine tr_draw mixed [0, 0, 3, 7, 15, 31, 0, 127, 255, 511, 511, 2047, 4095, 8191, 16383, 511, 511, 98815, 229887, 524287, 1048575] (by kernel_rfl) ?_
                  refine g_p 0 1 rfl (by kernel_rfl) (y_move rfl) rfl rfl ?_
                  refine g_p 1 3 rfl (by kernel_rfl) (y_move rfl) rfl rfl ?_
                  obtain ⟨a35, e36, H⟩ := H
                  refine g_p 2 7 rfl (by kernel_rfl) (f_idx (s := x13) Try.runUnderlying51 Try.sizeOf66 rfl rfl e36) rfl rfl ?_
                  refine g_p 3 15 rfl (by kernel_rfl) (y_fa (off := 0) Try.runUnderlying66 fo_66_0 rfl) rfl rfl ?_
                  refine g_p 4 31 rfl (by kernel_rfl) (y_fa (off := 2) Try.runUnderlying34 fo_34_2 rfl) rfl rfl ?_
                  obtain ⟨y37, k38, H⟩ := H
                  refine g_h 5 63 rfl (by kernel_rfl) (y_ld Try.isAgg2 rfl) k38 rfl rfl ?_
                  refine g_p 6 127 rfl (by kernel_rfl) (y_move rfl) rfl rfl ?_
                  refine g_p 7 255 rfl (by kernel_rfl) (y_neq rfl rfl) rfl rfl ?_
                  refine g_p 8 511 rfl (by kernel_rfl) (y_move rfl) rfl rfl ?_
                  refine g_split (t := 92) rfl (fun g39 => ?_) (fun g39 => ?_)
                  · replace H := H.1 g39
                    refine g_s 9 1023 rfl (by kernel_rfl) rfl rfl ?_
                    refine g_s 10 2047 rfl (by kernel_rfl) rfl rfl ?_
                    refine g_s 11 4095 rfl (by kernel_rfl) rfl rfl ?_
                    refine g_s 12 8191 rfl (by kernel_rfl) rfl rfl ?_
                    refine g_s 13 16383 rfl (by kernel_rfl) rfl rfl ?_
                    refine g_s 14 32767 rfl (by kernel_rfl) rfl rfl ?_
                    refine g_s 15 65535 rfl (by kernel_rfl) rfl rfl ?_
                    refine g_s 16 131071 rfl (by kernel_rfl) rfl rfl ?_
                    refine g_s 17 262143 rfl (by kernel_rfl) rfl rfl ?_
                    refine g_s 18 524287 rfl (by kernel_rfl) rfl rfl ?_
                    refine g_s 19 1048575 rfl (by kernel_rfl) rfl rfl ?_
                    refine g_p 20 2097151 rfl (by kernel_rfl) (y_pick_t rfl rfl) rfl rfl ?_
                    refine g_d (by kernel_rfl) ?_
                    refine tr_thenN ?_
                    exact tr_join [(0, (.int .i64 x0)), (1, (.int .i64 x1)), (13, x13.enc), (14, x14.enc), (15, (.int .i64 x15)), (104, (.bool true))] ⟨rfl, rfl, rfl, rfl, rfl, rfl, trivial⟩ ⟨_, _, _, _, _, _, rfl, H⟩
                  · replace H := H.2 g39
                    refine g_p 9 1023 rfl (by kernel_rfl) (y_move rfl) rfl rfl ?_
                    refine g_p 10 2047 rfl (by kernel_rfl) (y_move rfl) rfl rfl ?_
                    obtain ⟨a40, e41, H⟩ := H
                    refine g_p 11 4095 rfl (by kernel_rfl) (f_idx (s := x13) Try.runUnderlying51 Try.sizeOf66 rfl rfl e41) rfl rfl ?_
                    refine g_p 12 8191 rfl (by kernel_rfl) (y_fa (off := 3) Try.runUnderlying66 fo_66_1 rfl) rfl rfl ?_
                    refine g_p 13 16383 rfl (by kernel_rfl) (y_fa (off := 0) Try.runUnderlying64 fo_64_0 rfl) rfl rfl ?_
                    obtain ⟨y42, k43, H⟩ := H
                    refine g_h 14 32767 rfl (by kernel_rfl) (y_ld Try.isAgg2 rfl) k43 rfl rfl ?_
                    refine g_p 15 65535 rfl (by kernel_rfl) (y_move rfl) rfl rfl ?_
                    refine g_p 16 131071 rfl (by kernel_rfl) (y_move rfl) rfl rfl ?_
                    obtain ⟨e44, H⟩ := H
                    refine g_p 17 262143 rfl (by kernel_rfl) (y_rem rfl rfl e44) rfl rfl ?_
                    refine g_p 18 524287 rfl (by kernel_rfl) (y_add rfl rfl) rfl rfl ?_
                    refine g_p 19 1048575 rfl (by kernel_rfl) (y_neq rfl rfl) rfl rfl ?_
                    refine g_p 20 2097151 rfl (by kernel_rfl) (y_pick_f rfl rfl) rfl rfl ?_
                    refine g_d (by kernel_rfl) ?_
                    refine tr_thenN ?_
                    exact tr_join [(0, (.int .i64 x0)), (1, (.int .i64 x1)), (13, x13.enc), (14, x14.enc), (15, (.int .i64 x15)), (104, (.bool ((y42 != (IntKind.wrap .i64 ((Int.tmod x15 x0) + 1))))))] ⟨rfl, rfl, rfl, rfl, rfl, rfl, trivial⟩ ⟨_, _, _, _, _, _, rfl, H⟩
            · replace H := H.2 g33
              refine tr_exit ?_
              refine tr_thenE ?_
              refine tr_thenE ?_
              refine tr_hit ?_
              refine tr_thenN ?_
              refine tr_seq ?_
              refine tr_seq ?_
              refine tr_region ?_
              refine tr_p (y_assign rfl) rfl rfl ?_
              refine tr_nil ?_
              refine tr_thenN ?_
              refine tr_block ?_
              obtain ⟨m51, H⟩ := H
              refine tr_sub [(1, (.int .i64 x1)), (14, x14.enc), (16, (.int .i64 0))] ⟨rfl, rfl, rfl, trivial⟩ ?_
              refine tr_loop_j (fun m L' h => ∃ (x1 : Int) (x14 : Sl) (x16 : Int), L' = [(1, (.int .i64 x1)), (14, x14.enc), (16, (.int .i64 x16))] ∧ F.spatelaw8_MergeLong.l7 Q m x1 x14 x16 h) ?_ ?_ m51 ⟨_, _, _, rfl, H⟩
              · rintro L' h ⟨_, _, _, _, H⟩; exact H
              · rintro q7 L' h ⟨x1, x14, x16, rfl, H⟩
                unfold F.spatelaw8_MergeLong.l7 at H
                refine tr_seq ?_
                refine tr_seq ?_
                refine tr_region ?_
                refine tr_p (y_move rfl) rfl rfl ?_
                refine tr_p (y_move rfl) rfl rfl ?_
                refine tr_p (y_lss rfl rfl) rfl rfl ?_
                refine tr_nil ?_
                refine tr_thenN ?_
                refine tr_cond rfl (fun g45 => ?_) (fun g45 => ?_)
                · replace H := H.1 g45
                  refine tr_skip ?_
                  refine tr_thenN ?_
                  refine tr_seq ?_
                  refine tr_block ?_
                  refine tr_seq ?_
                  refine tr_region ?_
                  refine tr_p (y_move rfl) rfl rfl ?_
                  refine tr_p (y_move rfl) rfl rfl ?_
                  obtain ⟨a46, e47, H⟩ := H
                  refine tr_p (f_idx (s := x14) Try.runUnderlying23 Try.sizeOf3 rfl rfl e47) rfl rfl ?_
                  obtain ⟨y48, k49, H⟩ := H
                  refine tr_h (y_ld Try.isAgg3 rfl) k49 rfl rfl ?_
                  refine tr_p (y_move rfl) rfl rfl ?_
                  refine tr_p (y_neq rfl rfl) rfl rfl ?_
                  refine tr_nil ?_
                  refine tr_thenN ?_
                  refine tr_cond rfl (fun g50 => ?_) (fun g50 => ?_)
                  · replace H := H.1 g50
                    refine tr_seq ?_
                    refine tr_region ?_
                    refine tr_p (y_assign rfl) rfl rfl ?_
                    refine tr_nil ?_
                    refine tr_thenN ?_
                    refine tr_ret ?_
                    refine tr_blockR ?_
                    refine tr_thenR ?_
                    refine tr_thenR ?_
                    refine tr_blockR ?_
                    refine tr_thenR ?_
                    exact tr_ret1 rfl rfl ⟨_, rfl, H⟩
                  · replace H := H.2 g50
                    refine tr_skip ?_
                    refine tr_blockN ?_
                    refine tr_thenN ?_
                    refine tr_region ?_
                    refine tr_p (y_move rfl) rfl rfl ?_
                    refine tr_p (y_add rfl rfl) rfl rfl ?_
                    refine tr_p (y_assign rfl) rfl rfl ?_
                    refine tr_nil ?_
                    refine tr_thenN ?_
                    exact tr_join [(1, (.int .i64 x1)), (14, x14.enc), (16, (.int .i64 (IntKind.wrap .i64 (x16 + 1))))] ⟨rfl, rfl, rfl, trivial⟩ ⟨_, _, _, rfl, H⟩
                · replace H := H.2 g45
                  refine tr_exit ?_
                  refine tr_thenE ?_
                  refine tr_thenE ?_
                  refine tr_hit ?_
                  refine tr_thenN ?_
                  refine tr_seq ?_
                  refine tr_region ?_
                  refine tr_p (y_assign rfl) rfl rfl ?_
                  refine tr_nil ?_
                  refine tr_thenN ?_
                  refine tr_ret ?_
                  exact tr_ret1 rfl rfl ⟨_, rfl, H⟩
        · refine tr_seq_j (fun L' h => ∃ (x0 : Int) (x1 : Int) (x13 : Sl) (x14 : Sl) (x77 : Bool), L' = [(0, (.int .i64 x0)), (1, (.int .i64 x1)), (13, x13.enc), (14, x14.enc), (77, (.bool x77))] ∧ F.spatelaw8_MergeLong.j8 Q x0 x1 x13 x14 x77 h) ?_ ?_
          · rintro L' h ⟨x0, x1, x13, x14, x77, rfl, H⟩
            unfold F.spatelaw8_MergeLong.j8 at H
            refine tr_cond rfl (fun g53 => ?_) (fun g53 => ?_)
            · replace H := H.1 g53
              refine tr_seq ?_
              refine tr_region ?_
              refine tr_p (y_assign rfl) rfl rfl ?_
              refine tr_nil ?_
              refine tr_thenN ?_
              refine tr_ret ?_
              refine tr_thenR ?_
              exact tr_ret1 rfl rfl ⟨_, rfl, H⟩
            · replace H := H.2 g53
              refine tr_skip ?_
              refine tr_thenN ?_
              exact tr_join [(0, (.int .i64 x0)), (1, (.int .i64 x1)), (13, x13.enc), (14, x14.enc)] ⟨rfl, rfl, rfl, rfl, trivial⟩ ⟨_, _, _, _, rfl, H⟩
          · refine tr_region ?_
            refine tr_p (y_move rfl) rfl rfl ?_
            refine tr_p (y_len (ts := #[]) Try.runUnderlying51 (o := r30.ptr) (n := r30.len) (cap := r30.cap) rfl) rfl rfl ?_
            refine tr_p (y_move rfl) rfl rfl ?_
            refine tr_p (y_move rfl) rfl rfl ?_
            refine tr_e (f_min rfl H) rfl rfl ?_
            rintro _ h54 ⟨s55, rfl, H⟩
            refine tr_p (y_neq rfl rfl) rfl rfl ?_
            refine tr_p (y_move rfl) rfl rfl ?_
            refine tr_split (t := 72) rfl (fun g56 => ?_) (fun g56 => ?_)
            · replace H := H.1 g56
              refine tr_s rfl rfl ?_
              refine tr_s rfl rfl ?_
              refine tr_s rfl rfl ?_
              refine tr_s rfl rfl ?_
              refine tr_p (y_pick_t rfl rfl) rfl rfl ?_
              refine tr_nil ?_
              refine tr_thenN ?_
              exact tr_join [(0, (.int .i64 x0)), (1, (.int .i64 x1)), (13, r30.enc), (14, r32.enc), (77, (.bool true))] ⟨rfl, rfl, rfl, rfl, rfl, trivial⟩ ⟨_, _, _, _, _, rfl, H⟩
            · replace H := H.2 g56
              refine tr_p (y_move rfl) rfl rfl ?_
              refine tr_p (y_len (ts := #[]) Try.runUnderlying23 (o := r32.ptr) (n := r32.len) (cap := r32.cap) rfl) rfl rfl ?_
              refine tr_p (y_move rfl) rfl rfl ?_
              refine tr_p (y_neq rfl rfl) rfl rfl ?_
              refine tr_p (y_pick_f rfl rfl) rfl rfl ?_
              refine tr_nil ?_
              refine tr_thenN ?_
              exact tr_join [(0, (.int .i64 x0)), (1, (.int .i64 x1)), (13, r30.enc), (14, r32.enc), (77, (.bool (((r32.len : Int) != x1))))] ⟨rfl, rfl, rfl, rfl, rfl, trivial⟩ ⟨_, _, _, _, _, rfl, H⟩

def F.spatelaw2_GrownRows.l2 (Q : Bool → H → Prop) (C1 : Sl → Int → H → Prop) : Nat → Sl → Int → Int → H → Prop
  | 0, _, _, _, _ => False
  | q2 + 1, x0, x3, x4, h =>
    idxA x0 x3 1 fun a2 =>
    ldL h a2 fun y4 =>
    ((decide (x4 < (y4.len : Int))) = true →
    idxA x0 x3 1 fun a7 =>
    ldL h a7 fun y9 =>
    idxA y9 x4 7 fun a11 =>
    stH h a11 ((⟨(⟨x3, (⟨#[116, 111, 108, 100]⟩ : ByteArray), x4⟩ : S_api_Cell), (⟨0, 0, 0, 0⟩ : S_api_Agg)⟩ : S_api_Row).cells) fun h13 =>
    (F.spatelaw2_GrownRows.l2 Q C1 q2) x0 x3 (IntKind.wrap .i64 (x4 + 1)) h13) ∧
    ((decide (x4 < (y4.len : Int))) = false →
    C1 x0 (IntKind.wrap .i64 (x3 + 1)) h)
def F.spatelaw2_GrownRows.l4 (Q : Bool → H → Prop) (C1 : Sl → Sl → Int → H → Prop) : Nat → Sl → Sl → Int → Int → H → Prop
  | 0, _, _, _, _, _ => False
  | q4 + 1, x0, x5, x6, x7, h =>
    ((decide (x7 < (x0.len : Int))) = true →
    idxA x5 x7 1 fun a19 =>
    ldL h a19 fun y21 =>
    newL h (((⟨(⟨x7, (⟨#[109, 111, 114, 101]⟩ : ByteArray), x6⟩ : S_api_Cell), (⟨0, 0, 0, 0⟩ : S_api_Agg)⟩ : S_api_Row).cells).toArray) ty_66 1 fun s24 h23 =>
    runL PP (Builtin.append_ #[51, 51] 51 #[y21.enc, s24.enc]) h23 fun s26 h25 =>
    idxA x5 x7 1 fun a27 =>
    stH h25 a27 [s26.enc] fun h29 =>
    (F.spatelaw2_GrownRows.l4 Q C1 q4) x0 x5 x6 (IntKind.wrap .i64 (x7 + 1)) h29) ∧
    ((decide (x7 < (x0.len : Int))) = false →
    C1 x0 x5 (IntKind.wrap .i64 (x6 + 1)) h)
def F.spatelaw2_GrownRows.j7 (Q : Bool → H → Prop) (C1 : Sl → Sl → Int → H → Prop) (C2 : Sl → Sl → Int → Int → Int → H → Prop) (x0 : Sl) (x5 : Sl) (x8 : Int) (x9 : Int) (x10 : Int) (h : H) : Prop :=
  C2 x0 x5 x8 x9 (IntKind.wrap .i64 (x10 + 1)) h
def F.spatelaw2_GrownRows.j9 (Q : Bool → H → Prop) (C1 : Sl → Sl → Int → H → Prop) (C2 : Sl → Sl → Int → Int → Int → H → Prop) (x0 : Sl) (x5 : Sl) (x8 : Int) (x9 : Int) (x10 : Int) (x117 : Bool) (h : H) : Prop :=
  (x117 = true →
  Q false h) ∧
  (x117 = false →
  F.spatelaw2_GrownRows.j7 Q C1 C2 x0 x5 x8 x9 x10 h)
def F.spatelaw2_GrownRows.j8 (Q : Bool → H → Prop) (C1 : Sl → Sl → Int → H → Prop) (C2 : Sl → Sl → Int → Int → Int → H → Prop) (x0 : Sl) (x5 : Sl) (x8 : Int) (x9 : Int) (x10 : Int) (x11 : Addr) (h : H) : Prop :=
  idxA x5 x8 1 fun a41 =>
  ldL h a41 fun y43 =>
  idxA y43 x10 7 fun a45 =>
  ld_S_api_Row h a45 fun y47 =>
  ld_S_api_Row h x11 fun y49 =>
  ((!((((y47.Cell.View == y49.Cell.View) && ((y47.Cell.Key.toList == y49.Cell.Key.toList) && ((y47.Cell.Start == y49.Cell.Start) && true)))) && ((((y47.Agg.Count == y49.Agg.Count) && ((y47.Agg.Sum == y49.Agg.Sum) && ((y47.Agg.Min == y49.Agg.Min) && ((y47.Agg.Max == y49.Agg.Max) && true))))) && true))) = true →
  F.spatelaw2_GrownRows.j9 Q C1 C2 x0 x5 x8 x9 x10 true h) ∧
  ((!((((y47.Cell.View == y49.Cell.View) && ((y47.Cell.Key.toList == y49.Cell.Key.toList) && ((y47.Cell.Start == y49.Cell.Start) && true)))) && ((((y47.Agg.Count == y49.Agg.Count) && ((y47.Agg.Sum == y49.Agg.Sum) && ((y47.Agg.Min == y49.Agg.Min) && ((y47.Agg.Max == y49.Agg.Max) && true))))) && true))) = false →
  ((decide (x10 < x9)) = true →
  idxA x0 x8 1 fun a53 =>
  ldL h a53 fun y55 =>
  idxA y55 x10 7 fun a57 =>
  ld_S_api_Row h a57 fun y59 =>
  ld_S_api_Row h x11 fun y61 =>
  F.spatelaw2_GrownRows.j9 Q C1 C2 x0 x5 x8 x9 x10 (!((((y59.Cell.View == y61.Cell.View) && ((y59.Cell.Key.toList == y61.Cell.Key.toList) && ((y59.Cell.Start == y61.Cell.Start) && true)))) && ((((y59.Agg.Count == y61.Agg.Count) && ((y59.Agg.Sum == y61.Agg.Sum) && ((y59.Agg.Min == y61.Agg.Min) && ((y59.Agg.Max == y61.Agg.Max) && true))))) && true))) h) ∧
  ((decide (x10 < x9)) = false →
  F.spatelaw2_GrownRows.j9 Q C1 C2 x0 x5 x8 x9 x10 false h))
def F.spatelaw2_GrownRows.l6 (Q : Bool → H → Prop) (C1 : Sl → Sl → Int → H → Prop) : Nat → Sl → Sl → Int → Int → Int → H → Prop
  | 0, _, _, _, _, _, _ => False
  | q6 + 1, x0, x5, x8, x9, x10, h =>
    ((decide (x10 < (IntKind.wrap .i64 (x9 + 40)))) = true →
    new h (((⟨(⟨0, (⟨#[]⟩ : ByteArray), 0⟩ : S_api_Cell), (⟨0, 0, 0, 0⟩ : S_api_Agg)⟩ : S_api_Row) : S_api_Row).cells.toArray) ty_66 fun a38 h37 =>
    stH h37 a38 ((⟨(⟨x8, (⟨#[116, 111, 108, 100]⟩ : ByteArray), x10⟩ : S_api_Cell), (⟨0, 0, 0, 0⟩ : S_api_Agg)⟩ : S_api_Row).cells) fun h39 =>
    ((decide (x10 ≥ x9)) = true →
    stH h39 a38 ((⟨(⟨x8, (⟨#[109, 111, 114, 101]⟩ : ByteArray), (IntKind.wrap .i64 (x10 - x9))⟩ : S_api_Cell), (⟨0, 0, 0, 0⟩ : S_api_Agg)⟩ : S_api_Row).cells) fun h64 =>
    F.spatelaw2_GrownRows.j8 Q C1 (F.spatelaw2_GrownRows.l6 Q C1 q6) x0 x5 x8 x9 x10 a38 h64) ∧
    ((decide (x10 ≥ x9)) = false →
    F.spatelaw2_GrownRows.j8 Q C1 (F.spatelaw2_GrownRows.l6 Q C1 q6) x0 x5 x8 x9 x10 a38 h39)) ∧
    ((decide (x10 < (IntKind.wrap .i64 (x9 + 40)))) = false →
    C1 x0 x5 (IntKind.wrap .i64 (x8 + 1)) h)
def F.spatelaw2_GrownRows.l5 (Q : Bool → H → Prop) : Nat → Sl → Sl → Int → H → Prop
  | 0, _, _, _, _ => False
  | q5 + 1, x0, x5, x8, h =>
    ((decide (x8 < (x0.len : Int))) = true →
    idxA x0 x8 1 fun a32 =>
    ldL h a32 fun y34 =>
    ∃ m, F.spatelaw2_GrownRows.l6 Q (F.spatelaw2_GrownRows.l5 Q q5) m x0 x5 x8 (y34.len : Int) 0 h) ∧
    ((decide (x8 < (x0.len : Int))) = false →
    Q true h)
def F.spatelaw2_GrownRows.l3 (Q : Bool → H → Prop) : Nat → Sl → Sl → Int → H → Prop
  | 0, _, _, _, _ => False
  | q3 + 1, x0, x5, x6, h =>
    ((decide (x6 < 40)) = true →
    ∃ m, F.spatelaw2_GrownRows.l4 Q (F.spatelaw2_GrownRows.l3 Q q3) m x0 x5 x6 0 h) ∧
    ((decide (x6 < 40)) = false →
    ∃ m, F.spatelaw2_GrownRows.l5 Q m x0 x5 0 h)
def F.spatelaw2_GrownRows.l1 (Q : Bool → H → Prop) : Nat → Sl → Int → H → Prop
  | 0, _, _, _ => False
  | q1 + 1, x0, x3, h =>
    ((decide (x3 < (x0.len : Int))) = true →
    ∃ m, F.spatelaw2_GrownRows.l2 Q (F.spatelaw2_GrownRows.l1 Q q1) m x0 x3 0 h) ∧
    ((decide (x3 < (x0.len : Int))) = false →
    runL PP (Builtin.append_ #[53, 53] 53 #[(⟨none, 0, 0⟩ : Sl).enc, x0.enc]) h fun s16 h15 =>
    ∃ m, F.spatelaw2_GrownRows.l3 Q m x0 s16 0 h15)
/-- spate/spatelaw2.GrownRows -/
def F.spatelaw2_GrownRows (p0 : Sl) (h : H) (Q : Bool → H → Prop) : Prop :=
  ∃ m, F.spatelaw2_GrownRows.l1 Q m p0 0 h
theorem F.spatelaw2_GrownRows_ok {p0 : Sl} {h : H} {Q : Bool → H → Prop} (H : F.spatelaw2_GrownRows p0 h Q) : Fn PP 36 ([p0.enc] : List Value).toArray h fun r h' => ∃ r0, r = (.bool r0) ∧ Q r0 h' := by
  unfold F.spatelaw2_GrownRows at H
  refine fn_of Try.func36 Try.ntmps36 rfl rfl fun w0 => ?_
  refine tr_sub [(0, p0.enc)] ⟨rfl, trivial⟩ ?_
  refine tr_seq ?_
  refine tr_region ?_
  refine tr_p (y_assign rfl) rfl rfl ?_
  refine tr_nil ?_
  refine tr_thenN ?_
  refine tr_seq ?_
  refine tr_seq ?_
  refine tr_region ?_
  refine tr_p (y_assign rfl) rfl rfl ?_
  refine tr_nil ?_
  refine tr_thenN ?_
  refine tr_block ?_
  obtain ⟨m68, H⟩ := H
  refine tr_sub [(0, p0.enc), (3, (.int .i64 0))] ⟨rfl, rfl, trivial⟩ ?_
  refine tr_loop_j (fun m L' h => ∃ (x0 : Sl) (x3 : Int), L' = [(0, x0.enc), (3, (.int .i64 x3))] ∧ F.spatelaw2_GrownRows.l1 Q m x0 x3 h) ?_ ?_ m68 ⟨_, _, rfl, H⟩
  · rintro L' h ⟨_, _, _, H⟩; exact H
  · rintro q1 L' h ⟨x0, x3, rfl, H⟩
    unfold F.spatelaw2_GrownRows.l1 at H
    refine tr_seq ?_
    refine tr_seq ?_
    refine tr_region ?_
    refine tr_p (y_move rfl) rfl rfl ?_
    refine tr_p (y_move rfl) rfl rfl ?_
    refine tr_p (y_len (ts := #[]) Try.runUnderlying53 (o := x0.ptr) (n := x0.len) (cap := x0.cap) rfl) rfl rfl ?_
    refine tr_p (y_lss rfl rfl) rfl rfl ?_
    refine tr_nil ?_
    refine tr_thenN ?_
    refine tr_cond rfl (fun g1 => ?_) (fun g1 => ?_)
    · replace H := H.1 g1
      refine tr_skip ?_
      refine tr_thenN ?_
      refine tr_seq ?_
      refine tr_block ?_
      refine tr_seq ?_
      refine tr_region ?_
      refine tr_p (y_assign rfl) rfl rfl ?_
      refine tr_nil ?_
      refine tr_thenN ?_
      refine tr_block ?_
      obtain ⟨m14, H⟩ := H
      refine tr_sub [(0, x0.enc), (3, (.int .i64 x3)), (4, (.int .i64 0))] ⟨rfl, rfl, rfl, trivial⟩ ?_
      refine tr_loop_j (fun m L' h => ∃ (x0 : Sl) (x3 : Int) (x4 : Int), L' = [(0, x0.enc), (3, (.int .i64 x3)), (4, (.int .i64 x4))] ∧ F.spatelaw2_GrownRows.l2 Q (F.spatelaw2_GrownRows.l1 Q q1) m x0 x3 x4 h) ?_ ?_ m14 ⟨_, _, _, rfl, H⟩
      · rintro L' h ⟨_, _, _, _, H⟩; exact H
      · rintro q2 L' h ⟨x0, x3, x4, rfl, H⟩
        unfold F.spatelaw2_GrownRows.l2 at H
        refine tr_seq ?_
        refine tr_seq ?_
        refine tr_region ?_
        refine tr_p (y_move rfl) rfl rfl ?_
        refine tr_p (y_move rfl) rfl rfl ?_
        refine tr_p (y_move rfl) rfl rfl ?_
        obtain ⟨a2, e3, H⟩ := H
        refine tr_p (f_idx (s := x0) Try.runUnderlying53 Try.sizeOf51 rfl rfl e3) rfl rfl ?_
        obtain ⟨y4, k5, H⟩ := H
        refine tr_h (y_ld Try.isAgg51 rfl) k5 rfl rfl ?_
        refine tr_p (y_len (ts := #[]) Try.runUnderlying51 (o := y4.ptr) (n := y4.len) (cap := y4.cap) rfl) rfl rfl ?_
        refine tr_p (y_lss rfl rfl) rfl rfl ?_
        refine tr_nil ?_
        refine tr_thenN ?_
        refine tr_cond rfl (fun g6 => ?_) (fun g6 => ?_)
        · replace H := H.1 g6
          refine tr_skip ?_
          refine tr_thenN ?_
          refine tr_seq ?_
          refine tr_block ?_
          refine tr_region ?_
          refine tr_p (y_move rfl) rfl rfl ?_
          refine tr_p (y_move rfl) rfl rfl ?_
          obtain ⟨a7, e8, H⟩ := H
          refine tr_p (f_idx (s := x0) Try.runUnderlying53 Try.sizeOf51 rfl rfl e8) rfl rfl ?_
          obtain ⟨y9, k10, H⟩ := H
          refine tr_h (y_ld Try.isAgg51 rfl) k10 rfl rfl ?_
          refine tr_p (y_move rfl) rfl rfl ?_
          refine tr_p (y_move rfl) rfl rfl ?_
          refine tr_p (y_move rfl) rfl rfl ?_
          refine tr_p (f_build rfl (bd_34_0_1_2 x3 (⟨#[116, 111, 108, 100]⟩ : ByteArray) x4)) rfl rfl ?_
          refine tr_p (f_build rfl (bd_66_0 (⟨x3, (⟨#[116, 111, 108, 100]⟩ : ByteArray), x4⟩ : S_api_Cell))) rfl rfl ?_
          obtain ⟨a11, e12, H⟩ := H
          refine tr_p (f_idx (s := y9) Try.runUnderlying51 Try.sizeOf66 rfl rfl e12) rfl rfl ?_
          refine tr_e (f_store (vs := (⟨(⟨x3, (⟨#[116, 111, 108, 100]⟩ : ByteArray), x4⟩ : S_api_Cell), (⟨0, 0, 0, 0⟩ : S_api_Agg)⟩ : S_api_Row).cells) Try.sizeOf66 rfl rfl cellsOfStruct rfl (by intro v hv; exact ones_S_api_Row _ v hv) H) rfl rfl ?_
          rintro _ h13 ⟨rfl, H⟩
          refine tr_nil ?_
          refine tr_blockN ?_
          refine tr_thenN ?_
          refine tr_region ?_
          refine tr_p (y_move rfl) rfl rfl ?_
          refine tr_p (y_add rfl rfl) rfl rfl ?_
          refine tr_p (y_assign rfl) rfl rfl ?_
          refine tr_nil ?_
          refine tr_thenN ?_
          exact tr_join [(0, x0.enc), (3, (.int .i64 x3)), (4, (.int .i64 (IntKind.wrap .i64 (x4 + 1))))] ⟨rfl, rfl, rfl, trivial⟩ ⟨_, _, _, rfl, H⟩
        · replace H := H.2 g6
          refine tr_exit ?_
          refine tr_thenE ?_
          refine tr_thenE ?_
          refine tr_hit ?_
          refine tr_blockN ?_
          refine tr_thenN ?_
          refine tr_region ?_
          refine tr_p (y_move rfl) rfl rfl ?_
          refine tr_p (y_add rfl rfl) rfl rfl ?_
          refine tr_p (y_assign rfl) rfl rfl ?_
          refine tr_nil ?_
          refine tr_thenN ?_
          exact tr_join [(0, x0.enc), (3, (.int .i64 (IntKind.wrap .i64 (x3 + 1))))] ⟨rfl, rfl, trivial⟩ ⟨_, _, rfl, H⟩
    · replace H := H.2 g1
      refine tr_exit ?_
      refine tr_thenE ?_
      refine tr_thenE ?_
      refine tr_hit ?_
      refine tr_thenN ?_
      refine tr_seq ?_
      refine tr_region ?_
      refine tr_p (y_assign rfl) rfl rfl ?_
      refine tr_nil ?_
      refine tr_thenN ?_
      refine tr_seq ?_
      refine tr_region ?_
      refine tr_p (y_move rfl) rfl rfl ?_
      refine tr_p (y_move rfl) rfl rfl ?_
      refine tr_e (f_app rfl H) rfl rfl ?_
      rintro _ h15 ⟨s16, rfl, H⟩
      refine tr_p (y_assign rfl) rfl rfl ?_
      refine tr_nil ?_
      refine tr_thenN ?_
      refine tr_seq ?_
      refine tr_seq ?_
      refine tr_region ?_
      refine tr_p (y_assign rfl) rfl rfl ?_
      refine tr_nil ?_
      refine tr_thenN ?_
      refine tr_block ?_
      obtain ⟨m67, H⟩ := H
      refine tr_sub [(0, x0.enc), (5, s16.enc), (6, (.int .i64 0))] ⟨rfl, rfl, rfl, trivial⟩ ?_
      refine tr_loop_j (fun m L' h => ∃ (x0 : Sl) (x5 : Sl) (x6 : Int), L' = [(0, x0.enc), (5, x5.enc), (6, (.int .i64 x6))] ∧ F.spatelaw2_GrownRows.l3 Q m x0 x5 x6 h) ?_ ?_ m67 ⟨_, _, _, rfl, H⟩
      · rintro L' h ⟨_, _, _, _, H⟩; exact H
      · rintro q3 L' h ⟨x0, x5, x6, rfl, H⟩
        unfold F.spatelaw2_GrownRows.l3 at H
        refine tr_seq ?_
        refine tr_seq ?_
        refine tr_region ?_
        refine tr_p (y_move rfl) rfl rfl ?_
        refine tr_p (y_lss rfl rfl) rfl rfl ?_
        refine tr_nil ?_
        refine tr_thenN ?_
        refine tr_cond rfl (fun g17 => ?_) (fun g17 => ?_)
        · replace H := H.1 g17
          refine tr_skip ?_
          refine tr_thenN ?_
          refine tr_seq ?_
          refine tr_block ?_
          refine tr_seq ?_
          refine tr_region ?_
          refine tr_p (y_assign rfl) rfl rfl ?_
          refine tr_nil ?_
          refine tr_thenN ?_
          refine tr_block ?_
          obtain ⟨m30, H⟩ := H
          refine tr_sub [(0, x0.enc), (5, x5.enc), (6, (.int .i64 x6)), (7, (.int .i64 0))] ⟨rfl, rfl, rfl, rfl, trivial⟩ ?_
          refine tr_loop_j (fun m L' h => ∃ (x0 : Sl) (x5 : Sl) (x6 : Int) (x7 : Int), L' = [(0, x0.enc), (5, x5.enc), (6, (.int .i64 x6)), (7, (.int .i64 x7))] ∧ F.spatelaw2_GrownRows.l4 Q (F.spatelaw2_GrownRows.l3 Q q3) m x0 x5 x6 x7 h) ?_ ?_ m30 ⟨_, _, _, _, rfl, H⟩
          · rintro L' h ⟨_, _, _, _, _, H⟩; exact H
          · rintro q4 L' h ⟨x0, x5, x6, x7, rfl, H⟩
            unfold F.spatelaw2_GrownRows.l4 at H
            refine tr_seq ?_
            refine tr_seq ?_
            refine tr_region ?_
            refine tr_p (y_move rfl) rfl rfl ?_
            refine tr_p (y_move rfl) rfl rfl ?_
            refine tr_p (y_len (ts := #[]) Try.runUnderlying53 (o := x0.ptr) (n := x0.len) (cap := x0.cap) rfl) rfl rfl ?_
            refine tr_p (y_lss rfl rfl) rfl rfl ?_
            refine tr_nil ?_
            refine tr_thenN ?_
            refine tr_cond rfl (fun g18 => ?_) (fun g18 => ?_)
            · replace H := H.1 g18
              refine tr_skip ?_
              refine tr_thenN ?_
              refine tr_seq ?_
              refine tr_block ?_
              refine tr_region ?_
              refine tr_p (y_move rfl) rfl rfl ?_
              refine tr_p (y_move rfl) rfl rfl ?_
              refine tr_p (y_move rfl) rfl rfl ?_
              refine tr_p (y_move rfl) rfl rfl ?_
              obtain ⟨a19, e20, H⟩ := H
              refine tr_p (f_idx (s := x5) Try.runUnderlying53 Try.sizeOf51 rfl rfl e20) rfl rfl ?_
              obtain ⟨y21, k22, H⟩ := H
              refine tr_h (y_ld Try.isAgg51 rfl) k22 rfl rfl ?_
              refine tr_p (y_move rfl) rfl rfl ?_
              refine tr_p (y_move rfl) rfl rfl ?_
              refine tr_p (f_build rfl (bd_34_0_1_2 x7 (⟨#[109, 111, 114, 101]⟩ : ByteArray) x6)) rfl rfl ?_
              refine tr_p (f_build rfl (bd_66_0 (⟨x7, (⟨#[109, 111, 114, 101]⟩ : ByteArray), x6⟩ : S_api_Cell))) rfl rfl ?_
              refine tr_e (f_buildL (cs := ((⟨(⟨x7, (⟨#[109, 111, 114, 101]⟩ : ByteArray), x6⟩ : S_api_Cell), (⟨0, 0, 0, 0⟩ : S_api_Agg)⟩ : S_api_Row).cells).toArray) rfl rfl (bl_51_1_0 (⟨(⟨x7, (⟨#[109, 111, 114, 101]⟩ : ByteArray), x6⟩ : S_api_Cell), (⟨0, 0, 0, 0⟩ : S_api_Agg)⟩ : S_api_Row)) H) rfl rfl ?_
              rintro _ h23 ⟨s24, rfl, H⟩
              refine tr_e (f_app rfl H) rfl rfl ?_
              rintro _ h25 ⟨s26, rfl, H⟩
              obtain ⟨a27, e28, H⟩ := H
              refine tr_p (f_idx (s := x5) Try.runUnderlying53 Try.sizeOf51 rfl rfl e28) rfl rfl ?_
              refine tr_e (f_store (vs := [s26.enc]) Try.sizeOf51 rfl rfl rfl rfl (one1 rfl) H) rfl rfl ?_
              rintro _ h29 ⟨rfl, H⟩
              refine tr_nil ?_
              refine tr_blockN ?_
              refine tr_thenN ?_
              refine tr_region ?_
              refine tr_p (y_move rfl) rfl rfl ?_
              refine tr_p (y_add rfl rfl) rfl rfl ?_
              refine tr_p (y_assign rfl) rfl rfl ?_
              refine tr_nil ?_
              refine tr_thenN ?_
              exact tr_join [(0, x0.enc), (5, x5.enc), (6, (.int .i64 x6)), (7, (.int .i64 (IntKind.wrap .i64 (x7 + 1))))] ⟨rfl, rfl, rfl, rfl, trivial⟩ ⟨_, _, _, _, rfl, H⟩
            · replace H := H.2 g18
              refine tr_exit ?_
              refine tr_thenE ?_
              refine tr_thenE ?_
              refine tr_hit ?_
              refine tr_blockN ?_
              refine tr_thenN ?_
              refine tr_region ?_
              refine tr_p (y_move rfl) rfl rfl ?_
              refine tr_p (y_add rfl rfl) rfl rfl ?_
              refine tr_p (y_assign rfl) rfl rfl ?_
              refine tr_nil ?_
              refine tr_thenN ?_
              exact tr_join [(0, x0.enc), (5, x5.enc), (6, (.int .i64 (IntKind.wrap .i64 (x6 + 1))))] ⟨rfl, rfl, rfl, trivial⟩ ⟨_, _, _, rfl, H⟩
        · replace H := H.2 g17
          refine tr_exit ?_
          refine tr_thenE ?_
          refine tr_thenE ?_
          refine tr_hit ?_
          refine tr_thenN ?_
          refine tr_seq ?_
          refine tr_seq ?_
          refine tr_region ?_
          refine tr_p (y_assign rfl) rfl rfl ?_
          refine tr_nil ?_
          refine tr_thenN ?_
          refine tr_block ?_
          obtain ⟨m66, H⟩ := H
          refine tr_sub [(0, x0.enc), (5, x5.enc), (8, (.int .i64 0))] ⟨rfl, rfl, rfl, trivial⟩ ?_
          refine tr_loop_j (fun m L' h => ∃ (x0 : Sl) (x5 : Sl) (x8 : Int), L' = [(0, x0.enc), (5, x5.enc), (8, (.int .i64 x8))] ∧ F.spatelaw2_GrownRows.l5 Q m x0 x5 x8 h) ?_ ?_ m66 ⟨_, _, _, rfl, H⟩
          · rintro L' h ⟨_, _, _, _, H⟩; exact H
          · rintro q5 L' h ⟨x0, x5, x8, rfl, H⟩
            unfold F.spatelaw2_GrownRows.l5 at H
            refine tr_seq ?_
            refine tr_seq ?_
            refine tr_region ?_
            refine tr_p (y_move rfl) rfl rfl ?_
            refine tr_p (y_move rfl) rfl rfl ?_
            refine tr_p (y_len (ts := #[]) Try.runUnderlying53 (o := x0.ptr) (n := x0.len) (cap := x0.cap) rfl) rfl rfl ?_
            refine tr_p (y_lss rfl rfl) rfl rfl ?_
            refine tr_nil ?_
            refine tr_thenN ?_
            refine tr_cond rfl (fun g31 => ?_) (fun g31 => ?_)
            · replace H := H.1 g31
              refine tr_skip ?_
              refine tr_thenN ?_
              refine tr_seq ?_
              refine tr_block ?_
              refine tr_seq ?_
              refine tr_region ?_
              refine tr_p (y_move rfl) rfl rfl ?_
              refine tr_p (y_move rfl) rfl rfl ?_
              obtain ⟨a32, e33, H⟩ := H
              refine tr_p (f_idx (s := x0) Try.runUnderlying53 Try.sizeOf51 rfl rfl e33) rfl rfl ?_
              obtain ⟨y34, k35, H⟩ := H
              refine tr_h (y_ld Try.isAgg51 rfl) k35 rfl rfl ?_
              refine tr_p (y_len (ts := #[]) Try.runUnderlying51 (o := y34.ptr) (n := y34.len) (cap := y34.cap) rfl) rfl rfl ?_
              refine tr_p (y_assign rfl) rfl rfl ?_
              refine tr_nil ?_
              refine tr_thenN ?_
              refine tr_seq ?_
              refine tr_region ?_
              refine tr_p (y_assign rfl) rfl rfl ?_
              refine tr_nil ?_
              refine tr_thenN ?_
              refine tr_block ?_
              obtain ⟨m65, H⟩ := H
              refine tr_sub [(0, x0.enc), (5, x5.enc), (8, (.int .i64 x8)), (9, (.int .i64 (y34.len : Int))), (10, (.int .i64 0))] ⟨rfl, rfl, rfl, rfl, rfl, trivial⟩ ?_
              refine tr_loop_j (fun m L' h => ∃ (x0 : Sl) (x5 : Sl) (x8 : Int) (x9 : Int) (x10 : Int), L' = [(0, x0.enc), (5, x5.enc), (8, (.int .i64 x8)), (9, (.int .i64 x9)), (10, (.int .i64 x10))] ∧ F.spatelaw2_GrownRows.l6 Q (F.spatelaw2_GrownRows.l5 Q q5) m x0 x5 x8 x9 x10 h) ?_ ?_ m65 ⟨_, _, _, _, _, rfl, H⟩
              · rintro L' h ⟨_, _, _, _, _, _, H⟩; exact H
              · rintro q6 L' h ⟨x0, x5, x8, x9, x10, rfl, H⟩
                unfold F.spatelaw2_GrownRows.l6 at H
                refine tr_seq ?_
                refine tr_seq ?_
                refine tr_region ?_
                refine tr_p (y_move rfl) rfl rfl ?_
                refine tr_p (y_move rfl) rfl rfl ?_
                refine tr_p (y_add rfl rfl) rfl rfl ?_
                refine tr_p (y_lss rfl rfl) rfl rfl ?_
                refine tr_nil ?_
                refine tr_thenN ?_
                refine tr_cond rfl (fun g36 => ?_) (fun g36 => ?_)
                · replace H := H.1 g36
                  refine tr_skip ?_
                  refine tr_thenN ?_
                  refine tr_seq_j (fun L' h => ∃ (x0 : Sl) (x5 : Sl) (x8 : Int) (x9 : Int) (x10 : Int), L' = [(0, x0.enc), (5, x5.enc), (8, (.int .i64 x8)), (9, (.int .i64 x9)), (10, (.int .i64 x10))] ∧ F.spatelaw2_GrownRows.j7 Q (F.spatelaw2_GrownRows.l5 Q q5) (F.spatelaw2_GrownRows.l6 Q (F.spatelaw2_GrownRows.l5 Q q5) q6) x0 x5 x8 x9 x10 h) ?_ ?_
                  · rintro L' h ⟨x0, x5, x8, x9, x10, rfl, H⟩
                    unfold F.spatelaw2_GrownRows.j7 at H
                    refine tr_region ?_
                    refine tr_p (y_move rfl) rfl rfl ?_
                    refine tr_p (y_add rfl rfl) rfl rfl ?_
                    refine tr_p (y_assign rfl) rfl rfl ?_
                    refine tr_nil ?_
                    refine tr_thenN ?_
                    exact tr_join [(0, x0.enc), (5, x5.enc), (8, (.int .i64 x8)), (9, (.int .i64 x9)), (10, (.int .i64 (IntKind.wrap .i64 (x10 + 1))))] ⟨rfl, rfl, rfl, rfl, rfl, trivial⟩ ⟨_, _, _, _, _, rfl, H⟩
                  · refine tr_block ?_
                    refine tr_seq ?_
                    refine tr_region ?_
                    refine tr_p (y_move rfl) rfl rfl ?_
                    refine tr_p (y_move rfl) rfl rfl ?_
                    refine tr_p (f_build rfl (bd_34_0_1_2 x8 (⟨#[116, 111, 108, 100]⟩ : ByteArray) x10)) rfl rfl ?_
                    refine tr_p (f_build rfl (bd_66_0 (⟨x8, (⟨#[116, 111, 108, 100]⟩ : ByteArray), x10⟩ : S_api_Cell))) rfl rfl ?_
                    refine tr_e (f_alloc (cs := ((⟨(⟨0, (⟨#[]⟩ : ByteArray), 0⟩ : S_api_Cell), (⟨0, 0, 0, 0⟩ : S_api_Agg)⟩ : S_api_Row) : S_api_Row).cells.toArray) Try.zeroValue66 rfl H) rfl rfl ?_
                    rintro _ h37 ⟨a38, rfl, H⟩
                    refine tr_e (f_store (vs := (⟨(⟨x8, (⟨#[116, 111, 108, 100]⟩ : ByteArray), x10⟩ : S_api_Cell), (⟨0, 0, 0, 0⟩ : S_api_Agg)⟩ : S_api_Row).cells) Try.sizeOf66 rfl rfl cellsOfStruct rfl (by intro v hv; exact ones_S_api_Row _ v hv) H) rfl rfl ?_
                    rintro _ h39 ⟨rfl, H⟩
                    refine tr_nil ?_
                    refine tr_thenN ?_
                    refine tr_seq_j (fun L' h => ∃ (x0 : Sl) (x5 : Sl) (x8 : Int) (x9 : Int) (x10 : Int) (x11 : Addr), L' = [(0, x0.enc), (5, x5.enc), (8, (.int .i64 x8)), (9, (.int .i64 x9)), (10, (.int .i64 x10)), (11, (.pointer (some x11)))] ∧ F.spatelaw2_GrownRows.j8 Q (F.spatelaw2_GrownRows.l5 Q q5) (F.spatelaw2_GrownRows.l6 Q (F.spatelaw2_GrownRows.l5 Q q5) q6) x0 x5 x8 x9 x10 x11 h) ?_ ?_
                    · rintro L' h ⟨x0, x5, x8, x9, x10, x11, rfl, H⟩
                      unfold F.spatelaw2_GrownRows.j8 at H
                      refine tr_seq_j (fun L' h => ∃ (x0 : Sl) (x5 : Sl) (x8 : Int) (x9 : Int) (x10 : Int) (x117 : Bool), L' = [(0, x0.enc), (5, x5.enc), (8, (.int .i64 x8)), (9, (.int .i64 x9)), (10, (.int .i64 x10)), (117, (.bool x117))] ∧ F.spatelaw2_GrownRows.j9 Q (F.spatelaw2_GrownRows.l5 Q q5) (F.spatelaw2_GrownRows.l6 Q (F.spatelaw2_GrownRows.l5 Q q5) q6) x0 x5 x8 x9 x10 x117 h) ?_ ?_
                      · rintro L' h ⟨x0, x5, x8, x9, x10, x117, rfl, H⟩
                        unfold F.spatelaw2_GrownRows.j9 at H
                        refine tr_cond rfl (fun g40 => ?_) (fun g40 => ?_)
                        · replace H := H.1 g40
                          refine tr_seq ?_
                          refine tr_region ?_
                          refine tr_p (y_assign rfl) rfl rfl ?_
                          refine tr_nil ?_
                          refine tr_thenN ?_
                          refine tr_ret ?_
                          refine tr_blockR ?_
                          refine tr_thenR ?_
                          refine tr_thenR ?_
                          refine tr_blockR ?_
                          refine tr_blockR ?_
                          refine tr_thenR ?_
                          refine tr_thenR ?_
                          refine tr_blockR ?_
                          refine tr_thenR ?_
                          exact tr_ret1 rfl rfl ⟨_, rfl, H⟩
                        · replace H := H.2 g40
                          refine tr_skip ?_
                          refine tr_blockN ?_
                          refine tr_thenN ?_
                          exact tr_join [(0, x0.enc), (5, x5.enc), (8, (.int .i64 x8)), (9, (.int .i64 x9)), (10, (.int .i64 x10))] ⟨rfl, rfl, rfl, rfl, rfl, trivial⟩ ⟨_, _, _, _, _, rfl, H⟩
                      · refine tr_draw mixed [0, 0, 3, 7, 0, 31, 63, 0, 255, 511, 1023, 1023, 4095, 8191, 16383, 16383, 65535, 131071, 16383, 524287, 1048575, 16383, 4194303, 8388607, 16777215] (by kernel_rfl) ?_
                        refine g_p 0 1 rfl (by kernel_rfl) (y_move rfl) rfl rfl ?_
                        refine g_p 1 3 rfl (by kernel_rfl) (y_move rfl) rfl rfl ?_
                        obtain ⟨a41, e42, H⟩ := H
                        refine g_p 2 7 rfl (by kernel_rfl) (f_idx (s := x5) Try.runUnderlying53 Try.sizeOf51 rfl rfl e42) rfl rfl ?_
                        obtain ⟨y43, k44, H⟩ := H
                        refine g_h 3 15 rfl (by kernel_rfl) (y_ld Try.isAgg51 rfl) k44 rfl rfl ?_
                        refine g_p 4 31 rfl (by kernel_rfl) (y_move rfl) rfl rfl ?_
                        obtain ⟨a45, e46, H⟩ := H
                        refine g_p 5 63 rfl (by kernel_rfl) (f_idx (s := y43) Try.runUnderlying51 Try.sizeOf66 rfl rfl e46) rfl rfl ?_
                        obtain ⟨y47, k48, H⟩ := H
                        refine g_h 6 127 rfl (by kernel_rfl) (y_ldS Try.isAgg66 Try.sizeOf66 rfl rfl) k48 rfl rfl ?_
                        obtain ⟨y49, k50, H⟩ := H
                        refine g_h 7 255 rfl (by kernel_rfl) (y_ldS Try.isAgg66 Try.sizeOf66 rfl rfl) k50 rfl rfl ?_
                        refine g_p 8 511 rfl (by kernel_rfl) (st_neq (b := ((((y47.Cell.View == y49.Cell.View) && ((y47.Cell.Key.toList == y49.Cell.Key.toList) && ((y47.Cell.Start == y49.Cell.Start) && true)))) && ((((y47.Agg.Count == y49.Agg.Count) && ((y47.Agg.Sum == y49.Agg.Sum) && ((y47.Agg.Min == y49.Agg.Min) && ((y47.Agg.Max == y49.Agg.Max) && true))))) && true))) eqg_66 (fun w => eqst_66 y47 y49 9997 w) rfl rfl) rfl rfl ?_
                        refine g_p 9 1023 rfl (by kernel_rfl) (y_move rfl) rfl rfl ?_
                        refine g_split (t := 102) rfl (fun g51 => ?_) (fun g51 => ?_)
                        · replace H := H.1 g51
                          refine g_s 10 2047 rfl (by kernel_rfl) rfl rfl ?_
                          refine g_s 11 4095 rfl (by kernel_rfl) rfl rfl ?_
                          refine g_s 12 8191 rfl (by kernel_rfl) rfl rfl ?_
                          refine g_s 13 16383 rfl (by kernel_rfl) rfl rfl ?_
                          refine g_s 14 32767 rfl (by kernel_rfl) rfl rfl ?_
                          refine g_s 15 65535 rfl (by kernel_rfl) rfl rfl ?_
                          refine g_s 16 131071 rfl (by kernel_rfl) rfl rfl ?_
                          refine g_s 17 262143 rfl (by kernel_rfl) rfl rfl ?_
                          refine g_s 18 524287 rfl (by kernel_rfl) rfl rfl ?_
                          refine g_s 19 1048575 rfl (by kernel_rfl) rfl rfl ?_
                          refine g_s 20 2097151 rfl (by kernel_rfl) rfl rfl ?_
                          refine g_s 21 4194303 rfl (by kernel_rfl) rfl rfl ?_
                          refine g_s 22 8388607 rfl (by kernel_rfl) rfl rfl ?_
                          refine g_s 23 16777215 rfl (by kernel_rfl) rfl rfl ?_
                          refine g_p 24 33554431 rfl (by kernel_rfl) (y_pick_t rfl rfl) rfl rfl ?_
                          refine g_d (by kernel_rfl) ?_
                          refine tr_thenN ?_
                          exact tr_join [(0, x0.enc), (5, x5.enc), (8, (.int .i64 x8)), (9, (.int .i64 x9)), (10, (.int .i64 x10)), (117, (.bool true))] ⟨rfl, rfl, rfl, rfl, rfl, rfl, trivial⟩ ⟨_, _, _, _, _, _, rfl, H⟩
                        · replace H := H.2 g51
                          refine g_p 10 2047 rfl (by kernel_rfl) (y_move rfl) rfl rfl ?_
                          refine g_p 11 4095 rfl (by kernel_rfl) (y_move rfl) rfl rfl ?_
                          refine g_p 12 8191 rfl (by kernel_rfl) (y_lss rfl rfl) rfl rfl ?_
                          refine g_p 13 16383 rfl (by kernel_rfl) (y_move rfl) rfl rfl ?_
                          refine g_split (t := 106) rfl (fun g52 => ?_) (fun g52 => ?_)
                          · replace H := H.1 g52
                            refine g_p 14 32767 rfl (by kernel_rfl) (y_move rfl) rfl rfl ?_
                            refine g_p 15 65535 rfl (by kernel_rfl) (y_move rfl) rfl rfl ?_
                            obtain ⟨a53, e54, H⟩ := H
                            refine g_p 16 131071 rfl (by kernel_rfl) (f_idx (s := x0) Try.runUnderlying53 Try.sizeOf51 rfl rfl e54) rfl rfl ?_
                            obtain ⟨y55, k56, H⟩ := H
                            refine g_h 17 262143 rfl (by kernel_rfl) (y_ld Try.isAgg51 rfl) k56 rfl rfl ?_
                            refine g_p 18 524287 rfl (by kernel_rfl) (y_move rfl) rfl rfl ?_
                            obtain ⟨a57, e58, H⟩ := H
                            refine g_p 19 1048575 rfl (by kernel_rfl) (f_idx (s := y55) Try.runUnderlying51 Try.sizeOf66 rfl rfl e58) rfl rfl ?_
                            obtain ⟨y59, k60, H⟩ := H
                            refine g_h 20 2097151 rfl (by kernel_rfl) (y_ldS Try.isAgg66 Try.sizeOf66 rfl rfl) k60 rfl rfl ?_
                            obtain ⟨y61, k62, H⟩ := H
                            refine g_h 21 4194303 rfl (by kernel_rfl) (y_ldS Try.isAgg66 Try.sizeOf66 rfl rfl) k62 rfl rfl ?_
                            refine g_p 22 8388607 rfl (by kernel_rfl) (st_neq (b := ((((y59.Cell.View == y61.Cell.View) && ((y59.Cell.Key.toList == y61.Cell.Key.toList) && ((y59.Cell.Start == y61.Cell.Start) && true)))) && ((((y59.Agg.Count == y61.Agg.Count) && ((y59.Agg.Sum == y61.Agg.Sum) && ((y59.Agg.Min == y61.Agg.Min) && ((y59.Agg.Max == y61.Agg.Max) && true))))) && true))) eqg_66 (fun w => eqst_66 y59 y61 9997 w) rfl rfl) rfl rfl ?_
                            refine g_p 23 16777215 rfl (by kernel_rfl) (y_pick_t rfl rfl) rfl rfl ?_
                            refine g_p 24 33554431 rfl (by kernel_rfl) (y_pick_f rfl rfl) rfl rfl ?_
                            refine g_d (by kernel_rfl) ?_
                            refine tr_thenN ?_
                            exact tr_join [(0, x0.enc), (5, x5.enc), (8, (.int .i64 x8)), (9, (.int .i64 x9)), (10, (.int .i64 x10)), (117, (.bool (!((((y59.Cell.View == y61.Cell.View) && ((y59.Cell.Key.toList == y61.Cell.Key.toList) && ((y59.Cell.Start == y61.Cell.Start) && true)))) && ((((y59.Agg.Count == y61.Agg.Count) && ((y59.Agg.Sum == y61.Agg.Sum) && ((y59.Agg.Min == y61.Agg.Min) && ((y59.Agg.Max == y61.Agg.Max) && true))))) && true)))))] ⟨rfl, rfl, rfl, rfl, rfl, rfl, trivial⟩ ⟨_, _, _, _, _, _, rfl, H⟩
                          · replace H := H.2 g52
                            refine g_s 14 32767 rfl (by kernel_rfl) rfl rfl ?_
                            refine g_s 15 65535 rfl (by kernel_rfl) rfl rfl ?_
                            refine g_s 16 131071 rfl (by kernel_rfl) rfl rfl ?_
                            refine g_s 17 262143 rfl (by kernel_rfl) rfl rfl ?_
                            refine g_s 18 524287 rfl (by kernel_rfl) rfl rfl ?_
                            refine g_s 19 1048575 rfl (by kernel_rfl) rfl rfl ?_
                            refine g_s 20 2097151 rfl (by kernel_rfl) rfl rfl ?_
                            refine g_s 21 4194303 rfl (by kernel_rfl) rfl rfl ?_
                            refine g_s 22 8388607 rfl (by kernel_rfl) rfl rfl ?_
                            refine g_p 23 16777215 rfl (by kernel_rfl) (y_pick_f rfl rfl) rfl rfl ?_
                            refine g_p 24 33554431 rfl (by kernel_rfl) (y_pick_f rfl rfl) rfl rfl ?_
                            refine g_d (by kernel_rfl) ?_
                            refine tr_thenN ?_
                            exact tr_join [(0, x0.enc), (5, x5.enc), (8, (.int .i64 x8)), (9, (.int .i64 x9)), (10, (.int .i64 x10)), (117, (.bool false))] ⟨rfl, rfl, rfl, rfl, rfl, rfl, trivial⟩ ⟨_, _, _, _, _, _, rfl, H⟩
                    · refine tr_seq ?_
                      refine tr_region ?_
                      refine tr_p (y_move rfl) rfl rfl ?_
                      refine tr_p (y_move rfl) rfl rfl ?_
                      refine tr_p (y_geq rfl rfl) rfl rfl ?_
                      refine tr_nil ?_
                      refine tr_thenN ?_
                      refine tr_cond rfl (fun g63 => ?_) (fun g63 => ?_)
                      · replace H := H.1 g63
                        refine tr_region ?_
                        refine tr_p (y_move rfl) rfl rfl ?_
                        refine tr_p (y_move rfl) rfl rfl ?_
                        refine tr_p (y_move rfl) rfl rfl ?_
                        refine tr_p (y_sub rfl rfl) rfl rfl ?_
                        refine tr_p (f_build rfl (bd_34_0_1_2 x8 (⟨#[109, 111, 114, 101]⟩ : ByteArray) (IntKind.wrap .i64 (x10 - x9)))) rfl rfl ?_
                        refine tr_p (f_build rfl (bd_66_0 (⟨x8, (⟨#[109, 111, 114, 101]⟩ : ByteArray), (IntKind.wrap .i64 (x10 - x9))⟩ : S_api_Cell))) rfl rfl ?_
                        refine tr_e (f_store (vs := (⟨(⟨x8, (⟨#[109, 111, 114, 101]⟩ : ByteArray), (IntKind.wrap .i64 (x10 - x9))⟩ : S_api_Cell), (⟨0, 0, 0, 0⟩ : S_api_Agg)⟩ : S_api_Row).cells) Try.sizeOf66 rfl rfl cellsOfStruct rfl (by intro v hv; exact ones_S_api_Row _ v hv) H) rfl rfl ?_
                        rintro _ h64 ⟨rfl, H⟩
                        refine tr_nil ?_
                        refine tr_thenN ?_
                        exact tr_join [(0, x0.enc), (5, x5.enc), (8, (.int .i64 x8)), (9, (.int .i64 x9)), (10, (.int .i64 x10)), (11, (.pointer (some a38)))] ⟨rfl, rfl, rfl, rfl, rfl, rfl, trivial⟩ ⟨_, _, _, _, _, _, rfl, H⟩
                      · replace H := H.2 g63
                        refine tr_skip ?_
                        refine tr_thenN ?_
                        exact tr_join [(0, x0.enc), (5, x5.enc), (8, (.int .i64 x8)), (9, (.int .i64 x9)), (10, (.int .i64 x10)), (11, (.pointer (some a38)))] ⟨rfl, rfl, rfl, rfl, rfl, rfl, trivial⟩ ⟨_, _, _, _, _, _, rfl, H⟩
                · replace H := H.2 g36
                  refine tr_exit ?_
                  refine tr_thenE ?_
                  refine tr_thenE ?_
                  refine tr_hit ?_
                  refine tr_blockN ?_
                  refine tr_thenN ?_
                  refine tr_region ?_
                  refine tr_p (y_move rfl) rfl rfl ?_
                  refine tr_p (y_add rfl rfl) rfl rfl ?_
                  refine tr_p (y_assign rfl) rfl rfl ?_
                  refine tr_nil ?_
                  refine tr_thenN ?_
                  exact tr_join [(0, x0.enc), (5, x5.enc), (8, (.int .i64 (IntKind.wrap .i64 (x8 + 1))))] ⟨rfl, rfl, rfl, trivial⟩ ⟨_, _, _, rfl, H⟩
            · replace H := H.2 g31
              refine tr_exit ?_
              refine tr_thenE ?_
              refine tr_thenE ?_
              refine tr_hit ?_
              refine tr_thenN ?_
              refine tr_seq ?_
              refine tr_region ?_
              refine tr_p (y_assign rfl) rfl rfl ?_
              refine tr_nil ?_
              refine tr_thenN ?_
              refine tr_ret ?_
              exact tr_ret1 rfl rfl ⟨_, rfl, H⟩

end Go.Proofs.Ytidpbnbjpglhfaa.V
