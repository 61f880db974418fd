/- Printed by a program of this session (gen.py): Go functions as Lean functions over the heap, and that the Go code does what they say; no condition. -/
import Derived.Test.YtidpbnbjpglhfaaGlx2
namespace Go.Proofs.Ytidpbnbjpglhfaa.V
open Go
set_option linter.unusedVariables false
set_option maxRecDepth 100000
def F.spatelaw2_GrownInts.l2 (Q : Bool → H → Prop) (C1 : Sl → Int → H → Prop) : Nat → Sl → Int → Int → H → Prop
  | 0, _, _, _, _ => False
  | q2 + 1, x0, x3, x4, h =>
    idxA x0 x3 1 fun a2 =>
    ldL h a2 fun y4 =>
    ((decide (x4 < (y4.len : Int))) = true →
    idxA x0 x3 1 fun a7 =>
    ldL h a7 fun y9 =>
    idxA y9 x4 1 fun a11 =>
    stH h a11 [(.int .i64 (IntKind.wrap .i64 ((IntKind.wrap .i64 (1000 * x3)) + x4)))] fun h13 =>
    (F.spatelaw2_GrownInts.l2 Q C1 q2) x0 x3 (IntKind.wrap .i64 (x4 + 1)) h13) ∧
    ((decide (x4 < (y4.len : Int))) = false →
    C1 x0 (IntKind.wrap .i64 (x3 + 1)) h)
def F.spatelaw2_GrownInts.l4 (Q : Bool → H → Prop) (C1 : Sl → Sl → Int → H → Prop) : Nat → Sl → Sl → Int → Int → H → Prop
  | 0, _, _, _, _, _ => False
  | q4 + 1, x0, x5, x6, x7, h =>
    ((decide (x7 < (x0.len : Int))) = true →
    idxA x5 x7 1 fun a19 =>
    ldL h a19 fun y21 =>
    newL h #[(.int .i64 (IntKind.wrap .i64 ((IntKind.wrap .i64 ((IntKind.wrap .i64 (0 - (IntKind.wrap .i64 (1000 * x7)))) - x6)) - 1)))] ty_3 1 fun s24 h23 =>
    runL PP (Builtin.append_ #[23, 23] 23 #[y21.enc, s24.enc]) h23 fun s26 h25 =>
    idxA x5 x7 1 fun a27 =>
    stH h25 a27 [s26.enc] fun h29 =>
    (F.spatelaw2_GrownInts.l4 Q C1 q4) x0 x5 x6 (IntKind.wrap .i64 (x7 + 1)) h29) ∧
    ((decide (x7 < (x0.len : Int))) = false →
    C1 x0 x5 (IntKind.wrap .i64 (x6 + 1)) h)
def F.spatelaw2_GrownInts.j7 (Q : Bool → H → Prop) (C1 : Sl → Sl → Int → H → Prop) (C2 : Sl → Sl → Int → Int → Int → H → Prop) (x0 : Sl) (x5 : Sl) (x8 : Int) (x9 : Int) (x10 : Int) (h : H) : Prop :=
  C2 x0 x5 x8 x9 (IntKind.wrap .i64 (x10 + 1)) h
def F.spatelaw2_GrownInts.j8 (Q : Bool → H → Prop) (C1 : Sl → Sl → Int → H → Prop) (C2 : Sl → Sl → Int → Int → Int → H → Prop) (x0 : Sl) (x5 : Sl) (x8 : Int) (x9 : Int) (x10 : Int) (x134 : Bool) (h : H) : Prop :=
  (x134 = true →
  Q false h) ∧
  (x134 = false →
  F.spatelaw2_GrownInts.j7 Q C1 C2 x0 x5 x8 x9 x10 h)
def F.spatelaw2_GrownInts.l6 (Q : Bool → H → Prop) (C1 : Sl → Sl → Int → H → Prop) : Nat → Sl → Sl → Int → Int → Int → H → Prop
  | 0, _, _, _, _, _, _ => False
  | q6 + 1, x0, x5, x8, x9, x10, h =>
    ((decide (x10 < (IntKind.wrap .i64 (x9 + 40)))) = true →
    ((decide (x10 < x9)) = true →
    idxA x0 x8 1 fun a39 =>
    ldL h a39 fun y41 =>
    idxA y41 x10 1 fun a43 =>
    ldI .i64 h a43 fun y45 =>
    (((y45 != (IntKind.wrap .i64 ((IntKind.wrap .i64 (1000 * x8)) + x10)))) = true →
    F.spatelaw2_GrownInts.j8 Q C1 (F.spatelaw2_GrownInts.l6 Q C1 q6) x0 x5 x8 x9 x10 true h) ∧
    (((y45 != (IntKind.wrap .i64 ((IntKind.wrap .i64 (1000 * x8)) + x10)))) = false →
    idxA x5 x8 1 fun a48 =>
    ldL h a48 fun y50 =>
    idxA y50 x10 1 fun a52 =>
    ldI .i64 h a52 fun y54 =>
    (((y54 != (IntKind.wrap .i64 ((IntKind.wrap .i64 (1000 * x8)) + x10)))) = true →
    F.spatelaw2_GrownInts.j8 Q C1 (F.spatelaw2_GrownInts.l6 Q C1 q6) x0 x5 x8 x9 x10 true h) ∧
    (((y54 != (IntKind.wrap .i64 ((IntKind.wrap .i64 (1000 * x8)) + x10)))) = false →
    ((decide (x10 ≥ x9)) = true →
    idxA x5 x8 1 fun a58 =>
    ldL h a58 fun y60 =>
    idxA y60 x10 1 fun a62 =>
    ldI .i64 h a62 fun y64 =>
    F.spatelaw2_GrownInts.j8 Q C1 (F.spatelaw2_GrownInts.l6 Q C1 q6) x0 x5 x8 x9 x10 ((y64 != (IntKind.wrap .i64 ((IntKind.wrap .i64 ((IntKind.wrap .i64 (0 - (IntKind.wrap .i64 (1000 * x8)))) - (IntKind.wrap .i64 (x10 - x9)))) - 1)))) h) ∧
    ((decide (x10 ≥ x9)) = false →
    F.spatelaw2_GrownInts.j8 Q C1 (F.spatelaw2_GrownInts.l6 Q C1 q6) x0 x5 x8 x9 x10 false h)))) ∧
    ((decide (x10 < x9)) = false →
    ((decide (x10 ≥ x9)) = true →
    idxA x5 x8 1 fun a67 =>
    ldL h a67 fun y69 =>
    idxA y69 x10 1 fun a71 =>
    ldI .i64 h a71 fun y73 =>
    F.spatelaw2_GrownInts.j8 Q C1 (F.spatelaw2_GrownInts.l6 Q C1 q6) x0 x5 x8 x9 x10 ((y73 != (IntKind.wrap .i64 ((IntKind.wrap .i64 ((IntKind.wrap .i64 (0 - (IntKind.wrap .i64 (1000 * x8)))) - (IntKind.wrap .i64 (x10 - x9)))) - 1)))) h) ∧
    ((decide (x10 ≥ x9)) = false →
    F.spatelaw2_GrownInts.j8 Q C1 (F.spatelaw2_GrownInts.l6 Q C1 q6) x0 x5 x8 x9 x10 false h))) ∧
    ((decide (x10 < (IntKind.wrap .i64 (x9 + 40)))) = false →
    C1 x0 x5 (IntKind.wrap .i64 (x8 + 1)) h)
def F.spatelaw2_GrownInts.l5 (Q : Bool → H → Prop) : Nat → Sl → Sl → Int → H → Prop
  | 0, _, _, _, _ => False
  | q5 + 1, x0, x5, x8, h =>
    ((decide (x8 < (x0.len : Int))) = true →
    idxA x0 x8 1 fun a32 =>
    ldL h a32 fun y34 =>
    ∃ m, F.spatelaw2_GrownInts.l6 Q (F.spatelaw2_GrownInts.l5 Q q5) m x0 x5 x8 (y34.len : Int) 0 h) ∧
    ((decide (x8 < (x0.len : Int))) = false →
    Q true h)
def F.spatelaw2_GrownInts.l3 (Q : Bool → H → Prop) : Nat → Sl → Sl → Int → H → Prop
  | 0, _, _, _, _ => False
  | q3 + 1, x0, x5, x6, h =>
    ((decide (x6 < 40)) = true →
    ∃ m, F.spatelaw2_GrownInts.l4 Q (F.spatelaw2_GrownInts.l3 Q q3) m x0 x5 x6 0 h) ∧
    ((decide (x6 < 40)) = false →
    ∃ m, F.spatelaw2_GrownInts.l5 Q m x0 x5 0 h)
def F.spatelaw2_GrownInts.l1 (Q : Bool → H → Prop) : Nat → Sl → Int → H → Prop
  | 0, _, _, _ => False
  | q1 + 1, x0, x3, h =>
    ((decide (x3 < (x0.len : Int))) = true →
    ∃ m, F.spatelaw2_GrownInts.l2 Q (F.spatelaw2_GrownInts.l1 Q q1) m x0 x3 0 h) ∧
    ((decide (x3 < (x0.len : Int))) = false →
    runL PP (Builtin.append_ #[25, 25] 25 #[(⟨none, 0, 0⟩ : Sl).enc, x0.enc]) h fun s16 h15 =>
    ∃ m, F.spatelaw2_GrownInts.l3 Q m x0 s16 0 h15)
/-- spate/spatelaw2.GrownInts -/
def F.spatelaw2_GrownInts (p0 : Sl) (h : H) (Q : Bool → H → Prop) : Prop :=
  ∃ m, F.spatelaw2_GrownInts.l1 Q m p0 0 h
theorem F.spatelaw2_GrownInts_ok {p0 : Sl} {h : H} {Q : Bool → H → Prop} (H : F.spatelaw2_GrownInts p0 h Q) : Fn PP 37 ([p0.enc] : List Value).toArray h fun r h' => ∃ r0, r = (.bool r0) ∧ Q r0 h' := by
  unfold F.spatelaw2_GrownInts at H
  refine fn_of Try.func37 Try.ntmps37 rfl rfl fun w0 => ?_
  refine tr_sub [(0, p0.enc)] ⟨rfl, trivial⟩ ?_
  refine tr_seq ?_
  refine tr_region ?_
  refine tr_p (y_assign rfl) rfl rfl ?_
  refine tr_nil ?_
  refine tr_thenN ?_
  refine tr_seq ?_
  refine tr_seq ?_
  refine tr_region ?_
  refine tr_p (y_assign rfl) rfl rfl ?_
  refine tr_nil ?_
  refine tr_thenN ?_
  refine tr_block ?_
  obtain ⟨m78, H⟩ := H
  refine tr_sub [(0, p0.enc), (3, (.int .i64 0))] ⟨rfl, rfl, trivial⟩ ?_
  refine tr_loop_j (fun m L' h => ∃ (x0 : Sl) (x3 : Int), L' = [(0, x0.enc), (3, (.int .i64 x3))] ∧ F.spatelaw2_GrownInts.l1 Q m x0 x3 h) ?_ ?_ m78 ⟨_, _, rfl, H⟩
  · rintro L' h ⟨_, _, _, H⟩; exact H
  · rintro q1 L' h ⟨x0, x3, rfl, H⟩
    unfold F.spatelaw2_GrownInts.l1 at H
    refine tr_seq ?_
    refine tr_seq ?_
    refine tr_region ?_
    refine tr_p (y_move rfl) rfl rfl ?_
    refine tr_p (y_move rfl) rfl rfl ?_
    refine tr_p (y_len (ts := #[]) Try.runUnderlying25 (o := x0.ptr) (n := x0.len) (cap := x0.cap) rfl) rfl rfl ?_
    refine tr_p (y_lss rfl rfl) rfl rfl ?_
    refine tr_nil ?_
    refine tr_thenN ?_
    refine tr_cond rfl (fun g1 => ?_) (fun g1 => ?_)
    · replace H := H.1 g1
      refine tr_skip ?_
      refine tr_thenN ?_
      refine tr_seq ?_
      refine tr_block ?_
      refine tr_seq ?_
      refine tr_region ?_
      refine tr_p (y_assign rfl) rfl rfl ?_
      refine tr_nil ?_
      refine tr_thenN ?_
      refine tr_block ?_
      obtain ⟨m14, H⟩ := H
      refine tr_sub [(0, x0.enc), (3, (.int .i64 x3)), (4, (.int .i64 0))] ⟨rfl, rfl, rfl, trivial⟩ ?_
      refine tr_loop_j (fun m L' h => ∃ (x0 : Sl) (x3 : Int) (x4 : Int), L' = [(0, x0.enc), (3, (.int .i64 x3)), (4, (.int .i64 x4))] ∧ F.spatelaw2_GrownInts.l2 Q (F.spatelaw2_GrownInts.l1 Q q1) m x0 x3 x4 h) ?_ ?_ m14 ⟨_, _, _, rfl, H⟩
      · rintro L' h ⟨_, _, _, _, H⟩; exact H
      · rintro q2 L' h ⟨x0, x3, x4, rfl, H⟩
        unfold F.spatelaw2_GrownInts.l2 at H
        refine tr_seq ?_
        refine tr_seq ?_
        refine tr_region ?_
        refine tr_p (y_move rfl) rfl rfl ?_
        refine tr_p (y_move rfl) rfl rfl ?_
        refine tr_p (y_move rfl) rfl rfl ?_
        obtain ⟨a2, e3, H⟩ := H
        refine tr_p (f_idx (s := x0) Try.runUnderlying25 Try.sizeOf23 rfl rfl e3) rfl rfl ?_
        obtain ⟨y4, k5, H⟩ := H
        refine tr_h (y_ld Try.isAgg23 rfl) k5 rfl rfl ?_
        refine tr_p (y_len (ts := #[]) Try.runUnderlying23 (o := y4.ptr) (n := y4.len) (cap := y4.cap) rfl) rfl rfl ?_
        refine tr_p (y_lss rfl rfl) rfl rfl ?_
        refine tr_nil ?_
        refine tr_thenN ?_
        refine tr_cond rfl (fun g6 => ?_) (fun g6 => ?_)
        · replace H := H.1 g6
          refine tr_skip ?_
          refine tr_thenN ?_
          refine tr_seq ?_
          refine tr_block ?_
          refine tr_region ?_
          refine tr_p (y_move rfl) rfl rfl ?_
          refine tr_p (y_move rfl) rfl rfl ?_
          obtain ⟨a7, e8, H⟩ := H
          refine tr_p (f_idx (s := x0) Try.runUnderlying25 Try.sizeOf23 rfl rfl e8) rfl rfl ?_
          obtain ⟨y9, k10, H⟩ := H
          refine tr_h (y_ld Try.isAgg23 rfl) k10 rfl rfl ?_
          refine tr_p (y_move rfl) rfl rfl ?_
          refine tr_p (y_move rfl) rfl rfl ?_
          refine tr_p (y_mul rfl rfl) rfl rfl ?_
          refine tr_p (y_move rfl) rfl rfl ?_
          refine tr_p (y_add rfl rfl) rfl rfl ?_
          obtain ⟨a11, e12, H⟩ := H
          refine tr_p (f_idx (s := y9) Try.runUnderlying23 Try.sizeOf3 rfl rfl e12) rfl rfl ?_
          refine tr_e (f_store (vs := [(.int .i64 (IntKind.wrap .i64 ((IntKind.wrap .i64 (1000 * x3)) + x4)))]) Try.sizeOf3 rfl rfl rfl rfl (one1 rfl) H) rfl rfl ?_
          rintro _ h13 ⟨rfl, H⟩
          refine tr_nil ?_
          refine tr_blockN ?_
          refine tr_thenN ?_
          refine tr_region ?_
          refine tr_p (y_move rfl) rfl rfl ?_
          refine tr_p (y_add rfl rfl) rfl rfl ?_
          refine tr_p (y_assign rfl) rfl rfl ?_
          refine tr_nil ?_
          refine tr_thenN ?_
          exact tr_join [(0, x0.enc), (3, (.int .i64 x3)), (4, (.int .i64 (IntKind.wrap .i64 (x4 + 1))))] ⟨rfl, rfl, rfl, trivial⟩ ⟨_, _, _, rfl, H⟩
        · replace H := H.2 g6
          refine tr_exit ?_
          refine tr_thenE ?_
          refine tr_thenE ?_
          refine tr_hit ?_
          refine tr_blockN ?_
          refine tr_thenN ?_
          refine tr_region ?_
          refine tr_p (y_move rfl) rfl rfl ?_
          refine tr_p (y_add rfl rfl) rfl rfl ?_
          refine tr_p (y_assign rfl) rfl rfl ?_
          refine tr_nil ?_
          refine tr_thenN ?_
          exact tr_join [(0, x0.enc), (3, (.int .i64 (IntKind.wrap .i64 (x3 + 1))))] ⟨rfl, rfl, trivial⟩ ⟨_, _, rfl, H⟩
    · replace H := H.2 g1
      refine tr_exit ?_
      refine tr_thenE ?_
      refine tr_thenE ?_
      refine tr_hit ?_
      refine tr_thenN ?_
      refine tr_seq ?_
      refine tr_region ?_
      refine tr_p (y_assign rfl) rfl rfl ?_
      refine tr_nil ?_
      refine tr_thenN ?_
      refine tr_seq ?_
      refine tr_region ?_
      refine tr_p (y_move rfl) rfl rfl ?_
      refine tr_p (y_move rfl) rfl rfl ?_
      refine tr_e (f_app rfl H) rfl rfl ?_
      rintro _ h15 ⟨s16, rfl, H⟩
      refine tr_p (y_assign rfl) rfl rfl ?_
      refine tr_nil ?_
      refine tr_thenN ?_
      refine tr_seq ?_
      refine tr_seq ?_
      refine tr_region ?_
      refine tr_p (y_assign rfl) rfl rfl ?_
      refine tr_nil ?_
      refine tr_thenN ?_
      refine tr_block ?_
      obtain ⟨m77, H⟩ := H
      refine tr_sub [(0, x0.enc), (5, s16.enc), (6, (.int .i64 0))] ⟨rfl, rfl, rfl, trivial⟩ ?_
      refine tr_loop_j (fun m L' h => ∃ (x0 : Sl) (x5 : Sl) (x6 : Int), L' = [(0, x0.enc), (5, x5.enc), (6, (.int .i64 x6))] ∧ F.spatelaw2_GrownInts.l3 Q m x0 x5 x6 h) ?_ ?_ m77 ⟨_, _, _, rfl, H⟩
      · rintro L' h ⟨_, _, _, _, H⟩; exact H
      · rintro q3 L' h ⟨x0, x5, x6, rfl, H⟩
        unfold F.spatelaw2_GrownInts.l3 at H
        refine tr_seq ?_
        refine tr_seq ?_
        refine tr_region ?_
        refine tr_p (y_move rfl) rfl rfl ?_
        refine tr_p (y_lss rfl rfl) rfl rfl ?_
        refine tr_nil ?_
        refine tr_thenN ?_
        refine tr_cond rfl (fun g17 => ?_) (fun g17 => ?_)
        · replace H := H.1 g17
          refine tr_skip ?_
          refine tr_thenN ?_
          refine tr_seq ?_
          refine tr_block ?_
          refine tr_seq ?_
          refine tr_region ?_
          refine tr_p (y_assign rfl) rfl rfl ?_
          refine tr_nil ?_
          refine tr_thenN ?_
          refine tr_block ?_
          obtain ⟨m30, H⟩ := H
          refine tr_sub [(0, x0.enc), (5, x5.enc), (6, (.int .i64 x6)), (7, (.int .i64 0))] ⟨rfl, rfl, rfl, rfl, trivial⟩ ?_
          refine tr_loop_j (fun m L' h => ∃ (x0 : Sl) (x5 : Sl) (x6 : Int) (x7 : Int), L' = [(0, x0.enc), (5, x5.enc), (6, (.int .i64 x6)), (7, (.int .i64 x7))] ∧ F.spatelaw2_GrownInts.l4 Q (F.spatelaw2_GrownInts.l3 Q q3) m x0 x5 x6 x7 h) ?_ ?_ m30 ⟨_, _, _, _, rfl, H⟩
          · rintro L' h ⟨_, _, _, _, _, H⟩; exact H
          · rintro q4 L' h ⟨x0, x5, x6, x7, rfl, H⟩
            unfold F.spatelaw2_GrownInts.l4 at H
            refine tr_seq ?_
            refine tr_seq ?_
            refine tr_region ?_
            refine tr_p (y_move rfl) rfl rfl ?_
            refine tr_p (y_move rfl) rfl rfl ?_
            refine tr_p (y_len (ts := #[]) Try.runUnderlying25 (o := x0.ptr) (n := x0.len) (cap := x0.cap) rfl) rfl rfl ?_
            refine tr_p (y_lss rfl rfl) rfl rfl ?_
            refine tr_nil ?_
            refine tr_thenN ?_
            refine tr_cond rfl (fun g18 => ?_) (fun g18 => ?_)
            · replace H := H.1 g18
              refine tr_skip ?_
              refine tr_thenN ?_
              refine tr_seq ?_
              refine tr_block ?_
              refine tr_region ?_
              refine tr_p (y_move rfl) rfl rfl ?_
              refine tr_p (y_move rfl) rfl rfl ?_
              refine tr_p (y_move rfl) rfl rfl ?_
              refine tr_p (y_move rfl) rfl rfl ?_
              obtain ⟨a19, e20, H⟩ := H
              refine tr_p (f_idx (s := x5) Try.runUnderlying25 Try.sizeOf23 rfl rfl e20) rfl rfl ?_
              obtain ⟨y21, k22, H⟩ := H
              refine tr_h (y_ld Try.isAgg23 rfl) k22 rfl rfl ?_
              refine tr_p (y_move rfl) rfl rfl ?_
              refine tr_p (y_mul rfl rfl) rfl rfl ?_
              refine tr_p (y_sub rfl rfl) rfl rfl ?_
              refine tr_p (y_move rfl) rfl rfl ?_
              refine tr_p (y_sub rfl rfl) rfl rfl ?_
              refine tr_p (y_sub rfl rfl) rfl rfl ?_
              refine tr_e (f_buildL (cs := #[(.int .i64 (IntKind.wrap .i64 ((IntKind.wrap .i64 ((IntKind.wrap .i64 (0 - (IntKind.wrap .i64 (1000 * x7)))) - x6)) - 1)))]) rfl rfl (bl_23_1_0 (IntKind.wrap .i64 ((IntKind.wrap .i64 ((IntKind.wrap .i64 (0 - (IntKind.wrap .i64 (1000 * x7)))) - x6)) - 1))) H) rfl rfl ?_
              rintro _ h23 ⟨s24, rfl, H⟩
              refine tr_e (f_app rfl H) rfl rfl ?_
              rintro _ h25 ⟨s26, rfl, H⟩
              obtain ⟨a27, e28, H⟩ := H
              refine tr_p (f_idx (s := x5) Try.runUnderlying25 Try.sizeOf23 rfl rfl e28) rfl rfl ?_
              refine tr_e (f_store (vs := [s26.enc]) Try.sizeOf23 rfl rfl rfl rfl (one1 rfl) H) rfl rfl ?_
              rintro _ h29 ⟨rfl, H⟩
              refine tr_nil ?_
              refine tr_blockN ?_
              refine tr_thenN ?_
              refine tr_region ?_
              refine tr_p (y_move rfl) rfl rfl ?_
              refine tr_p (y_add rfl rfl) rfl rfl ?_
              refine tr_p (y_assign rfl) rfl rfl ?_
              refine tr_nil ?_
              refine tr_thenN ?_
              exact tr_join [(0, x0.enc), (5, x5.enc), (6, (.int .i64 x6)), (7, (.int .i64 (IntKind.wrap .i64 (x7 + 1))))] ⟨rfl, rfl, rfl, rfl, trivial⟩ ⟨_, _, _, _, rfl, H⟩
            · replace H := H.2 g18
              refine tr_exit ?_
              refine tr_thenE ?_
              refine tr_thenE ?_
              refine tr_hit ?_
              refine tr_blockN ?_
              refine tr_thenN ?_
              refine tr_region ?_
              refine tr_p (y_move rfl) rfl rfl ?_
              refine tr_p (y_add rfl rfl) rfl rfl ?_
              refine tr_p (y_assign rfl) rfl rfl ?_
              refine tr_nil ?_
              refine tr_thenN ?_
              exact tr_join [(0, x0.enc), (5, x5.enc), (6, (.int .i64 (IntKind.wrap .i64 (x6 + 1))))] ⟨rfl, rfl, rfl, trivial⟩ ⟨_, _, _, rfl, H⟩
        · replace H := H.2 g17
          refine tr_exit ?_
          refine tr_thenE ?_
          refine tr_thenE ?_
          refine tr_hit ?_
          refine tr_thenN ?_
          refine tr_seq ?_
          refine tr_seq ?_
          refine tr_region ?_
          refine tr_p (y_assign rfl) rfl rfl ?_
          refine tr_nil ?_
          refine tr_thenN ?_
          refine tr_block ?_
          obtain ⟨m76, H⟩ := H
          refine tr_sub [(0, x0.enc), (5, x5.enc), (8, (.int .i64 0))] ⟨rfl, rfl, rfl, trivial⟩ ?_
          refine tr_loop_j (fun m L' h => ∃ (x0 : Sl) (x5 : Sl) (x8 : Int), L' = [(0, x0.enc), (5, x5.enc), (8, (.int .i64 x8))] ∧ F.spatelaw2_GrownInts.l5 Q m x0 x5 x8 h) ?_ ?_ m76 ⟨_, _, _, rfl, H⟩
          · rintro L' h ⟨_, _, _, _, H⟩; exact H
          · rintro q5 L' h ⟨x0, x5, x8, rfl, H⟩
            unfold F.spatelaw2_GrownInts.l5 at H
            refine tr_seq ?_
            refine tr_seq ?_
            refine tr_region ?_
            refine tr_p (y_move rfl) rfl rfl ?_
            refine tr_p (y_move rfl) rfl rfl ?_
            refine tr_p (y_len (ts := #[]) Try.runUnderlying25 (o := x0.ptr) (n := x0.len) (cap := x0.cap) rfl) rfl rfl ?_
            refine tr_p (y_lss rfl rfl) rfl rfl ?_
            refine tr_nil ?_
            refine tr_thenN ?_
            refine tr_cond rfl (fun g31 => ?_) (fun g31 => ?_)
            · replace H := H.1 g31
              refine tr_skip ?_
              refine tr_thenN ?_
              refine tr_seq ?_
              refine tr_block ?_
              refine tr_seq ?_
              refine tr_region ?_
              refine tr_p (y_move rfl) rfl rfl ?_
              refine tr_p (y_move rfl) rfl rfl ?_
              obtain ⟨a32, e33, H⟩ := H
              refine tr_p (f_idx (s := x0) Try.runUnderlying25 Try.sizeOf23 rfl rfl e33) rfl rfl ?_
              obtain ⟨y34, k35, H⟩ := H
              refine tr_h (y_ld Try.isAgg23 rfl) k35 rfl rfl ?_
              refine tr_p (y_len (ts := #[]) Try.runUnderlying23 (o := y34.ptr) (n := y34.len) (cap := y34.cap) rfl) rfl rfl ?_
              refine tr_p (y_assign rfl) rfl rfl ?_
              refine tr_nil ?_
              refine tr_thenN ?_
              refine tr_seq ?_
              refine tr_region ?_
              refine tr_p (y_assign rfl) rfl rfl ?_
              refine tr_nil ?_
              refine tr_thenN ?_
              refine tr_block ?_
              obtain ⟨m75, H⟩ := H
              refine tr_sub [(0, x0.enc), (5, x5.enc), (8, (.int .i64 x8)), (9, (.int .i64 (y34.len : Int))), (10, (.int .i64 0))] ⟨rfl, rfl, rfl, rfl, rfl, trivial⟩ ?_
              refine tr_loop_j (fun m L' h => ∃ (x0 : Sl) (x5 : Sl) (x8 : Int) (x9 : Int) (x10 : Int), L' = [(0, x0.enc), (5, x5.enc), (8, (.int .i64 x8)), (9, (.int .i64 x9)), (10, (.int .i64 x10))] ∧ F.spatelaw2_GrownInts.l6 Q (F.spatelaw2_GrownInts.l5 Q q5) m x0 x5 x8 x9 x10 h) ?_ ?_ m75 ⟨_, _, _, _, _, rfl, H⟩
              · rintro L' h ⟨_, _, _, _, _, _, H⟩; exact H
              · rintro q6 L' h ⟨x0, x5, x8, x9, x10, rfl, H⟩
                unfold F.spatelaw2_GrownInts.l6 at H
                refine tr_seq ?_
                refine tr_seq ?_
                refine tr_region ?_
                refine tr_p (y_move rfl) rfl rfl ?_
                refine tr_p (y_move rfl) rfl rfl ?_
                refine tr_p (y_add rfl rfl) rfl rfl ?_
                refine tr_p (y_lss rfl rfl) rfl rfl ?_
                refine tr_nil ?_
                refine tr_thenN ?_
                refine tr_cond rfl (fun g36 => ?_) (fun g36 => ?_)
                · replace H := H.1 g36
                  refine tr_skip ?_
                  refine tr_thenN ?_
                  refine tr_seq_j (fun L' h => ∃ (x0 : Sl) (x5 : Sl) (x8 : Int) (x9 : Int) (x10 : Int), L' = [(0, x0.enc), (5, x5.enc), (8, (.int .i64 x8)), (9, (.int .i64 x9)), (10, (.int .i64 x10))] ∧ F.spatelaw2_GrownInts.j7 Q (F.spatelaw2_GrownInts.l5 Q q5) (F.spatelaw2_GrownInts.l6 Q (F.spatelaw2_GrownInts.l5 Q q5) q6) x0 x5 x8 x9 x10 h) ?_ ?_
                  · rintro L' h ⟨x0, x5, x8, x9, x10, rfl, H⟩
                    unfold F.spatelaw2_GrownInts.j7 at H
                    refine tr_region ?_
                    refine tr_p (y_move rfl) rfl rfl ?_
                    refine tr_p (y_add rfl rfl) rfl rfl ?_
                    refine tr_p (y_assign rfl) rfl rfl ?_
                    refine tr_nil ?_
                    refine tr_thenN ?_
                    exact tr_join [(0, x0.enc), (5, x5.enc), (8, (.int .i64 x8)), (9, (.int .i64 x9)), (10, (.int .i64 (IntKind.wrap .i64 (x10 + 1))))] ⟨rfl, rfl, rfl, rfl, rfl, trivial⟩ ⟨_, _, _, _, _, rfl, H⟩
                  · refine tr_block ?_
                    refine tr_seq_j (fun L' h => ∃ (x0 : Sl) (x5 : Sl) (x8 : Int) (x9 : Int) (x10 : Int) (x134 : Bool), L' = [(0, x0.enc), (5, x5.enc), (8, (.int .i64 x8)), (9, (.int .i64 x9)), (10, (.int .i64 x10)), (134, (.bool x134))] ∧ F.spatelaw2_GrownInts.j8 Q (F.spatelaw2_GrownInts.l5 Q q5) (F.spatelaw2_GrownInts.l6 Q (F.spatelaw2_GrownInts.l5 Q q5) q6) x0 x5 x8 x9 x10 x134 h) ?_ ?_
                    · rintro L' h ⟨x0, x5, x8, x9, x10, x134, rfl, H⟩
                      unfold F.spatelaw2_GrownInts.j8 at H
                      refine tr_cond rfl (fun g37 => ?_) (fun g37 => ?_)
                      · replace H := H.1 g37
                        refine tr_seq ?_
                        refine tr_region ?_
                        refine tr_p (y_assign rfl) rfl rfl ?_
                        refine tr_nil ?_
                        refine tr_thenN ?_
                        refine tr_ret ?_
                        refine tr_blockR ?_
                        refine tr_thenR ?_
                        refine tr_thenR ?_
                        refine tr_blockR ?_
                        refine tr_blockR ?_
                        refine tr_thenR ?_
                        refine tr_thenR ?_
                        refine tr_blockR ?_
                        refine tr_thenR ?_
                        exact tr_ret1 rfl rfl ⟨_, rfl, H⟩
                      · replace H := H.2 g37
                        refine tr_skip ?_
                        refine tr_blockN ?_
                        refine tr_thenN ?_
                        exact tr_join [(0, x0.enc), (5, x5.enc), (8, (.int .i64 x8)), (9, (.int .i64 x9)), (10, (.int .i64 x10))] ⟨rfl, rfl, rfl, rfl, rfl, trivial⟩ ⟨_, _, _, _, _, rfl, H⟩
                    · refine tr_region ?_
                      refine tr_p (y_move rfl) rfl rfl ?_
                      refine tr_p (y_move rfl) rfl rfl ?_
                      refine tr_p (y_lss rfl rfl) rfl rfl ?_
                      refine tr_p (y_move rfl) rfl rfl ?_
                      refine tr_split (t := 84) rfl (fun g38 => ?_) (fun g38 => ?_)
                      · replace H := H.1 g38
                        refine tr_p (y_move rfl) rfl rfl ?_
                        refine tr_p (y_move rfl) rfl rfl ?_
                        obtain ⟨a39, e40, H⟩ := H
                        refine tr_p (f_idx (s := x0) Try.runUnderlying25 Try.sizeOf23 rfl rfl e40) rfl rfl ?_
                        obtain ⟨y41, k42, H⟩ := H
                        refine tr_h (y_ld Try.isAgg23 rfl) k42 rfl rfl ?_
                        refine tr_p (y_move rfl) rfl rfl ?_
                        obtain ⟨a43, e44, H⟩ := H
                        refine tr_p (f_idx (s := y41) Try.runUnderlying23 Try.sizeOf3 rfl rfl e44) rfl rfl ?_
                        obtain ⟨y45, k46, H⟩ := H
                        refine tr_h (y_ld Try.isAgg3 rfl) k46 rfl rfl ?_
                        refine tr_p (y_move rfl) rfl rfl ?_
                        refine tr_p (y_mul rfl rfl) rfl rfl ?_
                        refine tr_p (y_move rfl) rfl rfl ?_
                        refine tr_p (y_add rfl rfl) rfl rfl ?_
                        refine tr_p (y_neq rfl rfl) rfl rfl ?_
                        refine tr_p (y_move rfl) rfl rfl ?_
                        refine tr_split (t := 97) rfl (fun g47 => ?_) (fun g47 => ?_)
                        · replace H := H.1 g47
                          refine tr_s rfl rfl ?_
                          refine tr_s rfl rfl ?_
                          refine tr_s rfl rfl ?_
                          refine tr_s rfl rfl ?_
                          refine tr_s rfl rfl ?_
                          refine tr_s rfl rfl ?_
                          refine tr_s rfl rfl ?_
                          refine tr_s rfl rfl ?_
                          refine tr_s rfl rfl ?_
                          refine tr_s rfl rfl ?_
                          refine tr_s rfl rfl ?_
                          refine tr_s rfl rfl ?_
                          refine tr_p (y_pick_t rfl rfl) rfl rfl ?_
                          refine tr_p (y_pick_t rfl rfl) rfl rfl ?_
                          refine tr_p (y_move rfl) rfl rfl ?_
                          refine tr_s rfl rfl ?_
                          refine tr_s rfl rfl ?_
                          refine tr_s rfl rfl ?_
                          refine tr_s rfl rfl ?_
                          refine tr_s rfl rfl ?_
                          refine tr_s rfl rfl ?_
                          refine tr_s rfl rfl ?_
                          refine tr_s rfl rfl ?_
                          refine tr_s rfl rfl ?_
                          refine tr_s rfl rfl ?_
                          refine tr_s rfl rfl ?_
                          refine tr_s rfl rfl ?_
                          refine tr_s rfl rfl ?_
                          refine tr_s rfl rfl ?_
                          refine tr_s rfl rfl ?_
                          refine tr_s rfl rfl ?_
                          refine tr_s rfl rfl ?_
                          refine tr_s rfl rfl ?_
                          refine tr_s rfl rfl ?_
                          refine tr_s rfl rfl ?_
                          refine tr_s rfl rfl ?_
                          refine tr_p (y_pick_t rfl rfl) rfl rfl ?_
                          refine tr_nil ?_
                          refine tr_thenN ?_
                          exact tr_join [(0, x0.enc), (5, x5.enc), (8, (.int .i64 x8)), (9, (.int .i64 x9)), (10, (.int .i64 x10)), (134, (.bool true))] ⟨rfl, rfl, rfl, rfl, rfl, rfl, trivial⟩ ⟨_, _, _, _, _, _, rfl, H⟩
                        · replace H := H.2 g47
                          refine tr_p (y_move rfl) rfl rfl ?_
                          refine tr_p (y_move rfl) rfl rfl ?_
                          obtain ⟨a48, e49, H⟩ := H
                          refine tr_p (f_idx (s := x5) Try.runUnderlying25 Try.sizeOf23 rfl rfl e49) rfl rfl ?_
                          obtain ⟨y50, k51, H⟩ := H
                          refine tr_h (y_ld Try.isAgg23 rfl) k51 rfl rfl ?_
                          refine tr_p (y_move rfl) rfl rfl ?_
                          obtain ⟨a52, e53, H⟩ := H
                          refine tr_p (f_idx (s := y50) Try.runUnderlying23 Try.sizeOf3 rfl rfl e53) rfl rfl ?_
                          obtain ⟨y54, k55, H⟩ := H
                          refine tr_h (y_ld Try.isAgg3 rfl) k55 rfl rfl ?_
                          refine tr_p (y_move rfl) rfl rfl ?_
                          refine tr_p (y_mul rfl rfl) rfl rfl ?_
                          refine tr_p (y_move rfl) rfl rfl ?_
                          refine tr_p (y_add rfl rfl) rfl rfl ?_
                          refine tr_p (y_neq rfl rfl) rfl rfl ?_
                          refine tr_p (y_pick_f rfl rfl) rfl rfl ?_
                          refine tr_p (y_pick_t rfl rfl) rfl rfl ?_
                          refine tr_p (y_move rfl) rfl rfl ?_
                          refine tr_split (t := 112) rfl (fun g56 => ?_) (fun g56 => ?_)
                          · replace H := H.1 g56
                            refine tr_s rfl rfl ?_
                            refine tr_s rfl rfl ?_
                            refine tr_s rfl rfl ?_
                            refine tr_s rfl rfl ?_
                            refine tr_s rfl rfl ?_
                            refine tr_s rfl rfl ?_
                            refine tr_s rfl rfl ?_
                            refine tr_s rfl rfl ?_
                            refine tr_s rfl rfl ?_
                            refine tr_s rfl rfl ?_
                            refine tr_s rfl rfl ?_
                            refine tr_s rfl rfl ?_
                            refine tr_s rfl rfl ?_
                            refine tr_s rfl rfl ?_
                            refine tr_s rfl rfl ?_
                            refine tr_s rfl rfl ?_
                            refine tr_s rfl rfl ?_
                            refine tr_s rfl rfl ?_
                            refine tr_s rfl rfl ?_
                            refine tr_s rfl rfl ?_
                            refine tr_s rfl rfl ?_
                            refine tr_p (y_pick_t rfl rfl) rfl rfl ?_
                            refine tr_nil ?_
                            refine tr_thenN ?_
                            exact tr_join [(0, x0.enc), (5, x5.enc), (8, (.int .i64 x8)), (9, (.int .i64 x9)), (10, (.int .i64 x10)), (134, (.bool true))] ⟨rfl, rfl, rfl, rfl, rfl, rfl, trivial⟩ ⟨_, _, _, _, _, _, rfl, H⟩
                          · replace H := H.2 g56
                            refine tr_p (y_move rfl) rfl rfl ?_
                            refine tr_p (y_move rfl) rfl rfl ?_
                            refine tr_p (y_geq rfl rfl) rfl rfl ?_
                            refine tr_p (y_move rfl) rfl rfl ?_
                            refine tr_split (t := 116) rfl (fun g57 => ?_) (fun g57 => ?_)
                            · replace H := H.1 g57
                              refine tr_p (y_move rfl) rfl rfl ?_
                              refine tr_p (y_move rfl) rfl rfl ?_
                              obtain ⟨a58, e59, H⟩ := H
                              refine tr_p (f_idx (s := x5) Try.runUnderlying25 Try.sizeOf23 rfl rfl e59) rfl rfl ?_
                              obtain ⟨y60, k61, H⟩ := H
                              refine tr_h (y_ld Try.isAgg23 rfl) k61 rfl rfl ?_
                              refine tr_p (y_move rfl) rfl rfl ?_
                              obtain ⟨a62, e63, H⟩ := H
                              refine tr_p (f_idx (s := y60) Try.runUnderlying23 Try.sizeOf3 rfl rfl e63) rfl rfl ?_
                              obtain ⟨y64, k65, H⟩ := H
                              refine tr_h (y_ld Try.isAgg3 rfl) k65 rfl rfl ?_
                              refine tr_p (y_move rfl) rfl rfl ?_
                              refine tr_p (y_mul rfl rfl) rfl rfl ?_
                              refine tr_p (y_sub rfl rfl) rfl rfl ?_
                              refine tr_p (y_move rfl) rfl rfl ?_
                              refine tr_p (y_move rfl) rfl rfl ?_
                              refine tr_p (y_sub rfl rfl) rfl rfl ?_
                              refine tr_p (y_sub rfl rfl) rfl rfl ?_
                              refine tr_p (y_sub rfl rfl) rfl rfl ?_
                              refine tr_p (y_neq rfl rfl) rfl rfl ?_
                              refine tr_p (y_pick_t rfl rfl) rfl rfl ?_
                              refine tr_p (y_pick_f rfl rfl) rfl rfl ?_
                              refine tr_nil ?_
                              refine tr_thenN ?_
                              exact tr_join [(0, x0.enc), (5, x5.enc), (8, (.int .i64 x8)), (9, (.int .i64 x9)), (10, (.int .i64 x10)), (134, (.bool ((y64 != (IntKind.wrap .i64 ((IntKind.wrap .i64 ((IntKind.wrap .i64 (0 - (IntKind.wrap .i64 (1000 * x8)))) - (IntKind.wrap .i64 (x10 - x9)))) - 1))))))] ⟨rfl, rfl, rfl, rfl, rfl, rfl, trivial⟩ ⟨_, _, _, _, _, _, rfl, H⟩
                            · replace H := H.2 g57
                              refine tr_s rfl rfl ?_
                              refine tr_s rfl rfl ?_
                              refine tr_s rfl rfl ?_
                              refine tr_s rfl rfl ?_
                              refine tr_s rfl rfl ?_
                              refine tr_s rfl rfl ?_
                              refine tr_s rfl rfl ?_
                              refine tr_s rfl rfl ?_
                              refine tr_s rfl rfl ?_
                              refine tr_s rfl rfl ?_
                              refine tr_s rfl rfl ?_
                              refine tr_s rfl rfl ?_
                              refine tr_s rfl rfl ?_
                              refine tr_s rfl rfl ?_
                              refine tr_s rfl rfl ?_
                              refine tr_s rfl rfl ?_
                              refine tr_p (y_pick_f rfl rfl) rfl rfl ?_
                              refine tr_p (y_pick_f rfl rfl) rfl rfl ?_
                              refine tr_nil ?_
                              refine tr_thenN ?_
                              exact tr_join [(0, x0.enc), (5, x5.enc), (8, (.int .i64 x8)), (9, (.int .i64 x9)), (10, (.int .i64 x10)), (134, (.bool false))] ⟨rfl, rfl, rfl, rfl, rfl, rfl, trivial⟩ ⟨_, _, _, _, _, _, rfl, H⟩
                      · replace H := H.2 g38
                        refine tr_s rfl rfl ?_
                        refine tr_s rfl rfl ?_
                        refine tr_s rfl rfl ?_
                        refine tr_s rfl rfl ?_
                        refine tr_s rfl rfl ?_
                        refine tr_s rfl rfl ?_
                        refine tr_s rfl rfl ?_
                        refine tr_s rfl rfl ?_
                        refine tr_s rfl rfl ?_
                        refine tr_s rfl rfl ?_
                        refine tr_s rfl rfl ?_
                        refine tr_s rfl rfl ?_
                        refine tr_s rfl rfl ?_
                        refine tr_s rfl rfl ?_
                        refine tr_s rfl rfl ?_
                        refine tr_s rfl rfl ?_
                        refine tr_s rfl rfl ?_
                        refine tr_s rfl rfl ?_
                        refine tr_s rfl rfl ?_
                        refine tr_s rfl rfl ?_
                        refine tr_s rfl rfl ?_
                        refine tr_s rfl rfl ?_
                        refine tr_s rfl rfl ?_
                        refine tr_s rfl rfl ?_
                        refine tr_s rfl rfl ?_
                        refine tr_s rfl rfl ?_
                        refine tr_p (y_pick_f rfl rfl) rfl rfl ?_
                        refine tr_p (y_move rfl) rfl rfl ?_
                        refine tr_p (y_move rfl) rfl rfl ?_
                        refine tr_p (y_move rfl) rfl rfl ?_
                        refine tr_p (y_geq rfl rfl) rfl rfl ?_
                        refine tr_p (y_move rfl) rfl rfl ?_
                        refine tr_split (t := 116) rfl (fun g66 => ?_) (fun g66 => ?_)
                        · replace H := H.1 g66
                          refine tr_p (y_move rfl) rfl rfl ?_
                          refine tr_p (y_move rfl) rfl rfl ?_
                          obtain ⟨a67, e68, H⟩ := H
                          refine tr_p (f_idx (s := x5) Try.runUnderlying25 Try.sizeOf23 rfl rfl e68) rfl rfl ?_
                          obtain ⟨y69, k70, H⟩ := H
                          refine tr_h (y_ld Try.isAgg23 rfl) k70 rfl rfl ?_
                          refine tr_p (y_move rfl) rfl rfl ?_
                          obtain ⟨a71, e72, H⟩ := H
                          refine tr_p (f_idx (s := y69) Try.runUnderlying23 Try.sizeOf3 rfl rfl e72) rfl rfl ?_
                          obtain ⟨y73, k74, H⟩ := H
                          refine tr_h (y_ld Try.isAgg3 rfl) k74 rfl rfl ?_
                          refine tr_p (y_move rfl) rfl rfl ?_
                          refine tr_p (y_mul rfl rfl) rfl rfl ?_
                          refine tr_p (y_sub rfl rfl) rfl rfl ?_
                          refine tr_p (y_move rfl) rfl rfl ?_
                          refine tr_p (y_move rfl) rfl rfl ?_
                          refine tr_p (y_sub rfl rfl) rfl rfl ?_
                          refine tr_p (y_sub rfl rfl) rfl rfl ?_
                          refine tr_p (y_sub rfl rfl) rfl rfl ?_
                          refine tr_p (y_neq rfl rfl) rfl rfl ?_
                          refine tr_p (y_pick_t rfl rfl) rfl rfl ?_
                          refine tr_p (y_pick_f rfl rfl) rfl rfl ?_
                          refine tr_nil ?_
                          refine tr_thenN ?_
                          exact tr_join [(0, x0.enc), (5, x5.enc), (8, (.int .i64 x8)), (9, (.int .i64 x9)), (10, (.int .i64 x10)), (134, (.bool ((y73 != (IntKind.wrap .i64 ((IntKind.wrap .i64 ((IntKind.wrap .i64 (0 - (IntKind.wrap .i64 (1000 * x8)))) - (IntKind.wrap .i64 (x10 - x9)))) - 1))))))] ⟨rfl, rfl, rfl, rfl, rfl, rfl, trivial⟩ ⟨_, _, _, _, _, _, rfl, H⟩
                        · replace H := H.2 g66
                          refine tr_s rfl rfl ?_
                          refine tr_s rfl rfl ?_
                          refine tr_s rfl rfl ?_
                          refine tr_s rfl rfl ?_
                          refine tr_s rfl rfl ?_
                          refine tr_s rfl rfl ?_
                          refine tr_s rfl rfl ?_
                          refine tr_s rfl rfl ?_
                          refine tr_s rfl rfl ?_
                          refine tr_s rfl rfl ?_
                          refine tr_s rfl rfl ?_
                          refine tr_s rfl rfl ?_
                          refine tr_s rfl rfl ?_
                          refine tr_s rfl rfl ?_
                          refine tr_s rfl rfl ?_
                          refine tr_s rfl rfl ?_
                          refine tr_p (y_pick_f rfl rfl) rfl rfl ?_
                          refine tr_p (y_pick_f rfl rfl) rfl rfl ?_
                          refine tr_nil ?_
                          refine tr_thenN ?_
                          exact tr_join [(0, x0.enc), (5, x5.enc), (8, (.int .i64 x8)), (9, (.int .i64 x9)), (10, (.int .i64 x10)), (134, (.bool false))] ⟨rfl, rfl, rfl, rfl, rfl, rfl, trivial⟩ ⟨_, _, _, _, _, _, rfl, H⟩
                · replace H := H.2 g36
                  refine tr_exit ?_
                  refine tr_thenE ?_
                  refine tr_thenE ?_
                  refine tr_hit ?_
                  refine tr_blockN ?_
                  refine tr_thenN ?_
                  refine tr_region ?_
                  refine tr_p (y_move rfl) rfl rfl ?_
                  refine tr_p (y_add rfl rfl) rfl rfl ?_
                  refine tr_p (y_assign rfl) rfl rfl ?_
                  refine tr_nil ?_
                  refine tr_thenN ?_
                  exact tr_join [(0, x0.enc), (5, x5.enc), (8, (.int .i64 (IntKind.wrap .i64 (x8 + 1))))] ⟨rfl, rfl, rfl, trivial⟩ ⟨_, _, _, rfl, H⟩
            · replace H := H.2 g31
              refine tr_exit ?_
              refine tr_thenE ?_
              refine tr_thenE ?_
              refine tr_hit ?_
              refine tr_thenN ?_
              refine tr_seq ?_
              refine tr_region ?_
              refine tr_p (y_assign rfl) rfl rfl ?_
              refine tr_nil ?_
              refine tr_thenN ?_
              refine tr_ret ?_
              exact tr_ret1 rfl rfl ⟨_, rfl, H⟩

def F.spatelaw8_MergeBook.j2 (Q : Bool → H → Prop) (C1 : Int → Sl → Sl → Sl → Sl → Sl → Sl → Sl → Sl → Sl → Sl → Int → H → Prop) (x0 : Int) (x11 : Sl) (x12 : Sl) (x13 : Sl) (x14 : Sl) (x15 : Sl) (x16 : Sl) (x17 : Sl) (x18 : Sl) (x19 : Sl) (x20 : Sl) (x21 : Int) (h : H) : Prop :=
  C1 x0 x11 x12 x13 x14 x15 x16 x17 x18 x19 x20 (IntKind.wrap .i64 (x21 + 1)) h
def F.spatelaw8_MergeBook.j4 (Q : Bool → H → Prop) (C1 : Int → Sl → Sl → Sl → Sl → Sl → Sl → Sl → Sl → Sl → Sl → Int → H → Prop) (C2 : Int → Sl → Sl → Sl → Sl → Sl → Sl → Sl → Sl → Sl → Sl → Int → Sl → Sl → Int → H → Prop) (x0 : Int) (x11 : Sl) (x12 : Sl) (x13 : Sl) (x14 : Sl) (x15 : Sl) (x16 : Sl) (x17 : Sl) (x18 : Sl) (x19 : Sl) (x20 : Sl) (x21 : Int) (x22 : Sl) (x23 : Sl) (x24 : Int) (h : H) : Prop :=
  C2 x0 x11 x12 x13 x14 x15 x16 x17 x18 x19 x20 x21 x22 x23 (IntKind.wrap .i64 (x24 + 1)) h
def F.spatelaw8_MergeBook.j5 (Q : Bool → H → Prop) (C1 : Int → Sl → Sl → Sl → Sl → Sl → Sl → Sl → Sl → Sl → Sl → Int → H → Prop) (C2 : Int → Sl → Sl → Sl → Sl → Sl → Sl → Sl → Sl → Sl → Sl → Int → Sl → Sl → Int → H → Prop) (x0 : Int) (x11 : Sl) (x12 : Sl) (x13 : Sl) (x14 : Sl) (x15 : Sl) (x16 : Sl) (x17 : Sl) (x18 : Sl) (x19 : Sl) (x20 : Sl) (x21 : Int) (x22 : Sl) (x23 : Sl) (x24 : Int) (x155 : Bool) (h : H) : Prop :=
  (x155 = true →
  Q false h) ∧
  (x155 = false →
  F.spatelaw8_MergeBook.j4 Q C1 C2 x0 x11 x12 x13 x14 x15 x16 x17 x18 x19 x20 x21 x22 x23 x24 h)
def F.spatelaw8_MergeBook.j6 (Q : Bool → H → Prop) (C1 : Int → Sl → Sl → Sl → Sl → Sl → Sl → Sl → Sl → Sl → Sl → Int → H → Prop) (x0 : Int) (x11 : Sl) (x12 : Sl) (x13 : Sl) (x14 : Sl) (x15 : Sl) (x16 : Sl) (x17 : Sl) (x18 : Sl) (x19 : Sl) (x20 : Sl) (x21 : Int) (x175 : Bool) (h : H) : Prop :=
  (x175 = true →
  Q false h) ∧
  (x175 = false →
  F.spatelaw8_MergeBook.j2 Q C1 x0 x11 x12 x13 x14 x15 x16 x17 x18 x19 x20 x21 h)
def F.spatelaw8_MergeBook.l3 (Q : Bool → H → Prop) (C1 : Int → Sl → Sl → Sl → Sl → Sl → Sl → Sl → Sl → Sl → Sl → Int → H → Prop) : Nat → Int → Sl → Sl → Sl → Sl → Sl → Sl → Sl → Sl → Sl → Sl → Int → Sl → Sl → Int → H → Prop
  | 0, _, _, _, _, _, _, _, _, _, _, _, _, _, _, _, _ => False
  | q3 + 1, x0, x11, x12, x13, x14, x15, x16, x17, x18, x19, x20, x21, x22, x23, x24, h =>
    ((decide (x24 < 3)) = true →
    newL h #[x19.enc, x12.enc] ty_51 2 fun s39 h38 =>
    F.merge_Rows x0 s39 h38 fun r41 h40 =>
    newL h40 #[x19.enc] ty_51 1 fun s43 h42 =>
    F.merge_Rows x0 s43 h42 fun r45 h44 =>
    newL h44 #[(⟨none, 0, 0⟩ : Sl).enc, x19.enc] ty_51 2 fun s47 h46 =>
    F.merge_Rows x0 s47 h46 fun r49 h48 =>
    newL h48 #[r41.enc, r45.enc, r49.enc] ty_51 3 fun s51 h50 =>
    runL PP (Builtin.append_ #[53, 53] 53 #[x22.enc, s51.enc]) h50 fun s53 h52 =>
    newL h52 #[x20.enc, x14.enc] ty_23 2 fun s55 h54 =>
    F.merge_Lists_int s55 h54 fun r57 h56 =>
    newL h56 #[x20.enc] ty_23 1 fun s59 h58 =>
    F.merge_Lists_int s59 h58 fun r61 h60 =>
    newL h60 #[(⟨none, 0, 0⟩ : Sl).enc, x20.enc] ty_23 2 fun s63 h62 =>
    F.merge_Lists_int s63 h62 fun r65 h64 =>
    newL h64 #[r57.enc, r61.enc, r65.enc] ty_23 3 fun s67 h66 =>
    runL PP (Builtin.append_ #[25, 25] 25 #[x23.enc, s67.enc]) h66 fun s69 h68 =>
    idxA s53 (IntKind.wrap .i64 (3 * x24)) 1 fun a71 =>
    ldL h68 a71 fun y73 =>
    F.spatelaw2_SameRows y73 x15 h68 fun r76 h75 =>
    ((!r76) = true →
    F.spatelaw8_MergeBook.j5 Q C1 (F.spatelaw8_MergeBook.l3 Q C1 q3) x0 x11 x12 x13 x14 x15 x16 x17 x18 x19 x20 x21 s53 s69 x24 true h75) ∧
    ((!r76) = false →
    idxA s53 (IntKind.wrap .i64 ((IntKind.wrap .i64 (3 * x24)) + 1)) 1 fun a78 =>
    ldL h75 a78 fun y80 =>
    F.spatelaw2_SameRows y80 x16 h75 fun r83 h82 =>
    ((!r83) = true →
    F.spatelaw8_MergeBook.j5 Q C1 (F.spatelaw8_MergeBook.l3 Q C1 q3) x0 x11 x12 x13 x14 x15 x16 x17 x18 x19 x20 x21 s53 s69 x24 true h82) ∧
    ((!r83) = false →
    idxA s53 (IntKind.wrap .i64 ((IntKind.wrap .i64 (3 * x24)) + 2)) 1 fun a85 =>
    ldL h82 a85 fun y87 =>
    F.spatelaw2_SameRows y87 x16 h82 fun r90 h89 =>
    ((!r90) = true →
    F.spatelaw8_MergeBook.j5 Q C1 (F.spatelaw8_MergeBook.l3 Q C1 q3) x0 x11 x12 x13 x14 x15 x16 x17 x18 x19 x20 x21 s53 s69 x24 true h89) ∧
    ((!r90) = false →
    idxA s69 (IntKind.wrap .i64 (3 * x24)) 1 fun a92 =>
    ldL h89 a92 fun y94 =>
    F.spatelaw8_same y94 x17 h89 fun r97 h96 =>
    ((!r97) = true →
    F.spatelaw8_MergeBook.j5 Q C1 (F.spatelaw8_MergeBook.l3 Q C1 q3) x0 x11 x12 x13 x14 x15 x16 x17 x18 x19 x20 x21 s53 s69 x24 true h96) ∧
    ((!r97) = false →
    idxA s69 (IntKind.wrap .i64 ((IntKind.wrap .i64 (3 * x24)) + 1)) 1 fun a99 =>
    ldL h96 a99 fun y101 =>
    F.spatelaw8_same y101 x18 h96 fun r104 h103 =>
    ((!r104) = true →
    F.spatelaw8_MergeBook.j5 Q C1 (F.spatelaw8_MergeBook.l3 Q C1 q3) x0 x11 x12 x13 x14 x15 x16 x17 x18 x19 x20 x21 s53 s69 x24 true h103) ∧
    ((!r104) = false →
    idxA s69 (IntKind.wrap .i64 ((IntKind.wrap .i64 (3 * x24)) + 2)) 1 fun a106 =>
    ldL h103 a106 fun y108 =>
    F.spatelaw8_same y108 x18 h103 fun r111 h110 =>
    F.spatelaw8_MergeBook.j5 Q C1 (F.spatelaw8_MergeBook.l3 Q C1 q3) x0 x11 x12 x13 x14 x15 x16 x17 x18 x19 x20 x21 s53 s69 x24 (!r111) h110)))))) ∧
    ((decide (x24 < 3)) = false →
    F.spatelaw2_GrownRows x22 h fun r114 h113 =>
    ((!r114) = true →
    F.spatelaw8_MergeBook.j6 Q C1 x0 x11 x12 x13 x14 x15 x16 x17 x18 x19 x20 x21 true h113) ∧
    ((!r114) = false →
    F.spatelaw2_GrownInts x23 h113 fun r117 h116 =>
    ((!r117) = true →
    F.spatelaw8_MergeBook.j6 Q C1 x0 x11 x12 x13 x14 x15 x16 x17 x18 x19 x20 x21 true h116) ∧
    ((!r117) = false →
    F.spatelaw2_SameRows x19 x11 h116 fun r120 h119 =>
    ((!r120) = true →
    F.spatelaw8_MergeBook.j6 Q C1 x0 x11 x12 x13 x14 x15 x16 x17 x18 x19 x20 x21 true h119) ∧
    ((!r120) = false →
    F.spatelaw8_same x20 x13 h119 fun r123 h122 =>
    F.spatelaw8_MergeBook.j6 Q C1 x0 x11 x12 x13 x14 x15 x16 x17 x18 x19 x20 x21 (!r123) h122))))
def F.spatelaw8_MergeBook.j8 (Q : Bool → H → Prop) (x0 : Int) (x12 : Sl) (x14 : Sl) (x19 : Sl) (x20 : Sl) (h : H) : Prop :=
  newL h #[x19.enc, x12.enc] ty_51 2 fun s126 h125 =>
  F.merge_Rows x0 s126 h125 fun r128 h127 =>
  newL h127 #[x19.enc, x12.enc] ty_51 2 fun s130 h129 =>
  F.spateref8_Rows x0 s130 h129 fun r132 h131 =>
  F.spatelaw2_SameRows r128 r132 h131 fun r134 h133 =>
  (r134 = true →
  newL h133 #[x20.enc, x14.enc] ty_23 2 fun s137 h136 =>
  F.merge_Lists_int s137 h136 fun r139 h138 =>
  newL h138 #[x20.enc, x14.enc] ty_23 2 fun s141 h140 =>
  F.spateref8_Lists s141 h140 fun r143 h142 =>
  F.spatelaw8_same r139 r143 h142 fun r145 h144 =>
  Q r145 h144) ∧
  (r134 = false →
  Q false h133)
def F.spatelaw8_MergeBook.j9 (Q : Bool → H → Prop) (x0 : Int) (x12 : Sl) (x14 : Sl) (x19 : Sl) (x20 : Sl) (x191 : Bool) (h : H) : Prop :=
  (x191 = true →
  idxA x20 0 1 fun a147 =>
  ldI .i64 h a147 fun y149 =>
  idxA x20 0 1 fun a151 =>
  stH h a151 [(.int .i64 (IntKind.wrap .i64 (y149 - 1)))] fun h153 =>
  F.spatelaw8_MergeBook.j8 Q x0 x12 x14 x19 x20 h153) ∧
  (x191 = false →
  F.spatelaw8_MergeBook.j8 Q x0 x12 x14 x19 x20 h)
def F.spatelaw8_MergeBook.j7 (Q : Bool → H → Prop) (x0 : Int) (x12 : Sl) (x14 : Sl) (x19 : Sl) (x20 : Sl) (h : H) : Prop :=
  ((decide ((x20.len : Int) > 0)) = true →
  idxA x20 0 1 fun a155 =>
  ldI .i64 h a155 fun y157 =>
  F.spatelaw8_MergeBook.j9 Q x0 x12 x14 x19 x20 (decide (y157 > (-4611686018427387904))) h) ∧
  ((decide ((x20.len : Int) > 0)) = false →
  F.spatelaw8_MergeBook.j9 Q x0 x12 x14 x19 x20 false h)
def F.spatelaw8_MergeBook.l1 (Q : Bool → H → Prop) : Nat → Int → Sl → Sl → Sl → Sl → Sl → Sl → Sl → Sl → Sl → Sl → Int → H → Prop
  | 0, _, _, _, _, _, _, _, _, _, _, _, _, _ => False
  | q1 + 1, x0, x11, x12, x13, x14, x15, x16, x17, x18, x19, x20, x21, h =>
    ((decide (x21 < 2)) = true →
    ∃ m, F.spatelaw8_MergeBook.l3 Q (F.spatelaw8_MergeBook.l1 Q q1) m x0 x11 x12 x13 x14 x15 x16 x17 x18 x19 x20 x21 (⟨none, 0, 0⟩ : Sl) (⟨none, 0, 0⟩ : Sl) 0 h) ∧
    ((decide (x21 < 2)) = false →
    ((decide ((x19.len : Int) > 0)) = true →
    idxA x19 0 7 fun a160 =>
    stH h (a160.add 3) ((⟨77, 7, 7, 7⟩ : S_api_Agg).cells) fun h162 =>
    F.spatelaw8_MergeBook.j7 Q x0 x12 x14 x19 x20 h162) ∧
    ((decide ((x19.len : Int) > 0)) = false →
    F.spatelaw8_MergeBook.j7 Q x0 x12 x14 x19 x20 h))
/-- spate/spatelaw8.MergeBook -/
def F.spatelaw8_MergeBook (p0 : Int) (p1 : Sl) (p2 : Sl) (p3 : Sl) (p4 : Sl) (h : H) (Q : Bool → H → Prop) : Prop :=
  F.spatelaw8_known  h fun r2 h1 =>
  ((!r2) = true →
  Q false h1) ∧
  ((!r2) = false →
  F.spatelaw8_ordered p1 h1 fun r5 h4 =>
  F.spatelaw8_ordered p2 h4 fun r7 h6 =>
  F.spatelaw8_rising p3 h6 fun r9 h8 =>
  F.spatelaw8_rising p4 h8 fun r11 h10 =>
  newL h10 #[r5.enc, r7.enc] ty_51 2 fun s13 h12 =>
  F.spateref8_Rows p0 s13 h12 fun r15 h14 =>
  newL h14 #[r5.enc] ty_51 1 fun s17 h16 =>
  F.spateref8_Rows p0 s17 h16 fun r19 h18 =>
  newL h18 #[r9.enc, r11.enc] ty_23 2 fun s21 h20 =>
  F.spateref8_Lists s21 h20 fun r23 h22 =>
  newL h22 #[r9.enc] ty_23 1 fun s25 h24 =>
  F.spateref8_Lists s25 h24 fun r27 h26 =>
  newL h26 (([]).toArray) ty_66 0 fun s29 h28 =>
  runL PP (Builtin.append_ #[51, 51] 51 #[s29.enc, r5.enc]) h28 fun s31 h30 =>
  newL h30 #[] ty_3 0 fun s33 h32 =>
  runL PP (Builtin.append_ #[23, 23] 23 #[s33.enc, r9.enc]) h32 fun s35 h34 =>
  ∃ m, F.spatelaw8_MergeBook.l1 Q m p0 r5 r7 r9 r11 r15 r19 r23 r27 s31 s35 0 h34)
theorem F.spatelaw8_MergeBook_ok {p0 : Int} {p1 : Sl} {p2 : Sl} {p3 : Sl} {p4 : Sl} {h : H} {Q : Bool → H → Prop} (H : F.spatelaw8_MergeBook p0 p1 p2 p3 p4 h Q) : Fn PP 14 ([(.int .i64 p0), p1.enc, p2.enc, p3.enc, p4.enc] : List Value).toArray h fun r h' => ∃ r0, r = (.bool r0) ∧ Q r0 h' := by
  unfold F.spatelaw8_MergeBook at H
  refine fn_of Try.func14 Try.ntmps14 rfl rfl fun w0 => ?_
  refine tr_sub [(0, (.int .i64 p0)), (1, p1.enc), (2, p2.enc), (3, p3.enc), (4, p4.enc)] ⟨rfl, rfl, rfl, rfl, rfl, trivial⟩ ?_
  refine tr_seq ?_
  refine tr_region ?_
  refine tr_p (y_assign rfl) rfl rfl ?_
  refine tr_nil ?_
  refine tr_thenN ?_
  refine tr_seq ?_
  refine tr_seq ?_
  refine tr_region ?_
  refine tr_e (e_call Try.call15 rfl (F.spatelaw8_known_ok H)) rfl rfl ?_
  rintro _ h1 ⟨r2, rfl, H⟩
  refine tr_p (y_not rfl) rfl rfl ?_
  refine tr_nil ?_
  refine tr_thenN ?_
  refine tr_cond rfl (fun g3 => ?_) (fun g3 => ?_)
  · replace H := H.1 g3
    refine tr_seq ?_
    refine tr_region ?_
    refine tr_p (y_assign rfl) rfl rfl ?_
    refine tr_nil ?_
    refine tr_thenN ?_
    refine tr_ret ?_
    refine tr_thenR ?_
    exact tr_ret1 rfl rfl ⟨_, rfl, H⟩
  · replace H := H.2 g3
    refine tr_skip ?_
    refine tr_thenN ?_
    refine tr_seq ?_
    refine tr_region ?_
    refine tr_p (y_move rfl) rfl rfl ?_
    refine tr_e (e_call Try.call29 rfl (F.spatelaw8_ordered_ok H)) rfl rfl ?_
    rintro _ h4 ⟨r5, rfl, H⟩
    refine tr_p (y_assign rfl) rfl rfl ?_
    refine tr_nil ?_
    refine tr_thenN ?_
    refine tr_seq ?_
    refine tr_region ?_
    refine tr_p (y_move rfl) rfl rfl ?_
    refine tr_e (e_call Try.call29 rfl (F.spatelaw8_ordered_ok H)) rfl rfl ?_
    rintro _ h6 ⟨r7, rfl, H⟩
    refine tr_p (y_assign rfl) rfl rfl ?_
    refine tr_nil ?_
    refine tr_thenN ?_
    refine tr_seq ?_
    refine tr_region ?_
    refine tr_p (y_move rfl) rfl rfl ?_
    refine tr_e (e_call Try.call16 rfl (F.spatelaw8_rising_ok H)) rfl rfl ?_
    rintro _ h8 ⟨r9, rfl, H⟩
    refine tr_p (y_assign rfl) rfl rfl ?_
    refine tr_nil ?_
    refine tr_thenN ?_
    refine tr_seq ?_
    refine tr_region ?_
    refine tr_p (y_move rfl) rfl rfl ?_
    refine tr_e (e_call Try.call16 rfl (F.spatelaw8_rising_ok H)) rfl rfl ?_
    rintro _ h10 ⟨r11, rfl, H⟩
    refine tr_p (y_assign rfl) rfl rfl ?_
    refine tr_nil ?_
    refine tr_thenN ?_
    refine tr_seq ?_
    refine tr_region ?_
    refine tr_p (y_move rfl) rfl rfl ?_
    refine tr_p (y_move rfl) rfl rfl ?_
    refine tr_p (y_move rfl) rfl rfl ?_
    refine tr_e (f_buildL (cs := #[r5.enc, r7.enc]) rfl rfl (bl_53_2_0_1 r5 r7) H) rfl rfl ?_
    rintro _ h12 ⟨s13, rfl, H⟩
    refine tr_e (e_call Try.call33 rfl (F.spateref8_Rows_ok H)) rfl rfl ?_
    rintro _ h14 ⟨r15, rfl, H⟩
    refine tr_p (y_assign rfl) rfl rfl ?_
    refine tr_nil ?_
    refine tr_thenN ?_
    refine tr_seq ?_
    refine tr_region ?_
    refine tr_p (y_move rfl) rfl rfl ?_
    refine tr_p (y_move rfl) rfl rfl ?_
    refine tr_e (f_buildL (cs := #[r5.enc]) rfl rfl (bl_53_1_0 r5) H) rfl rfl ?_
    rintro _ h16 ⟨s17, rfl, H⟩
    refine tr_e (e_call Try.call33 rfl (F.spateref8_Rows_ok H)) rfl rfl ?_
    rintro _ h18 ⟨r19, rfl, H⟩
    refine tr_p (y_assign rfl) rfl rfl ?_
    refine tr_nil ?_
    refine tr_thenN ?_
    refine tr_seq ?_
    refine tr_region ?_
    refine tr_p (y_move rfl) rfl rfl ?_
    refine tr_p (y_move rfl) rfl rfl ?_
    refine tr_e (f_buildL (cs := #[r9.enc, r11.enc]) rfl rfl (bl_25_2_0_1 r9 r11) H) rfl rfl ?_
    rintro _ h20 ⟨s21, rfl, H⟩
    refine tr_e (e_call Try.call17 rfl (F.spateref8_Lists_ok H)) rfl rfl ?_
    rintro _ h22 ⟨r23, rfl, H⟩
    refine tr_p (y_assign rfl) rfl rfl ?_
    refine tr_nil ?_
    refine tr_thenN ?_
    refine tr_seq ?_
    refine tr_region ?_
    refine tr_p (y_move rfl) rfl rfl ?_
    refine tr_e (f_buildL (cs := #[r9.enc]) rfl rfl (bl_25_1_0 r9) H) rfl rfl ?_
    rintro _ h24 ⟨s25, rfl, H⟩
    refine tr_e (e_call Try.call17 rfl (F.spateref8_Lists_ok H)) rfl rfl ?_
    rintro _ h26 ⟨r27, rfl, H⟩
    refine tr_p (y_assign rfl) rfl rfl ?_
    refine tr_nil ?_
    refine tr_thenN ?_
    refine tr_seq ?_
    refine tr_region ?_
    refine tr_e (f_buildL (cs := ([]).toArray) rfl rfl (bl_51_0_) H) rfl rfl ?_
    rintro _ h28 ⟨s29, rfl, H⟩
    refine tr_p (y_move rfl) rfl rfl ?_
    refine tr_e (f_app rfl H) rfl rfl ?_
    rintro _ h30 ⟨s31, rfl, H⟩
    refine tr_p (y_assign rfl) rfl rfl ?_
    refine tr_nil ?_
    refine tr_thenN ?_
    refine tr_seq ?_
    refine tr_region ?_
    refine tr_e (f_buildL (cs := #[]) rfl rfl (bl_23_0_) H) rfl rfl ?_
    rintro _ h32 ⟨s33, rfl, H⟩
    refine tr_p (y_move rfl) rfl rfl ?_
    refine tr_e (f_app rfl H) rfl rfl ?_
    rintro _ h34 ⟨s35, rfl, H⟩
    refine tr_p (y_assign rfl) rfl rfl ?_
    refine tr_nil ?_
    refine tr_thenN ?_
    refine tr_seq ?_
    refine tr_seq ?_
    refine tr_region ?_
    refine tr_p (y_assign rfl) rfl rfl ?_
    refine tr_nil ?_
    refine tr_thenN ?_
    refine tr_block ?_
    obtain ⟨m163, H⟩ := H
    refine tr_sub [(0, (.int .i64 p0)), (11, r5.enc), (12, r7.enc), (13, r9.enc), (14, r11.enc), (15, r15.enc), (16, r19.enc), (17, r23.enc), (18, r27.enc), (19, s31.enc), (20, s35.enc), (21, (.int .i64 0))] ⟨rfl, rfl, rfl, rfl, rfl, rfl, rfl, rfl, rfl, rfl, rfl, rfl, trivial⟩ ?_
    refine tr_loop_j (fun m L' h => ∃ (x0 : Int) (x11 : Sl) (x12 : Sl) (x13 : Sl) (x14 : Sl) (x15 : Sl) (x16 : Sl) (x17 : Sl) (x18 : Sl) (x19 : Sl) (x20 : Sl) (x21 : Int), L' = [(0, (.int .i64 x0)), (11, x11.enc), (12, x12.enc), (13, x13.enc), (14, x14.enc), (15, x15.enc), (16, x16.enc), (17, x17.enc), (18, x18.enc), (19, x19.enc), (20, x20.enc), (21, (.int .i64 x21))] ∧ F.spatelaw8_MergeBook.l1 Q m x0 x11 x12 x13 x14 x15 x16 x17 x18 x19 x20 x21 h) ?_ ?_ m163 ⟨_, _, _, _, _, _, _, _, _, _, _, _, rfl, H⟩
    · rintro L' h ⟨_, _, _, _, _, _, _, _, _, _, _, _, _, H⟩; exact H
    · rintro q1 L' h ⟨x0, x11, x12, x13, x14, x15, x16, x17, x18, x19, x20, x21, rfl, H⟩
      unfold F.spatelaw8_MergeBook.l1 at H
      refine tr_seq ?_
      refine tr_seq ?_
      refine tr_region ?_
      refine tr_p (y_move rfl) rfl rfl ?_
      refine tr_p (y_lss rfl rfl) rfl rfl ?_
      refine tr_nil ?_
      refine tr_thenN ?_
      refine tr_cond rfl (fun g36 => ?_) (fun g36 => ?_)
      · replace H := H.1 g36
        refine tr_skip ?_
        refine tr_thenN ?_
        refine tr_seq_j (fun L' h => ∃ (x0 : Int) (x11 : Sl) (x12 : Sl) (x13 : Sl) (x14 : Sl) (x15 : Sl) (x16 : Sl) (x17 : Sl) (x18 : Sl) (x19 : Sl) (x20 : Sl) (x21 : Int), L' = [(0, (.int .i64 x0)), (11, x11.enc), (12, x12.enc), (13, x13.enc), (14, x14.enc), (15, x15.enc), (16, x16.enc), (17, x17.enc), (18, x18.enc), (19, x19.enc), (20, x20.enc), (21, (.int .i64 x21))] ∧ F.spatelaw8_MergeBook.j2 Q (F.spatelaw8_MergeBook.l1 Q q1) x0 x11 x12 x13 x14 x15 x16 x17 x18 x19 x20 x21 h) ?_ ?_
        · rintro L' h ⟨x0, x11, x12, x13, x14, x15, x16, x17, x18, x19, x20, x21, rfl, H⟩
          unfold F.spatelaw8_MergeBook.j2 at H
          refine tr_region ?_
          refine tr_p (y_move rfl) rfl rfl ?_
          refine tr_p (y_add rfl rfl) rfl rfl ?_
          refine tr_p (y_assign rfl) rfl rfl ?_
          refine tr_nil ?_
          refine tr_thenN ?_
          exact tr_join [(0, (.int .i64 x0)), (11, x11.enc), (12, x12.enc), (13, x13.enc), (14, x14.enc), (15, x15.enc), (16, x16.enc), (17, x17.enc), (18, x18.enc), (19, x19.enc), (20, x20.enc), (21, (.int .i64 (IntKind.wrap .i64 (x21 + 1))))] ⟨rfl, rfl, rfl, rfl, rfl, rfl, rfl, rfl, rfl, rfl, rfl, rfl, trivial⟩ ⟨_, _, _, _, _, _, _, _, _, _, _, _, rfl, H⟩
        · refine tr_block ?_
          refine tr_seq ?_
          refine tr_region ?_
          refine tr_p (y_assign rfl) rfl rfl ?_
          refine tr_nil ?_
          refine tr_thenN ?_
          refine tr_seq ?_
          refine tr_region ?_
          refine tr_p (y_assign rfl) rfl rfl ?_
          refine tr_nil ?_
          refine tr_thenN ?_
          refine tr_seq ?_
          refine tr_seq ?_
          refine tr_region ?_
          refine tr_p (y_assign rfl) rfl rfl ?_
          refine tr_nil ?_
          refine tr_thenN ?_
          refine tr_block ?_
          obtain ⟨m124, H⟩ := H
          refine tr_sub [(0, (.int .i64 x0)), (11, x11.enc), (12, x12.enc), (13, x13.enc), (14, x14.enc), (15, x15.enc), (16, x16.enc), (17, x17.enc), (18, x18.enc), (19, x19.enc), (20, x20.enc), (21, (.int .i64 x21)), (22, (⟨none, 0, 0⟩ : Sl).enc), (23, (⟨none, 0, 0⟩ : Sl).enc), (24, (.int .i64 0))] ⟨rfl, rfl, rfl, rfl, rfl, rfl, rfl, rfl, rfl, rfl, rfl, rfl, rfl, rfl, rfl, trivial⟩ ?_
          refine tr_loop_j (fun m L' h => ∃ (x0 : Int) (x11 : Sl) (x12 : Sl) (x13 : Sl) (x14 : Sl) (x15 : Sl) (x16 : Sl) (x17 : Sl) (x18 : Sl) (x19 : Sl) (x20 : Sl) (x21 : Int) (x22 : Sl) (x23 : Sl) (x24 : Int), L' = [(0, (.int .i64 x0)), (11, x11.enc), (12, x12.enc), (13, x13.enc), (14, x14.enc), (15, x15.enc), (16, x16.enc), (17, x17.enc), (18, x18.enc), (19, x19.enc), (20, x20.enc), (21, (.int .i64 x21)), (22, x22.enc), (23, x23.enc), (24, (.int .i64 x24))] ∧ F.spatelaw8_MergeBook.l3 Q (F.spatelaw8_MergeBook.l1 Q q1) m x0 x11 x12 x13 x14 x15 x16 x17 x18 x19 x20 x21 x22 x23 x24 h) ?_ ?_ m124 ⟨_, _, _, _, _, _, _, _, _, _, _, _, _, _, _, rfl, H⟩
          · rintro L' h ⟨_, _, _, _, _, _, _, _, _, _, _, _, _, _, _, _, H⟩; exact H
          · rintro q3 L' h ⟨x0, x11, x12, x13, x14, x15, x16, x17, x18, x19, x20, x21, x22, x23, x24, rfl, H⟩
            unfold F.spatelaw8_MergeBook.l3 at H
            refine tr_seq ?_
            refine tr_seq ?_
            refine tr_region ?_
            refine tr_p (y_move rfl) rfl rfl ?_
            refine tr_p (y_lss rfl rfl) rfl rfl ?_
            refine tr_nil ?_
            refine tr_thenN ?_
            refine tr_cond rfl (fun g37 => ?_) (fun g37 => ?_)
            · replace H := H.1 g37
              refine tr_skip ?_
              refine tr_thenN ?_
              refine tr_seq_j (fun L' h => ∃ (x0 : Int) (x11 : Sl) (x12 : Sl) (x13 : Sl) (x14 : Sl) (x15 : Sl) (x16 : Sl) (x17 : Sl) (x18 : Sl) (x19 : Sl) (x20 : Sl) (x21 : Int) (x22 : Sl) (x23 : Sl) (x24 : Int), L' = [(0, (.int .i64 x0)), (11, x11.enc), (12, x12.enc), (13, x13.enc), (14, x14.enc), (15, x15.enc), (16, x16.enc), (17, x17.enc), (18, x18.enc), (19, x19.enc), (20, x20.enc), (21, (.int .i64 x21)), (22, x22.enc), (23, x23.enc), (24, (.int .i64 x24))] ∧ F.spatelaw8_MergeBook.j4 Q (F.spatelaw8_MergeBook.l1 Q q1) (F.spatelaw8_MergeBook.l3 Q (F.spatelaw8_MergeBook.l1 Q q1) q3) x0 x11 x12 x13 x14 x15 x16 x17 x18 x19 x20 x21 x22 x23 x24 h) ?_ ?_
              · rintro L' h ⟨x0, x11, x12, x13, x14, x15, x16, x17, x18, x19, x20, x21, x22, x23, x24, rfl, H⟩
                unfold F.spatelaw8_MergeBook.j4 at H
                refine tr_region ?_
                refine tr_p (y_move rfl) rfl rfl ?_
                refine tr_p (y_add rfl rfl) rfl rfl ?_
                refine tr_p (y_assign rfl) rfl rfl ?_
                refine tr_nil ?_
                refine tr_thenN ?_
                exact tr_join [(0, (.int .i64 x0)), (11, x11.enc), (12, x12.enc), (13, x13.enc), (14, x14.enc), (15, x15.enc), (16, x16.enc), (17, x17.enc), (18, x18.enc), (19, x19.enc), (20, x20.enc), (21, (.int .i64 x21)), (22, x22.enc), (23, x23.enc), (24, (.int .i64 (IntKind.wrap .i64 (x24 + 1))))] ⟨rfl, rfl, rfl, rfl, rfl, rfl, rfl, rfl, rfl, rfl, rfl, rfl, rfl, rfl, rfl, trivial⟩ ⟨_, _, _, _, _, _, _, _, _, _, _, _, _, _, _, rfl, H⟩
              · refine tr_block ?_
                refine tr_seq ?_
                refine tr_region ?_
                refine tr_p (y_move rfl) rfl rfl ?_
                refine tr_p (y_move rfl) rfl rfl ?_
                refine tr_p (y_move rfl) rfl rfl ?_
                refine tr_p (y_move rfl) rfl rfl ?_
                refine tr_e (f_buildL (cs := #[x19.enc, x12.enc]) rfl rfl (bl_53_2_0_1 x19 x12) H) rfl rfl ?_
                rintro _ h38 ⟨s39, rfl, H⟩
                refine tr_e (e_call Try.call31 rfl (F.merge_Rows_ok H)) rfl rfl ?_
                rintro _ h40 ⟨r41, rfl, H⟩
                refine tr_p (y_move rfl) rfl rfl ?_
                refine tr_p (y_move rfl) rfl rfl ?_
                refine tr_e (f_buildL (cs := #[x19.enc]) rfl rfl (bl_53_1_0 x19) H) rfl rfl ?_
                rintro _ h42 ⟨s43, rfl, H⟩
                refine tr_e (e_call Try.call31 rfl (F.merge_Rows_ok H)) rfl rfl ?_
                rintro _ h44 ⟨r45, rfl, H⟩
                refine tr_p (y_move rfl) rfl rfl ?_
                refine tr_p (y_move rfl) rfl rfl ?_
                refine tr_e (f_buildL (cs := #[(⟨none, 0, 0⟩ : Sl).enc, x19.enc]) rfl rfl (bl_53_2_0_1 (⟨none, 0, 0⟩ : Sl) x19) H) rfl rfl ?_
                rintro _ h46 ⟨s47, rfl, H⟩
                refine tr_e (e_call Try.call31 rfl (F.merge_Rows_ok H)) rfl rfl ?_
                rintro _ h48 ⟨r49, rfl, H⟩
                refine tr_e (f_buildL (cs := #[r41.enc, r45.enc, r49.enc]) rfl rfl (bl_53_3_0_1_2 r41 r45 r49) H) rfl rfl ?_
                rintro _ h50 ⟨s51, rfl, H⟩
                refine tr_e (f_app rfl H) rfl rfl ?_
                rintro _ h52 ⟨s53, rfl, H⟩
                refine tr_p (y_assign rfl) rfl rfl ?_
                refine tr_nil ?_
                refine tr_thenN ?_
                refine tr_seq ?_
                refine tr_region ?_
                refine tr_p (y_move rfl) rfl rfl ?_
                refine tr_p (y_move rfl) rfl rfl ?_
                refine tr_p (y_move rfl) rfl rfl ?_
                refine tr_e (f_buildL (cs := #[x20.enc, x14.enc]) rfl rfl (bl_25_2_0_1 x20 x14) H) rfl rfl ?_
                rintro _ h54 ⟨s55, rfl, H⟩
                refine tr_e (e_call Try.call18 rfl (F.merge_Lists_int_ok H)) rfl rfl ?_
                rintro _ h56 ⟨r57, rfl, H⟩
                refine tr_p (y_move rfl) rfl rfl ?_
                refine tr_e (f_buildL (cs := #[x20.enc]) rfl rfl (bl_25_1_0 x20) H) rfl rfl ?_
                rintro _ h58 ⟨s59, rfl, H⟩
                refine tr_e (e_call Try.call18 rfl (F.merge_Lists_int_ok H)) rfl rfl ?_
                rintro _ h60 ⟨r61, rfl, H⟩
                refine tr_p (y_move rfl) rfl rfl ?_
                refine tr_e (f_buildL (cs := #[(⟨none, 0, 0⟩ : Sl).enc, x20.enc]) rfl rfl (bl_25_2_0_1 (⟨none, 0, 0⟩ : Sl) x20) H) rfl rfl ?_
                rintro _ h62 ⟨s63, rfl, H⟩
                refine tr_e (e_call Try.call18 rfl (F.merge_Lists_int_ok H)) rfl rfl ?_
                rintro _ h64 ⟨r65, rfl, H⟩
                refine tr_e (f_buildL (cs := #[r57.enc, r61.enc, r65.enc]) rfl rfl (bl_25_3_0_1_2 r57 r61 r65) H) rfl rfl ?_
                rintro _ h66 ⟨s67, rfl, H⟩
                refine tr_e (f_app rfl H) rfl rfl ?_
                rintro _ h68 ⟨s69, rfl, H⟩
                refine tr_p (y_assign rfl) rfl rfl ?_
                refine tr_nil ?_
                refine tr_thenN ?_
                refine tr_seq_j (fun L' h => ∃ (x0 : Int) (x11 : Sl) (x12 : Sl) (x13 : Sl) (x14 : Sl) (x15 : Sl) (x16 : Sl) (x17 : Sl) (x18 : Sl) (x19 : Sl) (x20 : Sl) (x21 : Int) (x22 : Sl) (x23 : Sl) (x24 : Int) (x155 : Bool), L' = [(0, (.int .i64 x0)), (11, x11.enc), (12, x12.enc), (13, x13.enc), (14, x14.enc), (15, x15.enc), (16, x16.enc), (17, x17.enc), (18, x18.enc), (19, x19.enc), (20, x20.enc), (21, (.int .i64 x21)), (22, x22.enc), (23, x23.enc), (24, (.int .i64 x24)), (155, (.bool x155))] ∧ F.spatelaw8_MergeBook.j5 Q (F.spatelaw8_MergeBook.l1 Q q1) (F.spatelaw8_MergeBook.l3 Q (F.spatelaw8_MergeBook.l1 Q q1) q3) x0 x11 x12 x13 x14 x15 x16 x17 x18 x19 x20 x21 x22 x23 x24 x155 h) ?_ ?_
                · rintro L' h ⟨x0, x11, x12, x13, x14, x15, x16, x17, x18, x19, x20, x21, x22, x23, x24, x155, rfl, H⟩
                  unfold F.spatelaw8_MergeBook.j5 at H
                  refine tr_cond rfl (fun g70 => ?_) (fun g70 => ?_)
                  · replace H := H.1 g70
                    refine tr_seq ?_
                    refine tr_region ?_
                    refine tr_p (y_assign rfl) rfl rfl ?_
                    refine tr_nil ?_
                    refine tr_thenN ?_
                    refine tr_ret ?_
                    refine tr_blockR ?_
                    refine tr_thenR ?_
                    refine tr_thenR ?_
                    refine tr_blockR ?_
                    refine tr_thenR ?_
                    refine tr_blockR ?_
                    refine tr_thenR ?_
                    refine tr_thenR ?_
                    refine tr_blockR ?_
                    refine tr_thenR ?_
                    exact tr_ret1 rfl rfl ⟨_, rfl, H⟩
                  · replace H := H.2 g70
                    refine tr_skip ?_
                    refine tr_blockN ?_
                    refine tr_thenN ?_
                    exact tr_join [(0, (.int .i64 x0)), (11, x11.enc), (12, x12.enc), (13, x13.enc), (14, x14.enc), (15, x15.enc), (16, x16.enc), (17, x17.enc), (18, x18.enc), (19, x19.enc), (20, x20.enc), (21, (.int .i64 x21)), (22, x22.enc), (23, x23.enc), (24, (.int .i64 x24))] ⟨rfl, rfl, rfl, rfl, rfl, rfl, rfl, rfl, rfl, rfl, rfl, rfl, rfl, rfl, rfl, trivial⟩ ⟨_, _, _, _, _, _, _, _, _, _, _, _, _, _, _, rfl, H⟩
                · refine tr_region ?_
                  refine tr_p (y_move rfl) rfl rfl ?_
                  refine tr_p (y_move rfl) rfl rfl ?_
                  refine tr_p (y_mul rfl rfl) rfl rfl ?_
                  obtain ⟨a71, e72, H⟩ := H
                  refine tr_p (f_idx (s := s53) Try.runUnderlying53 Try.sizeOf51 rfl rfl e72) rfl rfl ?_
                  obtain ⟨y73, k74, H⟩ := H
                  refine tr_h (y_ld Try.isAgg51 rfl) k74 rfl rfl ?_
                  refine tr_p (y_move rfl) rfl rfl ?_
                  refine tr_e (e_call Try.call32 rfl (F.spatelaw2_SameRows_ok H)) rfl rfl ?_
                  rintro _ h75 ⟨r76, rfl, H⟩
                  refine tr_p (y_not rfl) rfl rfl ?_
                  refine tr_p (y_move rfl) rfl rfl ?_
                  refine tr_split (t := 102) rfl (fun g77 => ?_) (fun g77 => ?_)
                  · replace H := H.1 g77
                    refine tr_s rfl rfl ?_
                    refine tr_s rfl rfl ?_
                    refine tr_s rfl rfl ?_
                    refine tr_s rfl rfl ?_
                    refine tr_s rfl rfl ?_
                    refine tr_s rfl rfl ?_
                    refine tr_s rfl rfl ?_
                    refine tr_s rfl rfl ?_
                    refine tr_s rfl rfl ?_
                    refine tr_p (y_pick_t rfl rfl) rfl rfl ?_
                    refine tr_p (y_move rfl) rfl rfl ?_
                    refine tr_s rfl rfl ?_
                    refine tr_s rfl rfl ?_
                    refine tr_s rfl rfl ?_
                    refine tr_s rfl rfl ?_
                    refine tr_s rfl rfl ?_
                    refine tr_s rfl rfl ?_
                    refine tr_s rfl rfl ?_
                    refine tr_s rfl rfl ?_
                    refine tr_s rfl rfl ?_
                    refine tr_p (y_pick_t rfl rfl) rfl rfl ?_
                    refine tr_p (y_move rfl) rfl rfl ?_
                    refine tr_s rfl rfl ?_
                    refine tr_s rfl rfl ?_
                    refine tr_s rfl rfl ?_
                    refine tr_s rfl rfl ?_
                    refine tr_s rfl rfl ?_
                    refine tr_s rfl rfl ?_
                    refine tr_s rfl rfl ?_
                    refine tr_s rfl rfl ?_
                    refine tr_p (y_pick_t rfl rfl) rfl rfl ?_
                    refine tr_p (y_move rfl) rfl rfl ?_
                    refine tr_s rfl rfl ?_
                    refine tr_s rfl rfl ?_
                    refine tr_s rfl rfl ?_
                    refine tr_s rfl rfl ?_
                    refine tr_s rfl rfl ?_
                    refine tr_s rfl rfl ?_
                    refine tr_s rfl rfl ?_
                    refine tr_s rfl rfl ?_
                    refine tr_s rfl rfl ?_
                    refine tr_p (y_pick_t rfl rfl) rfl rfl ?_
                    refine tr_p (y_move rfl) rfl rfl ?_
                    refine tr_s rfl rfl ?_
                    refine tr_s rfl rfl ?_
                    refine tr_s rfl rfl ?_
                    refine tr_s rfl rfl ?_
                    refine tr_s rfl rfl ?_
                    refine tr_s rfl rfl ?_
                    refine tr_s rfl rfl ?_
                    refine tr_s rfl rfl ?_
                    refine tr_s rfl rfl ?_
                    refine tr_p (y_pick_t rfl rfl) rfl rfl ?_
                    refine tr_nil ?_
                    refine tr_thenN ?_
                    exact tr_join [(0, (.int .i64 x0)), (11, x11.enc), (12, x12.enc), (13, x13.enc), (14, x14.enc), (15, x15.enc), (16, x16.enc), (17, x17.enc), (18, x18.enc), (19, x19.enc), (20, x20.enc), (21, (.int .i64 x21)), (22, s53.enc), (23, s69.enc), (24, (.int .i64 x24)), (155, (.bool true))] ⟨rfl, rfl, rfl, rfl, rfl, rfl, rfl, rfl, rfl, rfl, rfl, rfl, rfl, rfl, rfl, rfl, trivial⟩ ⟨_, _, _, _, _, _, _, _, _, _, _, _, _, _, _, _, rfl, H⟩
                  · replace H := H.2 g77
                    refine tr_p (y_move rfl) rfl rfl ?_
                    refine tr_p (y_move rfl) rfl rfl ?_
                    refine tr_p (y_mul rfl rfl) rfl rfl ?_
                    refine tr_p (y_add rfl rfl) rfl rfl ?_
                    obtain ⟨a78, e79, H⟩ := H
                    refine tr_p (f_idx (s := s53) Try.runUnderlying53 Try.sizeOf51 rfl rfl e79) rfl rfl ?_
                    obtain ⟨y80, k81, H⟩ := H
                    refine tr_h (y_ld Try.isAgg51 rfl) k81 rfl rfl ?_
                    refine tr_p (y_move rfl) rfl rfl ?_
                    refine tr_e (e_call Try.call32 rfl (F.spatelaw2_SameRows_ok H)) rfl rfl ?_
                    rintro _ h82 ⟨r83, rfl, H⟩
                    refine tr_p (y_not rfl) rfl rfl ?_
                    refine tr_p (y_pick_f rfl rfl) rfl rfl ?_
                    refine tr_p (y_move rfl) rfl rfl ?_
                    refine tr_split (t := 113) rfl (fun g84 => ?_) (fun g84 => ?_)
                    · replace H := H.1 g84
                      refine tr_s rfl rfl ?_
                      refine tr_s rfl rfl ?_
                      refine tr_s rfl rfl ?_
                      refine tr_s rfl rfl ?_
                      refine tr_s rfl rfl ?_
                      refine tr_s rfl rfl ?_
                      refine tr_s rfl rfl ?_
                      refine tr_s rfl rfl ?_
                      refine tr_s rfl rfl ?_
                      refine tr_p (y_pick_t rfl rfl) rfl rfl ?_
                      refine tr_p (y_move rfl) rfl rfl ?_
                      refine tr_s rfl rfl ?_
                      refine tr_s rfl rfl ?_
                      refine tr_s rfl rfl ?_
                      refine tr_s rfl rfl ?_
                      refine tr_s rfl rfl ?_
                      refine tr_s rfl rfl ?_
                      refine tr_s rfl rfl ?_
                      refine tr_s rfl rfl ?_
                      refine tr_p (y_pick_t rfl rfl) rfl rfl ?_
                      refine tr_p (y_move rfl) rfl rfl ?_
                      refine tr_s rfl rfl ?_
                      refine tr_s rfl rfl ?_
                      refine tr_s rfl rfl ?_
                      refine tr_s rfl rfl ?_
                      refine tr_s rfl rfl ?_
                      refine tr_s rfl rfl ?_
                      refine tr_s rfl rfl ?_
                      refine tr_s rfl rfl ?_
                      refine tr_s rfl rfl ?_
                      refine tr_p (y_pick_t rfl rfl) rfl rfl ?_
                      refine tr_p (y_move rfl) rfl rfl ?_
                      refine tr_s rfl rfl ?_
                      refine tr_s rfl rfl ?_
                      refine tr_s rfl rfl ?_
                      refine tr_s rfl rfl ?_
                      refine tr_s rfl rfl ?_
                      refine tr_s rfl rfl ?_
                      refine tr_s rfl rfl ?_
                      refine tr_s rfl rfl ?_
                      refine tr_s rfl rfl ?_
                      refine tr_p (y_pick_t rfl rfl) rfl rfl ?_
                      refine tr_nil ?_
                      refine tr_thenN ?_
                      exact tr_join [(0, (.int .i64 x0)), (11, x11.enc), (12, x12.enc), (13, x13.enc), (14, x14.enc), (15, x15.enc), (16, x16.enc), (17, x17.enc), (18, x18.enc), (19, x19.enc), (20, x20.enc), (21, (.int .i64 x21)), (22, s53.enc), (23, s69.enc), (24, (.int .i64 x24)), (155, (.bool true))] ⟨rfl, rfl, rfl, rfl, rfl, rfl, rfl, rfl, rfl, rfl, rfl, rfl, rfl, rfl, rfl, rfl, trivial⟩ ⟨_, _, _, _, _, _, _, _, _, _, _, _, _, _, _, _, rfl, H⟩
                    · replace H := H.2 g84
                      refine tr_p (y_move rfl) rfl rfl ?_
                      refine tr_p (y_move rfl) rfl rfl ?_
                      refine tr_p (y_mul rfl rfl) rfl rfl ?_
                      refine tr_p (y_add rfl rfl) rfl rfl ?_
                      obtain ⟨a85, e86, H⟩ := H
                      refine tr_p (f_idx (s := s53) Try.runUnderlying53 Try.sizeOf51 rfl rfl e86) rfl rfl ?_
                      obtain ⟨y87, k88, H⟩ := H
                      refine tr_h (y_ld Try.isAgg51 rfl) k88 rfl rfl ?_
                      refine tr_p (y_move rfl) rfl rfl ?_
                      refine tr_e (e_call Try.call32 rfl (F.spatelaw2_SameRows_ok H)) rfl rfl ?_
                      rintro _ h89 ⟨r90, rfl, H⟩
                      refine tr_p (y_not rfl) rfl rfl ?_
                      refine tr_p (y_pick_f rfl rfl) rfl rfl ?_
                      refine tr_p (y_move rfl) rfl rfl ?_
                      refine tr_split (t := 124) rfl (fun g91 => ?_) (fun g91 => ?_)
                      · replace H := H.1 g91
                        refine tr_s rfl rfl ?_
                        refine tr_s rfl rfl ?_
                        refine tr_s rfl rfl ?_
                        refine tr_s rfl rfl ?_
                        refine tr_s rfl rfl ?_
                        refine tr_s rfl rfl ?_
                        refine tr_s rfl rfl ?_
                        refine tr_s rfl rfl ?_
                        refine tr_p (y_pick_t rfl rfl) rfl rfl ?_
                        refine tr_p (y_move rfl) rfl rfl ?_
                        refine tr_s rfl rfl ?_
                        refine tr_s rfl rfl ?_
                        refine tr_s rfl rfl ?_
                        refine tr_s rfl rfl ?_
                        refine tr_s rfl rfl ?_
                        refine tr_s rfl rfl ?_
                        refine tr_s rfl rfl ?_
                        refine tr_s rfl rfl ?_
                        refine tr_s rfl rfl ?_
                        refine tr_p (y_pick_t rfl rfl) rfl rfl ?_
                        refine tr_p (y_move rfl) rfl rfl ?_
                        refine tr_s rfl rfl ?_
                        refine tr_s rfl rfl ?_
                        refine tr_s rfl rfl ?_
                        refine tr_s rfl rfl ?_
                        refine tr_s rfl rfl ?_
                        refine tr_s rfl rfl ?_
                        refine tr_s rfl rfl ?_
                        refine tr_s rfl rfl ?_
                        refine tr_s rfl rfl ?_
                        refine tr_p (y_pick_t rfl rfl) rfl rfl ?_
                        refine tr_nil ?_
                        refine tr_thenN ?_
                        exact tr_join [(0, (.int .i64 x0)), (11, x11.enc), (12, x12.enc), (13, x13.enc), (14, x14.enc), (15, x15.enc), (16, x16.enc), (17, x17.enc), (18, x18.enc), (19, x19.enc), (20, x20.enc), (21, (.int .i64 x21)), (22, s53.enc), (23, s69.enc), (24, (.int .i64 x24)), (155, (.bool true))] ⟨rfl, rfl, rfl, rfl, rfl, rfl, rfl, rfl, rfl, rfl, rfl, rfl, rfl, rfl, rfl, rfl, trivial⟩ ⟨_, _, _, _, _, _, _, _, _, _, _, _, _, _, _, _, rfl, H⟩
                      · replace H := H.2 g91
                        refine tr_p (y_move rfl) rfl rfl ?_
                        refine tr_p (y_move rfl) rfl rfl ?_
                        refine tr_p (y_mul rfl rfl) rfl rfl ?_
                        obtain ⟨a92, e93, H⟩ := H
                        refine tr_p (f_idx (s := s69) Try.runUnderlying25 Try.sizeOf23 rfl rfl e93) rfl rfl ?_
                        obtain ⟨y94, k95, H⟩ := H
                        refine tr_h (y_ld Try.isAgg23 rfl) k95 rfl rfl ?_
                        refine tr_p (y_move rfl) rfl rfl ?_
                        refine tr_e (e_call Try.call19 rfl (F.spatelaw8_same_ok H)) rfl rfl ?_
                        rintro _ h96 ⟨r97, rfl, H⟩
                        refine tr_p (y_not rfl) rfl rfl ?_
                        refine tr_p (y_pick_f rfl rfl) rfl rfl ?_
                        refine tr_p (y_move rfl) rfl rfl ?_
                        refine tr_split (t := 134) rfl (fun g98 => ?_) (fun g98 => ?_)
                        · replace H := H.1 g98
                          refine tr_s rfl rfl ?_
                          refine tr_s rfl rfl ?_
                          refine tr_s rfl rfl ?_
                          refine tr_s rfl rfl ?_
                          refine tr_s rfl rfl ?_
                          refine tr_s rfl rfl ?_
                          refine tr_s rfl rfl ?_
                          refine tr_s rfl rfl ?_
                          refine tr_s rfl rfl ?_
                          refine tr_p (y_pick_t rfl rfl) rfl rfl ?_
                          refine tr_p (y_move rfl) rfl rfl ?_
                          refine tr_s rfl rfl ?_
                          refine tr_s rfl rfl ?_
                          refine tr_s rfl rfl ?_
                          refine tr_s rfl rfl ?_
                          refine tr_s rfl rfl ?_
                          refine tr_s rfl rfl ?_
                          refine tr_s rfl rfl ?_
                          refine tr_s rfl rfl ?_
                          refine tr_s rfl rfl ?_
                          refine tr_p (y_pick_t rfl rfl) rfl rfl ?_
                          refine tr_nil ?_
                          refine tr_thenN ?_
                          exact tr_join [(0, (.int .i64 x0)), (11, x11.enc), (12, x12.enc), (13, x13.enc), (14, x14.enc), (15, x15.enc), (16, x16.enc), (17, x17.enc), (18, x18.enc), (19, x19.enc), (20, x20.enc), (21, (.int .i64 x21)), (22, s53.enc), (23, s69.enc), (24, (.int .i64 x24)), (155, (.bool true))] ⟨rfl, rfl, rfl, rfl, rfl, rfl, rfl, rfl, rfl, rfl, rfl, rfl, rfl, rfl, rfl, rfl, trivial⟩ ⟨_, _, _, _, _, _, _, _, _, _, _, _, _, _, _, _, rfl, H⟩
                        · replace H := H.2 g98
                          refine tr_p (y_move rfl) rfl rfl ?_
                          refine tr_p (y_move rfl) rfl rfl ?_
                          refine tr_p (y_mul rfl rfl) rfl rfl ?_
                          refine tr_p (y_add rfl rfl) rfl rfl ?_
                          obtain ⟨a99, e100, H⟩ := H
                          refine tr_p (f_idx (s := s69) Try.runUnderlying25 Try.sizeOf23 rfl rfl e100) rfl rfl ?_
                          obtain ⟨y101, k102, H⟩ := H
                          refine tr_h (y_ld Try.isAgg23 rfl) k102 rfl rfl ?_
                          refine tr_p (y_move rfl) rfl rfl ?_
                          refine tr_e (e_call Try.call19 rfl (F.spatelaw8_same_ok H)) rfl rfl ?_
                          rintro _ h103 ⟨r104, rfl, H⟩
                          refine tr_p (y_not rfl) rfl rfl ?_
                          refine tr_p (y_pick_f rfl rfl) rfl rfl ?_
                          refine tr_p (y_move rfl) rfl rfl ?_
                          refine tr_split (t := 145) rfl (fun g105 => ?_) (fun g105 => ?_)
                          · replace H := H.1 g105
                            refine tr_s rfl rfl ?_
                            refine tr_s rfl rfl ?_
                            refine tr_s rfl rfl ?_
                            refine tr_s rfl rfl ?_
                            refine tr_s rfl rfl ?_
                            refine tr_s rfl rfl ?_
                            refine tr_s rfl rfl ?_
                            refine tr_s rfl rfl ?_
                            refine tr_s rfl rfl ?_
                            refine tr_p (y_pick_t rfl rfl) rfl rfl ?_
                            refine tr_nil ?_
                            refine tr_thenN ?_
                            exact tr_join [(0, (.int .i64 x0)), (11, x11.enc), (12, x12.enc), (13, x13.enc), (14, x14.enc), (15, x15.enc), (16, x16.enc), (17, x17.enc), (18, x18.enc), (19, x19.enc), (20, x20.enc), (21, (.int .i64 x21)), (22, s53.enc), (23, s69.enc), (24, (.int .i64 x24)), (155, (.bool true))] ⟨rfl, rfl, rfl, rfl, rfl, rfl, rfl, rfl, rfl, rfl, rfl, rfl, rfl, rfl, rfl, rfl, trivial⟩ ⟨_, _, _, _, _, _, _, _, _, _, _, _, _, _, _, _, rfl, H⟩
                          · replace H := H.2 g105
                            refine tr_p (y_move rfl) rfl rfl ?_
                            refine tr_p (y_move rfl) rfl rfl ?_
                            refine tr_p (y_mul rfl rfl) rfl rfl ?_
                            refine tr_p (y_add rfl rfl) rfl rfl ?_
                            obtain ⟨a106, e107, H⟩ := H
                            refine tr_p (f_idx (s := s69) Try.runUnderlying25 Try.sizeOf23 rfl rfl e107) rfl rfl ?_
                            obtain ⟨y108, k109, H⟩ := H
                            refine tr_h (y_ld Try.isAgg23 rfl) k109 rfl rfl ?_
                            refine tr_p (y_move rfl) rfl rfl ?_
                            refine tr_e (e_call Try.call19 rfl (F.spatelaw8_same_ok H)) rfl rfl ?_
                            rintro _ h110 ⟨r111, rfl, H⟩
                            refine tr_p (y_not rfl) rfl rfl ?_
                            refine tr_p (y_pick_f rfl rfl) rfl rfl ?_
                            refine tr_nil ?_
                            refine tr_thenN ?_
                            exact tr_join [(0, (.int .i64 x0)), (11, x11.enc), (12, x12.enc), (13, x13.enc), (14, x14.enc), (15, x15.enc), (16, x16.enc), (17, x17.enc), (18, x18.enc), (19, x19.enc), (20, x20.enc), (21, (.int .i64 x21)), (22, s53.enc), (23, s69.enc), (24, (.int .i64 x24)), (155, (.bool (!r111)))] ⟨rfl, rfl, rfl, rfl, rfl, rfl, rfl, rfl, rfl, rfl, rfl, rfl, rfl, rfl, rfl, rfl, trivial⟩ ⟨_, _, _, _, _, _, _, _, _, _, _, _, _, _, _, _, rfl, H⟩
            · replace H := H.2 g37
              refine tr_exit ?_
              refine tr_thenE ?_
              refine tr_thenE ?_
              refine tr_hit ?_
              refine tr_thenN ?_
              refine tr_seq_j (fun L' h => ∃ (x0 : Int) (x11 : Sl) (x12 : Sl) (x13 : Sl) (x14 : Sl) (x15 : Sl) (x16 : Sl) (x17 : Sl) (x18 : Sl) (x19 : Sl) (x20 : Sl) (x21 : Int) (x175 : Bool), L' = [(0, (.int .i64 x0)), (11, x11.enc), (12, x12.enc), (13, x13.enc), (14, x14.enc), (15, x15.enc), (16, x16.enc), (17, x17.enc), (18, x18.enc), (19, x19.enc), (20, x20.enc), (21, (.int .i64 x21)), (175, (.bool x175))] ∧ F.spatelaw8_MergeBook.j6 Q (F.spatelaw8_MergeBook.l1 Q q1) x0 x11 x12 x13 x14 x15 x16 x17 x18 x19 x20 x21 x175 h) ?_ ?_
              · rintro L' h ⟨x0, x11, x12, x13, x14, x15, x16, x17, x18, x19, x20, x21, x175, rfl, H⟩
                unfold F.spatelaw8_MergeBook.j6 at H
                refine tr_cond rfl (fun g112 => ?_) (fun g112 => ?_)
                · replace H := H.1 g112
                  refine tr_seq ?_
                  refine tr_region ?_
                  refine tr_p (y_assign rfl) rfl rfl ?_
                  refine tr_nil ?_
                  refine tr_thenN ?_
                  refine tr_ret ?_
                  refine tr_blockR ?_
                  refine tr_thenR ?_
                  refine tr_thenR ?_
                  refine tr_blockR ?_
                  refine tr_thenR ?_
                  exact tr_ret1 rfl rfl ⟨_, rfl, H⟩
                · replace H := H.2 g112
                  refine tr_skip ?_
                  refine tr_blockN ?_
                  refine tr_thenN ?_
                  exact tr_join [(0, (.int .i64 x0)), (11, x11.enc), (12, x12.enc), (13, x13.enc), (14, x14.enc), (15, x15.enc), (16, x16.enc), (17, x17.enc), (18, x18.enc), (19, x19.enc), (20, x20.enc), (21, (.int .i64 x21))] ⟨rfl, rfl, rfl, rfl, rfl, rfl, rfl, rfl, rfl, rfl, rfl, rfl, trivial⟩ ⟨_, _, _, _, _, _, _, _, _, _, _, _, rfl, H⟩
              · refine tr_region ?_
                refine tr_p (y_move rfl) rfl rfl ?_
                refine tr_e (e_call Try.call36 rfl (F.spatelaw2_GrownRows_ok H)) rfl rfl ?_
                rintro _ h113 ⟨r114, rfl, H⟩
                refine tr_p (y_not rfl) rfl rfl ?_
                refine tr_p (y_move rfl) rfl rfl ?_
                refine tr_split (t := 159) rfl (fun g115 => ?_) (fun g115 => ?_)
                · replace H := H.1 g115
                  refine tr_s rfl rfl ?_
                  refine tr_s rfl rfl ?_
                  refine tr_s rfl rfl ?_
                  refine tr_p (y_pick_t rfl rfl) rfl rfl ?_
                  refine tr_p (y_move rfl) rfl rfl ?_
                  refine tr_s rfl rfl ?_
                  refine tr_s rfl rfl ?_
                  refine tr_s rfl rfl ?_
                  refine tr_s rfl rfl ?_
                  refine tr_p (y_pick_t rfl rfl) rfl rfl ?_
                  refine tr_p (y_move rfl) rfl rfl ?_
                  refine tr_s rfl rfl ?_
                  refine tr_s rfl rfl ?_
                  refine tr_s rfl rfl ?_
                  refine tr_s rfl rfl ?_
                  refine tr_p (y_pick_t rfl rfl) rfl rfl ?_
                  refine tr_nil ?_
                  refine tr_thenN ?_
                  exact tr_join [(0, (.int .i64 x0)), (11, x11.enc), (12, x12.enc), (13, x13.enc), (14, x14.enc), (15, x15.enc), (16, x16.enc), (17, x17.enc), (18, x18.enc), (19, x19.enc), (20, x20.enc), (21, (.int .i64 x21)), (175, (.bool true))] ⟨rfl, rfl, rfl, rfl, rfl, rfl, rfl, rfl, rfl, rfl, rfl, rfl, rfl, trivial⟩ ⟨_, _, _, _, _, _, _, _, _, _, _, _, _, rfl, H⟩
                · replace H := H.2 g115
                  refine tr_p (y_move rfl) rfl rfl ?_
                  refine tr_e (e_call Try.call37 rfl (F.spatelaw2_GrownInts_ok H)) rfl rfl ?_
                  rintro _ h116 ⟨r117, rfl, H⟩
                  refine tr_p (y_not rfl) rfl rfl ?_
                  refine tr_p (y_pick_f rfl rfl) rfl rfl ?_
                  refine tr_p (y_move rfl) rfl rfl ?_
                  refine tr_split (t := 164) rfl (fun g118 => ?_) (fun g118 => ?_)
                  · replace H := H.1 g118
                    refine tr_s rfl rfl ?_
                    refine tr_s rfl rfl ?_
                    refine tr_s rfl rfl ?_
                    refine tr_s rfl rfl ?_
                    refine tr_p (y_pick_t rfl rfl) rfl rfl ?_
                    refine tr_p (y_move rfl) rfl rfl ?_
                    refine tr_s rfl rfl ?_
                    refine tr_s rfl rfl ?_
                    refine tr_s rfl rfl ?_
                    refine tr_s rfl rfl ?_
                    refine tr_p (y_pick_t rfl rfl) rfl rfl ?_
                    refine tr_nil ?_
                    refine tr_thenN ?_
                    exact tr_join [(0, (.int .i64 x0)), (11, x11.enc), (12, x12.enc), (13, x13.enc), (14, x14.enc), (15, x15.enc), (16, x16.enc), (17, x17.enc), (18, x18.enc), (19, x19.enc), (20, x20.enc), (21, (.int .i64 x21)), (175, (.bool true))] ⟨rfl, rfl, rfl, rfl, rfl, rfl, rfl, rfl, rfl, rfl, rfl, rfl, rfl, trivial⟩ ⟨_, _, _, _, _, _, _, _, _, _, _, _, _, rfl, H⟩
                  · replace H := H.2 g118
                    refine tr_p (y_move rfl) rfl rfl ?_
                    refine tr_p (y_move rfl) rfl rfl ?_
                    refine tr_e (e_call Try.call32 rfl (F.spatelaw2_SameRows_ok H)) rfl rfl ?_
                    rintro _ h119 ⟨r120, rfl, H⟩
                    refine tr_p (y_not rfl) rfl rfl ?_
                    refine tr_p (y_pick_f rfl rfl) rfl rfl ?_
                    refine tr_p (y_move rfl) rfl rfl ?_
                    refine tr_split (t := 170) rfl (fun g121 => ?_) (fun g121 => ?_)
                    · replace H := H.1 g121
                      refine tr_s rfl rfl ?_
                      refine tr_s rfl rfl ?_
                      refine tr_s rfl rfl ?_
                      refine tr_s rfl rfl ?_
                      refine tr_p (y_pick_t rfl rfl) rfl rfl ?_
                      refine tr_nil ?_
                      refine tr_thenN ?_
                      exact tr_join [(0, (.int .i64 x0)), (11, x11.enc), (12, x12.enc), (13, x13.enc), (14, x14.enc), (15, x15.enc), (16, x16.enc), (17, x17.enc), (18, x18.enc), (19, x19.enc), (20, x20.enc), (21, (.int .i64 x21)), (175, (.bool true))] ⟨rfl, rfl, rfl, rfl, rfl, rfl, rfl, rfl, rfl, rfl, rfl, rfl, rfl, trivial⟩ ⟨_, _, _, _, _, _, _, _, _, _, _, _, _, rfl, H⟩
                    · replace H := H.2 g121
                      refine tr_p (y_move rfl) rfl rfl ?_
                      refine tr_p (y_move rfl) rfl rfl ?_
                      refine tr_e (e_call Try.call19 rfl (F.spatelaw8_same_ok H)) rfl rfl ?_
                      rintro _ h122 ⟨r123, rfl, H⟩
                      refine tr_p (y_not rfl) rfl rfl ?_
                      refine tr_p (y_pick_f rfl rfl) rfl rfl ?_
                      refine tr_nil ?_
                      refine tr_thenN ?_
                      exact tr_join [(0, (.int .i64 x0)), (11, x11.enc), (12, x12.enc), (13, x13.enc), (14, x14.enc), (15, x15.enc), (16, x16.enc), (17, x17.enc), (18, x18.enc), (19, x19.enc), (20, x20.enc), (21, (.int .i64 x21)), (175, (.bool (!r123)))] ⟨rfl, rfl, rfl, rfl, rfl, rfl, rfl, rfl, rfl, rfl, rfl, rfl, rfl, trivial⟩ ⟨_, _, _, _, _, _, _, _, _, _, _, _, _, rfl, H⟩
      · replace H := H.2 g36
        refine tr_exit ?_
        refine tr_thenE ?_
        refine tr_thenE ?_
        refine tr_hit ?_
        refine tr_thenN ?_
        refine tr_seq_j (fun L' h => ∃ (x0 : Int) (x12 : Sl) (x14 : Sl) (x19 : Sl) (x20 : Sl), L' = [(0, (.int .i64 x0)), (12, x12.enc), (14, x14.enc), (19, x19.enc), (20, x20.enc)] ∧ F.spatelaw8_MergeBook.j7 Q x0 x12 x14 x19 x20 h) ?_ ?_
        · rintro L' h ⟨x0, x12, x14, x19, x20, rfl, H⟩
          unfold F.spatelaw8_MergeBook.j7 at H
          refine tr_seq_j (fun L' h => ∃ (x0 : Int) (x12 : Sl) (x14 : Sl) (x19 : Sl) (x20 : Sl), L' = [(0, (.int .i64 x0)), (12, x12.enc), (14, x14.enc), (19, x19.enc), (20, x20.enc)] ∧ F.spatelaw8_MergeBook.j8 Q x0 x12 x14 x19 x20 h) ?_ ?_
          · rintro L' h ⟨x0, x12, x14, x19, x20, rfl, H⟩
            unfold F.spatelaw8_MergeBook.j8 at H
            refine tr_seq ?_
            refine tr_region ?_
            refine tr_p (y_move rfl) rfl rfl ?_
            refine tr_p (y_move rfl) rfl rfl ?_
            refine tr_p (y_move rfl) rfl rfl ?_
            refine tr_e (f_buildL (cs := #[x19.enc, x12.enc]) rfl rfl (bl_53_2_0_1 x19 x12) H) rfl rfl ?_
            rintro _ h125 ⟨s126, rfl, H⟩
            refine tr_e (e_call Try.call31 rfl (F.merge_Rows_ok H)) rfl rfl ?_
            rintro _ h127 ⟨r128, rfl, H⟩
            refine tr_p (y_move rfl) rfl rfl ?_
            refine tr_p (y_move rfl) rfl rfl ?_
            refine tr_p (y_move rfl) rfl rfl ?_
            refine tr_e (f_buildL (cs := #[x19.enc, x12.enc]) rfl rfl (bl_53_2_0_1 x19 x12) H) rfl rfl ?_
            rintro _ h129 ⟨s130, rfl, H⟩
            refine tr_e (e_call Try.call33 rfl (F.spateref8_Rows_ok H)) rfl rfl ?_
            rintro _ h131 ⟨r132, rfl, H⟩
            refine tr_e (e_call Try.call32 rfl (F.spatelaw2_SameRows_ok H)) rfl rfl ?_
            rintro _ h133 ⟨r134, rfl, H⟩
            refine tr_p (y_move rfl) rfl rfl ?_
            refine tr_split (t := 209) rfl (fun g135 => ?_) (fun g135 => ?_)
            · replace H := H.1 g135
              refine tr_p (y_move rfl) rfl rfl ?_
              refine tr_p (y_move rfl) rfl rfl ?_
              refine tr_e (f_buildL (cs := #[x20.enc, x14.enc]) rfl rfl (bl_25_2_0_1 x20 x14) H) rfl rfl ?_
              rintro _ h136 ⟨s137, rfl, H⟩
              refine tr_e (e_call Try.call18 rfl (F.merge_Lists_int_ok H)) rfl rfl ?_
              rintro _ h138 ⟨r139, rfl, H⟩
              refine tr_p (y_move rfl) rfl rfl ?_
              refine tr_p (y_move rfl) rfl rfl ?_
              refine tr_e (f_buildL (cs := #[x20.enc, x14.enc]) rfl rfl (bl_25_2_0_1 x20 x14) H) rfl rfl ?_
              rintro _ h140 ⟨s141, rfl, H⟩
              refine tr_e (e_call Try.call17 rfl (F.spateref8_Lists_ok H)) rfl rfl ?_
              rintro _ h142 ⟨r143, rfl, H⟩
              refine tr_e (e_call Try.call19 rfl (F.spatelaw8_same_ok H)) rfl rfl ?_
              rintro _ h144 ⟨r145, rfl, H⟩
              refine tr_p (y_pick_t rfl rfl) rfl rfl ?_
              refine tr_p (y_assign rfl) rfl rfl ?_
              refine tr_nil ?_
              refine tr_thenN ?_
              refine tr_ret ?_
              exact tr_ret1 rfl rfl ⟨_, rfl, H⟩
            · replace H := H.2 g135
              refine tr_s rfl rfl ?_
              refine tr_s rfl rfl ?_
              refine tr_s rfl rfl ?_
              refine tr_s rfl rfl ?_
              refine tr_s rfl rfl ?_
              refine tr_s rfl rfl ?_
              refine tr_s rfl rfl ?_
              refine tr_s rfl rfl ?_
              refine tr_s rfl rfl ?_
              refine tr_p (y_pick_f rfl rfl) rfl rfl ?_
              refine tr_p (y_assign rfl) rfl rfl ?_
              refine tr_nil ?_
              refine tr_thenN ?_
              refine tr_ret ?_
              exact tr_ret1 rfl rfl ⟨_, rfl, H⟩
          · refine tr_seq_j (fun L' h => ∃ (x0 : Int) (x12 : Sl) (x14 : Sl) (x19 : Sl) (x20 : Sl) (x191 : Bool), L' = [(0, (.int .i64 x0)), (12, x12.enc), (14, x14.enc), (19, x19.enc), (20, x20.enc), (191, (.bool x191))] ∧ F.spatelaw8_MergeBook.j9 Q x0 x12 x14 x19 x20 x191 h) ?_ ?_
            · rintro L' h ⟨x0, x12, x14, x19, x20, x191, rfl, H⟩
              unfold F.spatelaw8_MergeBook.j9 at H
              refine tr_cond rfl (fun g146 => ?_) (fun g146 => ?_)
              · replace H := H.1 g146
                refine tr_region ?_
                refine tr_p (y_move rfl) rfl rfl ?_
                refine tr_p (y_move rfl) rfl rfl ?_
                obtain ⟨a147, e148, H⟩ := H
                refine tr_p (f_idx (s := x20) Try.runUnderlying23 Try.sizeOf3 rfl rfl e148) rfl rfl ?_
                obtain ⟨y149, k150, H⟩ := H
                refine tr_h (y_ld Try.isAgg3 rfl) k150 rfl rfl ?_
                refine tr_p (y_sub rfl rfl) rfl rfl ?_
                obtain ⟨a151, e152, H⟩ := H
                refine tr_p (f_idx (s := x20) Try.runUnderlying23 Try.sizeOf3 rfl rfl e152) rfl rfl ?_
                refine tr_e (f_store (vs := [(.int .i64 (IntKind.wrap .i64 (y149 - 1)))]) Try.sizeOf3 rfl rfl rfl rfl (one1 rfl) H) rfl rfl ?_
                rintro _ h153 ⟨rfl, H⟩
                refine tr_nil ?_
                refine tr_thenN ?_
                exact tr_join [(0, (.int .i64 x0)), (12, x12.enc), (14, x14.enc), (19, x19.enc), (20, x20.enc)] ⟨rfl, rfl, rfl, rfl, rfl, trivial⟩ ⟨_, _, _, _, _, rfl, H⟩
              · replace H := H.2 g146
                refine tr_skip ?_
                refine tr_thenN ?_
                exact tr_join [(0, (.int .i64 x0)), (12, x12.enc), (14, x14.enc), (19, x19.enc), (20, x20.enc)] ⟨rfl, rfl, rfl, rfl, rfl, trivial⟩ ⟨_, _, _, _, _, rfl, H⟩
            · refine tr_region ?_
              refine tr_p (y_move rfl) rfl rfl ?_
              refine tr_p (y_len (ts := #[]) Try.runUnderlying23 (o := x20.ptr) (n := x20.len) (cap := x20.cap) rfl) rfl rfl ?_
              refine tr_p (y_gtr rfl rfl) rfl rfl ?_
              refine tr_p (y_move rfl) rfl rfl ?_
              refine tr_split (t := 186) rfl (fun g154 => ?_) (fun g154 => ?_)
              · replace H := H.1 g154
                refine tr_p (y_move rfl) rfl rfl ?_
                obtain ⟨a155, e156, H⟩ := H
                refine tr_p (f_idx (s := x20) Try.runUnderlying23 Try.sizeOf3 rfl rfl e156) rfl rfl ?_
                obtain ⟨y157, k158, H⟩ := H
                refine tr_h (y_ld Try.isAgg3 rfl) k158 rfl rfl ?_
                refine tr_p (y_gtr rfl rfl) rfl rfl ?_
                refine tr_p (y_pick_t rfl rfl) rfl rfl ?_
                refine tr_nil ?_
                refine tr_thenN ?_
                exact tr_join [(0, (.int .i64 x0)), (12, x12.enc), (14, x14.enc), (19, x19.enc), (20, x20.enc), (191, (.bool (decide (y157 > (-4611686018427387904)))))] ⟨rfl, rfl, rfl, rfl, rfl, rfl, trivial⟩ ⟨_, _, _, _, _, _, rfl, H⟩
              · replace H := H.2 g154
                refine tr_s rfl rfl ?_
                refine tr_s rfl rfl ?_
                refine tr_s rfl rfl ?_
                refine tr_s rfl rfl ?_
                refine tr_p (y_pick_f rfl rfl) rfl rfl ?_
                refine tr_nil ?_
                refine tr_thenN ?_
                exact tr_join [(0, (.int .i64 x0)), (12, x12.enc), (14, x14.enc), (19, x19.enc), (20, x20.enc), (191, (.bool false))] ⟨rfl, rfl, rfl, rfl, rfl, rfl, trivial⟩ ⟨_, _, _, _, _, _, rfl, H⟩
        · refine tr_seq ?_
          refine tr_region ?_
          refine tr_p (y_move rfl) rfl rfl ?_
          refine tr_p (y_len (ts := #[]) Try.runUnderlying51 (o := x19.ptr) (n := x19.len) (cap := x19.cap) rfl) rfl rfl ?_
          refine tr_p (y_gtr rfl rfl) rfl rfl ?_
          refine tr_nil ?_
          refine tr_thenN ?_
          refine tr_cond rfl (fun g159 => ?_) (fun g159 => ?_)
          · replace H := H.1 g159
            refine tr_region ?_
            refine tr_p (y_move rfl) rfl rfl ?_
            refine tr_p (f_build rfl (bd_64_0_1_2_3 77 7 7 7)) rfl rfl ?_
            obtain ⟨a160, e161, H⟩ := H
            refine tr_p (f_idx (s := x19) Try.runUnderlying51 Try.sizeOf66 rfl rfl e161) rfl rfl ?_
            refine tr_p (y_fa (off := 3) Try.runUnderlying66 fo_66_1 rfl) rfl rfl ?_
            refine tr_e (f_store (vs := (⟨77, 7, 7, 7⟩ : S_api_Agg).cells) Try.sizeOf64 rfl rfl cellsOfStruct rfl (by intro v hv; exact ones_S_api_Agg _ v hv) H) rfl rfl ?_
            rintro _ h162 ⟨rfl, H⟩
            refine tr_nil ?_
            refine tr_thenN ?_
            exact tr_join [(0, (.int .i64 x0)), (12, x12.enc), (14, x14.enc), (19, x19.enc), (20, x20.enc)] ⟨rfl, rfl, rfl, rfl, rfl, trivial⟩ ⟨_, _, _, _, _, rfl, H⟩
          · replace H := H.2 g159
            refine tr_skip ?_
            refine tr_thenN ?_
            exact tr_join [(0, (.int .i64 x0)), (12, x12.enc), (14, x14.enc), (19, x19.enc), (20, x20.enc)] ⟨rfl, rfl, rfl, rfl, rfl, trivial⟩ ⟨_, _, _, _, _, rfl, H⟩

end Go.Proofs.Ytidpbnbjpglhfaa.V
