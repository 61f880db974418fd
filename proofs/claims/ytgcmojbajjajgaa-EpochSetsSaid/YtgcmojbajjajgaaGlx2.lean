/- Printed by a program of this session (gen.py): Go functions as Lean functions over the heap, and that the Go code does what they say; no condition. -/
import Derived.Test.YtgcmojbajjajgaaGlx1
namespace Go.Proofs.Ytgcmojbajjajgaa.V
open Go
set_option linter.unusedVariables false
set_option maxRecDepth 100000
def F.spatelaw9_EpochOwn.j4 (Q : Bool → H → Prop) (C1 : Sl → (Option Addr) → (Option Addr) → Int → H → Prop) (x1 : Sl) (x5 : Option Addr) (x7 : Option Addr) (x9 : Int) (h : H) : Prop :=
  C1 x1 x5 x7 (IntKind.wrap .i64 (x9 + 1)) h
def F.spatelaw9_EpochOwn.l6 (Q : Bool → H → Prop) (C1 : Sl → (Option Addr) → (Option Addr) → Int → H → Prop) (C2 : Sl → (Option Addr) → (Option Addr) → Int → Sl → Int → H → Prop) : Nat → Sl → (Option Addr) → (Option Addr) → Int → Sl → Int → Int → H → Prop
  | 0, _, _, _, _, _, _, _, _ => False
  | q6 + 1, x1, x5, x7, x9, x10, x11, x12, h =>
    idxA x10 x11 1 fun a34 =>
    ldL h a34 fun y36 =>
    ((decide (x12 < (y36.len : Int))) = true →
    idxA x10 x11 1 fun a39 =>
    ldL h a39 fun y41 =>
    idxA y41 x12 1 fun a43 =>
    stH h a43 [(.int .i64 (IntKind.wrap .i64 ((IntKind.wrap .i64 (0 - (IntKind.wrap .i64 (1000 * x11)))) - x12)))] fun h45 =>
    (F.spatelaw9_EpochOwn.l6 Q C1 C2 q6) x1 x5 x7 x9 x10 x11 (IntKind.wrap .i64 (x12 + 1)) h45) ∧
    ((decide (x12 < (y36.len : Int))) = false →
    C2 x1 x5 x7 x9 x10 (IntKind.wrap .i64 (x11 + 1)) h)
def F.spatelaw9_EpochOwn.l9 (Q : Bool → H → Prop) (C1 : Sl → (Option Addr) → (Option Addr) → Int → H → Prop) (C2 : Sl → (Option Addr) → (Option Addr) → Int → Sl → Int → H → Prop) : Nat → Sl → (Option Addr) → (Option Addr) → Int → Sl → Int → Int → H → Prop
  | 0, _, _, _, _, _, _, _, _ => False
  | q9 + 1, x1, x5, x7, x9, x10, x14, x15, h =>
    idxA x10 x14 1 fun a60 =>
    ldL h a60 fun y62 =>
    ((decide ((IntKind.wrap .i64 (x15 + 1)) < (y62.len : Int))) = true →
    idxA x10 x14 1 fun a65 =>
    ldL h a65 fun y67 =>
    idxA y67 x15 1 fun a69 =>
    ldI .i64 h a69 fun y71 =>
    (((y71 != (IntKind.wrap .i64 ((IntKind.wrap .i64 (0 - (IntKind.wrap .i64 (1000 * x14)))) - x15)))) = true →
    Q false h) ∧
    (((y71 != (IntKind.wrap .i64 ((IntKind.wrap .i64 (0 - (IntKind.wrap .i64 (1000 * x14)))) - x15)))) = false →
    (F.spatelaw9_EpochOwn.l9 Q C1 C2 q9) x1 x5 x7 x9 x10 x14 (IntKind.wrap .i64 (x15 + 1)) h)) ∧
    ((decide ((IntKind.wrap .i64 (x15 + 1)) < (y62.len : Int))) = false →
    idxA x10 x14 1 fun a74 =>
    ldL h a74 fun y76 =>
    idxA x10 x14 1 fun a78 =>
    ldL h a78 fun y80 =>
    idxA y76 (IntKind.wrap .i64 ((y80.len : Int) - 1)) 1 fun a82 =>
    ldI .i64 h a82 fun y84 =>
    (((y84 != (IntKind.wrap .i64 (7 + x14)))) = true →
    Q false h) ∧
    (((y84 != (IntKind.wrap .i64 (7 + x14)))) = false →
    C2 x1 x5 x7 x9 x10 (IntKind.wrap .i64 (x14 + 1)) h))
def F.spatelaw9_EpochOwn.j10 (Q : Bool → H → Prop) (C1 : Sl → (Option Addr) → (Option Addr) → Int → H → Prop) (x1 : Sl) (x5 : Option Addr) (x7 : Option Addr) (x9 : Int) (x174 : Bool) (h : H) : Prop :=
  (x174 = true →
  Q false h) ∧
  (x174 = false →
  F.spatelaw9_EpochOwn.j4 Q C1 x1 x5 x7 x9 h)
def F.spatelaw9_EpochOwn.l8 (Q : Bool → H → Prop) (C1 : Sl → (Option Addr) → (Option Addr) → Int → H → Prop) : Nat → Sl → (Option Addr) → (Option Addr) → Int → Sl → Int → H → Prop
  | 0, _, _, _, _, _, _, _ => False
  | q8 + 1, x1, x5, x7, x9, x10, x14, h =>
    ((decide (x14 < 4)) = true →
    ∃ m, F.spatelaw9_EpochOwn.l9 Q C1 (F.spatelaw9_EpochOwn.l8 Q C1 q8) m x1 x5 x7 x9 x10 x14 0 h) ∧
    ((decide (x14 < 4)) = false →
    F.epoch_Book_Held x5 h fun r90 h89 =>
    F.epoch_Book_Held x7 h89 fun r92 h91 =>
    F.spatelaw9_ints r90 r92 h91 fun r94 h93 =>
    ((!r94) = true →
    F.spatelaw9_EpochOwn.j10 Q C1 x1 x5 x7 x9 true h93) ∧
    ((!r94) = false →
    F.epoch_Book_Dying x5 h93 fun r97 h96 =>
    F.epoch_Book_Dying x7 h96 fun r99 h98 =>
    F.spatelaw9_ints r97 r99 h98 fun r101 h100 =>
    F.spatelaw9_EpochOwn.j10 Q C1 x1 x5 x7 x9 (!r101) h100))
def F.spatelaw9_EpochOwn.l7 (Q : Bool → H → Prop) (C1 : Sl → (Option Addr) → (Option Addr) → Int → H → Prop) : Nat → Sl → (Option Addr) → (Option Addr) → Int → Sl → Int → H → Prop
  | 0, _, _, _, _, _, _, _ => False
  | q7 + 1, x1, x5, x7, x9, x10, x13, h =>
    ((decide (x13 < 4)) = true →
    idxA x10 x13 1 fun a48 =>
    ldL h a48 fun y50 =>
    newL h #[(.int .i64 (IntKind.wrap .i64 (7 + x13)))] ty_3 1 fun s53 h52 =>
    runL PP (Builtin.append_ #[29, 29] 29 #[y50.enc, s53.enc]) h52 fun s55 h54 =>
    idxA x10 x13 1 fun a56 =>
    stH h54 a56 [s55.enc] fun h58 =>
    (F.spatelaw9_EpochOwn.l7 Q C1 q7) x1 x5 x7 x9 x10 (IntKind.wrap .i64 (x13 + 1)) h58) ∧
    ((decide (x13 < 4)) = false →
    ∃ m, F.spatelaw9_EpochOwn.l8 Q C1 m x1 x5 x7 x9 x10 0 h)
def F.spatelaw9_EpochOwn.l5 (Q : Bool → H → Prop) (C1 : Sl → (Option Addr) → (Option Addr) → Int → H → Prop) : Nat → Sl → (Option Addr) → (Option Addr) → Int → Sl → Int → H → Prop
  | 0, _, _, _, _, _, _, _ => False
  | q5 + 1, x1, x5, x7, x9, x10, x11, h =>
    ((decide (x11 < 4)) = true →
    ∃ m, F.spatelaw9_EpochOwn.l6 Q C1 (F.spatelaw9_EpochOwn.l5 Q C1 q5) m x1 x5 x7 x9 x10 x11 0 h) ∧
    ((decide (x11 < 4)) = false →
    ∃ m, F.spatelaw9_EpochOwn.l7 Q C1 m x1 x5 x7 x9 x10 0 h)
def F.spatelaw9_EpochOwn.l3 (Q : Bool → H → Prop) : Nat → Sl → (Option Addr) → (Option Addr) → Int → H → Prop
  | 0, _, _, _, _, _ => False
  | q3 + 1, x1, x5, x7, x9, h =>
    ((decide (x9 < (x1.len : Int))) = true →
    idxA x1 x9 4 fun a11 =>
    ld_S_spatelaw9_Step h a11 fun y13 =>
    F.spatelaw9_do x5 y13 h fun r16 h15 =>
    idxA x1 x9 4 fun a17 =>
    ld_S_spatelaw9_Step h15 a17 fun y19 =>
    F.spatelaw9_do x7 y19 h15 fun r22 h21 =>
    F.epoch_Book_Held x5 h21 fun r24 h23 =>
    F.epoch_Book_Dying x5 h23 fun r26 h25 =>
    F.epoch_Book_Held x5 h25 fun r28 h27 =>
    F.epoch_Book_Dying x5 h27 fun r30 h29 =>
    newL h29 #[r24.enc, r26.enc, r28.enc, r30.enc] ty_29 4 fun s32 h31 =>
    ∃ m, F.spatelaw9_EpochOwn.l5 Q (F.spatelaw9_EpochOwn.l3 Q q3) m x1 x5 x7 x9 s32 0 h31) ∧
    ((decide (x9 < (x1.len : Int))) = false →
    F.spatelaw9_alike x5 x7 h fun r106 h105 =>
    Q r106 h105)
def F.spatelaw9_EpochOwn.j2 (Q : Bool → H → Prop) (x1 : Sl) (x5 : Option Addr) (x7 : Option Addr) (h : H) : Prop :=
  ∃ m, F.spatelaw9_EpochOwn.l3 Q m x1 x5 x7 0 h
def F.spatelaw9_EpochOwn.j11 (Q : Bool → H → Prop) (x1 : Sl) (x5 : Option Addr) (x7 : Option Addr) (x52 : Bool) (h : H) : Prop :=
  (x52 = true →
  Q false h) ∧
  (x52 = false →
  F.spatelaw9_EpochOwn.j2 Q x1 x5 x7 h)
def F.spatelaw9_EpochOwn.j1 (Q : Bool → H → Prop) (x0 : Int) (x1 : Sl) (h : H) : Prop :=
  F.epoch_New x0 h fun r5 r6 h4 =>
  F.epoch_New x0 h4 fun r8 r9 h7 =>
  (((r6 != 0)) = true →
  F.spatelaw9_EpochOwn.j11 Q x1 r5 r8 true h7) ∧
  (((r6 != 0)) = false →
  (((r9 != 0)) = true →
  F.spatelaw9_EpochOwn.j11 Q x1 r5 r8 true h7) ∧
  (((r9 != 0)) = false →
  (r5.isNone = true →
  F.spatelaw9_EpochOwn.j11 Q x1 r5 r8 true h7) ∧
  (r5.isNone = false →
  F.spatelaw9_EpochOwn.j11 Q x1 r5 r8 r8.isNone h7)))
def F.spatelaw9_EpochOwn.j12 (Q : Bool → H → Prop) (x0 : Int) (x1 : Sl) (x28 : Bool) (h : H) : Prop :=
  (x28 = true →
  Q true h) ∧
  (x28 = false →
  F.spatelaw9_EpochOwn.j1 Q x0 x1 h)
/-- spate/spatelaw9.EpochOwn -/
def F.spatelaw9_EpochOwn (p0 : Int) (p1 : Sl) (h : H) (Q : Bool → H → Prop) : Prop :=
  F.spatelaw9_known  h fun r2 h1 =>
  ((!r2) = true →
  Q false h1) ∧
  ((!r2) = false →
  ((decide ((p1.len : Int) > 400)) = true →
  F.spatelaw9_EpochOwn.j12 Q p0 p1 true h1) ∧
  ((decide ((p1.len : Int) > 400)) = false →
  ((decide (p0 < 1)) = true →
  F.spatelaw9_EpochOwn.j12 Q p0 p1 true h1) ∧
  ((decide (p0 < 1)) = false →
  F.spatelaw9_EpochOwn.j12 Q p0 p1 (decide (p0 > 64)) h1)))
theorem F.spatelaw9_EpochOwn_ok {p0 : Int} {p1 : Sl} {h : H} {Q : Bool → H → Prop} (H : F.spatelaw9_EpochOwn p0 p1 h Q) : Fn PP 7 ([(.int .i64 p0), p1.enc] : List Value).toArray h fun r h' => ∃ r0, r = (.bool r0) ∧ Q r0 h' := by
  unfold F.spatelaw9_EpochOwn at H
  refine fn_of Try.func7 Try.ntmps7 rfl rfl fun w0 => ?_
  refine tr_sub [(0, (.int .i64 p0)), (1, p1.enc)] ⟨rfl, rfl, trivial⟩ ?_
  refine tr_seq ?_
  refine tr_region ?_
  refine tr_p (y_assign rfl) rfl rfl ?_
  refine tr_nil ?_
  refine tr_thenN ?_
  refine tr_seq ?_
  refine tr_seq ?_
  refine tr_region ?_
  refine tr_e (e_call Try.call9 rfl (F.spatelaw9_known_ok H)) rfl rfl ?_
  rintro _ h1 ⟨r2, rfl, H⟩
  refine tr_p (y_not rfl) rfl rfl ?_
  refine tr_nil ?_
  refine tr_thenN ?_
  refine tr_cond rfl (fun g3 => ?_) (fun g3 => ?_)
  · replace H := H.1 g3
    refine tr_seq ?_
    refine tr_region ?_
    refine tr_p (y_assign rfl) rfl rfl ?_
    refine tr_nil ?_
    refine tr_thenN ?_
    refine tr_ret ?_
    refine tr_thenR ?_
    exact tr_ret1 rfl rfl ⟨_, rfl, H⟩
  · replace H := H.2 g3
    refine tr_skip ?_
    refine tr_thenN ?_
    refine tr_seq_j (fun L' h => ∃ (x0 : Int) (x1 : Sl), L' = [(0, (.int .i64 x0)), (1, x1.enc)] ∧ F.spatelaw9_EpochOwn.j1 Q x0 x1 h) ?_ ?_
    · rintro L' h ⟨x0, x1, rfl, H⟩
      unfold F.spatelaw9_EpochOwn.j1 at H
      refine tr_seq ?_
      refine tr_region ?_
      refine tr_p (y_move rfl) rfl rfl ?_
      refine tr_e (e_call Try.call10 rfl (F.epoch_New_ok H)) rfl rfl ?_
      rintro _ h4 ⟨r5, r6, rfl, H⟩
      refine tr_p (y_move rfl) rfl rfl ?_
      refine tr_p (y_ext rfl rfl) rfl rfl ?_
      refine tr_p (y_ext rfl rfl) rfl rfl ?_
      refine tr_p (y_assign rfl) rfl rfl ?_
      refine tr_p (y_assign rfl) rfl rfl ?_
      refine tr_nil ?_
      refine tr_thenN ?_
      refine tr_seq ?_
      refine tr_region ?_
      refine tr_p (y_move rfl) rfl rfl ?_
      refine tr_e (e_call Try.call10 rfl (F.epoch_New_ok H)) rfl rfl ?_
      rintro _ h7 ⟨r8, r9, rfl, H⟩
      refine tr_p (y_move rfl) rfl rfl ?_
      refine tr_p (y_ext rfl rfl) rfl rfl ?_
      refine tr_p (y_ext rfl rfl) rfl rfl ?_
      refine tr_p (y_assign rfl) rfl rfl ?_
      refine tr_p (y_assign rfl) rfl rfl ?_
      refine tr_nil ?_
      refine tr_thenN ?_
      refine tr_seq_j (fun L' h => ∃ (x1 : Sl) (x5 : Option Addr) (x7 : Option Addr), L' = [(1, x1.enc), (5, (.pointer x5)), (7, (.pointer x7))] ∧ F.spatelaw9_EpochOwn.j2 Q x1 x5 x7 h) ?_ ?_
      · rintro L' h ⟨x1, x5, x7, rfl, H⟩
        unfold F.spatelaw9_EpochOwn.j2 at H
        refine tr_seq ?_
        refine tr_seq ?_
        refine tr_region ?_
        refine tr_p (y_assign rfl) rfl rfl ?_
        refine tr_nil ?_
        refine tr_thenN ?_
        refine tr_block ?_
        obtain ⟨m107, H⟩ := H
        refine tr_sub [(1, x1.enc), (5, (.pointer x5)), (7, (.pointer x7)), (9, (.int .i64 0))] ⟨rfl, rfl, rfl, rfl, trivial⟩ ?_
        refine tr_loop_j (fun m L' h => ∃ (x1 : Sl) (x5 : Option Addr) (x7 : Option Addr) (x9 : Int), L' = [(1, x1.enc), (5, (.pointer x5)), (7, (.pointer x7)), (9, (.int .i64 x9))] ∧ F.spatelaw9_EpochOwn.l3 Q m x1 x5 x7 x9 h) ?_ ?_ m107 ⟨_, _, _, _, rfl, H⟩
        · rintro L' h ⟨_, _, _, _, _, H⟩; exact H
        · rintro q3 L' h ⟨x1, x5, x7, x9, rfl, H⟩
          unfold F.spatelaw9_EpochOwn.l3 at H
          refine tr_seq ?_
          refine tr_seq ?_
          refine tr_region ?_
          refine tr_p (y_move rfl) rfl rfl ?_
          refine tr_p (y_move rfl) rfl rfl ?_
          refine tr_p (y_len (ts := #[]) Try.runUnderlying23 (o := x1.ptr) (n := x1.len) (cap := x1.cap) rfl) rfl rfl ?_
          refine tr_p (y_lss rfl rfl) rfl rfl ?_
          refine tr_nil ?_
          refine tr_thenN ?_
          refine tr_cond rfl (fun g10 => ?_) (fun g10 => ?_)
          · replace H := H.1 g10
            refine tr_skip ?_
            refine tr_thenN ?_
            refine tr_seq_j (fun L' h => ∃ (x1 : Sl) (x5 : Option Addr) (x7 : Option Addr) (x9 : Int), L' = [(1, x1.enc), (5, (.pointer x5)), (7, (.pointer x7)), (9, (.int .i64 x9))] ∧ F.spatelaw9_EpochOwn.j4 Q (F.spatelaw9_EpochOwn.l3 Q q3) x1 x5 x7 x9 h) ?_ ?_
            · rintro L' h ⟨x1, x5, x7, x9, rfl, H⟩
              unfold F.spatelaw9_EpochOwn.j4 at H
              refine tr_region ?_
              refine tr_p (y_move rfl) rfl rfl ?_
              refine tr_p (y_add rfl rfl) rfl rfl ?_
              refine tr_p (y_assign rfl) rfl rfl ?_
              refine tr_nil ?_
              refine tr_thenN ?_
              exact tr_join [(1, x1.enc), (5, (.pointer x5)), (7, (.pointer x7)), (9, (.int .i64 (IntKind.wrap .i64 (x9 + 1))))] ⟨rfl, rfl, rfl, rfl, trivial⟩ ⟨_, _, _, _, rfl, H⟩
            · refine tr_block ?_
              refine tr_seq ?_
              refine tr_region ?_
              refine tr_p (y_move rfl) rfl rfl ?_
              refine tr_p (y_move rfl) rfl rfl ?_
              refine tr_p (y_move rfl) rfl rfl ?_
              obtain ⟨a11, e12, H⟩ := H
              refine tr_p (f_idx (s := x1) Try.runUnderlying23 Try.sizeOf31 rfl rfl e12) rfl rfl ?_
              obtain ⟨y13, k14, H⟩ := H
              refine tr_h (y_ldS Try.isAgg31 Try.sizeOf31 rfl rfl) k14 rfl rfl ?_
              refine tr_e (e_call Try.call13 rfl (F.spatelaw9_do_ok H)) rfl rfl ?_
              rintro _ h15 ⟨r16, rfl, H⟩
              refine tr_nil ?_
              refine tr_thenN ?_
              refine tr_seq ?_
              refine tr_region ?_
              refine tr_p (y_move rfl) rfl rfl ?_
              refine tr_p (y_move rfl) rfl rfl ?_
              refine tr_p (y_move rfl) rfl rfl ?_
              obtain ⟨a17, e18, H⟩ := H
              refine tr_p (f_idx (s := x1) Try.runUnderlying23 Try.sizeOf31 rfl rfl e18) rfl rfl ?_
              obtain ⟨y19, k20, H⟩ := H
              refine tr_h (y_ldS Try.isAgg31 Try.sizeOf31 rfl rfl) k20 rfl rfl ?_
              refine tr_e (e_call Try.call13 rfl (F.spatelaw9_do_ok H)) rfl rfl ?_
              rintro _ h21 ⟨r22, rfl, H⟩
              refine tr_nil ?_
              refine tr_thenN ?_
              refine tr_seq ?_
              refine tr_region ?_
              refine tr_p (y_move rfl) rfl rfl ?_
              refine tr_e (e_call Try.call11 rfl (F.epoch_Book_Held_ok H)) rfl rfl ?_
              rintro _ h23 ⟨r24, rfl, H⟩
              refine tr_p (y_move rfl) rfl rfl ?_
              refine tr_e (e_call Try.call12 rfl (F.epoch_Book_Dying_ok H)) rfl rfl ?_
              rintro _ h25 ⟨r26, rfl, H⟩
              refine tr_p (y_move rfl) rfl rfl ?_
              refine tr_e (e_call Try.call11 rfl (F.epoch_Book_Held_ok H)) rfl rfl ?_
              rintro _ h27 ⟨r28, rfl, H⟩
              refine tr_p (y_move rfl) rfl rfl ?_
              refine tr_e (e_call Try.call12 rfl (F.epoch_Book_Dying_ok H)) rfl rfl ?_
              rintro _ h29 ⟨r30, rfl, H⟩
              refine tr_e (f_buildL (cs := #[r24.enc, r26.enc, r28.enc, r30.enc]) rfl rfl (bl_43_4_0_1_2_3 r24 r26 r28 r30) H) rfl rfl ?_
              rintro _ h31 ⟨s32, rfl, H⟩
              refine tr_p (y_assign rfl) rfl rfl ?_
              refine tr_nil ?_
              refine tr_thenN ?_
              refine tr_seq ?_
              refine tr_seq ?_
              refine tr_region ?_
              refine tr_p (y_assign rfl) rfl rfl ?_
              refine tr_nil ?_
              refine tr_thenN ?_
              refine tr_block ?_
              obtain ⟨m104, H⟩ := H
              refine tr_sub [(1, x1.enc), (5, (.pointer x5)), (7, (.pointer x7)), (9, (.int .i64 x9)), (10, s32.enc), (11, (.int .i64 0))] ⟨rfl, rfl, rfl, rfl, rfl, rfl, trivial⟩ ?_
              refine tr_loop_j (fun m L' h => ∃ (x1 : Sl) (x5 : Option Addr) (x7 : Option Addr) (x9 : Int) (x10 : Sl) (x11 : Int), L' = [(1, x1.enc), (5, (.pointer x5)), (7, (.pointer x7)), (9, (.int .i64 x9)), (10, x10.enc), (11, (.int .i64 x11))] ∧ F.spatelaw9_EpochOwn.l5 Q (F.spatelaw9_EpochOwn.l3 Q q3) m x1 x5 x7 x9 x10 x11 h) ?_ ?_ m104 ⟨_, _, _, _, _, _, rfl, H⟩
              · rintro L' h ⟨_, _, _, _, _, _, _, H⟩; exact H
              · rintro q5 L' h ⟨x1, x5, x7, x9, x10, x11, rfl, H⟩
                unfold F.spatelaw9_EpochOwn.l5 at H
                refine tr_seq ?_
                refine tr_seq ?_
                refine tr_region ?_
                refine tr_p (y_move rfl) rfl rfl ?_
                refine tr_p (y_lss rfl rfl) rfl rfl ?_
                refine tr_nil ?_
                refine tr_thenN ?_
                refine tr_cond rfl (fun g33 => ?_) (fun g33 => ?_)
                · replace H := H.1 g33
                  refine tr_skip ?_
                  refine tr_thenN ?_
                  refine tr_seq ?_
                  refine tr_block ?_
                  refine tr_seq ?_
                  refine tr_region ?_
                  refine tr_p (y_assign rfl) rfl rfl ?_
                  refine tr_nil ?_
                  refine tr_thenN ?_
                  refine tr_block ?_
                  obtain ⟨m46, H⟩ := H
                  refine tr_sub [(1, x1.enc), (5, (.pointer x5)), (7, (.pointer x7)), (9, (.int .i64 x9)), (10, x10.enc), (11, (.int .i64 x11)), (12, (.int .i64 0))] ⟨rfl, rfl, rfl, rfl, rfl, rfl, rfl, trivial⟩ ?_
                  refine tr_loop_j (fun m L' h => ∃ (x1 : Sl) (x5 : Option Addr) (x7 : Option Addr) (x9 : Int) (x10 : Sl) (x11 : Int) (x12 : Int), L' = [(1, x1.enc), (5, (.pointer x5)), (7, (.pointer x7)), (9, (.int .i64 x9)), (10, x10.enc), (11, (.int .i64 x11)), (12, (.int .i64 x12))] ∧ F.spatelaw9_EpochOwn.l6 Q (F.spatelaw9_EpochOwn.l3 Q q3) (F.spatelaw9_EpochOwn.l5 Q (F.spatelaw9_EpochOwn.l3 Q q3) q5) m x1 x5 x7 x9 x10 x11 x12 h) ?_ ?_ m46 ⟨_, _, _, _, _, _, _, rfl, H⟩
                  · rintro L' h ⟨_, _, _, _, _, _, _, _, H⟩; exact H
                  · rintro q6 L' h ⟨x1, x5, x7, x9, x10, x11, x12, rfl, H⟩
                    unfold F.spatelaw9_EpochOwn.l6 at H
                    refine tr_seq ?_
                    refine tr_seq ?_
                    refine tr_region ?_
                    refine tr_p (y_move rfl) rfl rfl ?_
                    refine tr_p (y_move rfl) rfl rfl ?_
                    refine tr_p (y_move rfl) rfl rfl ?_
                    obtain ⟨a34, e35, H⟩ := H
                    refine tr_p (f_idx (s := x10) Try.runUnderlying43 Try.sizeOf29 rfl rfl e35) rfl rfl ?_
                    obtain ⟨y36, k37, H⟩ := H
                    refine tr_h (y_ld Try.isAgg29 rfl) k37 rfl rfl ?_
                    refine tr_p (y_len (ts := #[]) Try.runUnderlying29 (o := y36.ptr) (n := y36.len) (cap := y36.cap) rfl) rfl rfl ?_
                    refine tr_p (y_lss rfl rfl) rfl rfl ?_
                    refine tr_nil ?_
                    refine tr_thenN ?_
                    refine tr_cond rfl (fun g38 => ?_) (fun g38 => ?_)
                    · replace H := H.1 g38
                      refine tr_skip ?_
                      refine tr_thenN ?_
                      refine tr_seq ?_
                      refine tr_block ?_
                      refine tr_region ?_
                      refine tr_p (y_move rfl) rfl rfl ?_
                      refine tr_p (y_move rfl) rfl rfl ?_
                      obtain ⟨a39, e40, H⟩ := H
                      refine tr_p (f_idx (s := x10) Try.runUnderlying43 Try.sizeOf29 rfl rfl e40) rfl rfl ?_
                      obtain ⟨y41, k42, H⟩ := H
                      refine tr_h (y_ld Try.isAgg29 rfl) k42 rfl rfl ?_
                      refine tr_p (y_move rfl) rfl rfl ?_
                      refine tr_p (y_move rfl) rfl rfl ?_
                      refine tr_p (y_mul rfl rfl) rfl rfl ?_
                      refine tr_p (y_sub rfl rfl) rfl rfl ?_
                      refine tr_p (y_move rfl) rfl rfl ?_
                      refine tr_p (y_sub rfl rfl) rfl rfl ?_
                      obtain ⟨a43, e44, H⟩ := H
                      refine tr_p (f_idx (s := y41) Try.runUnderlying29 Try.sizeOf3 rfl rfl e44) rfl rfl ?_
                      refine tr_e (f_store (vs := [(.int .i64 (IntKind.wrap .i64 ((IntKind.wrap .i64 (0 - (IntKind.wrap .i64 (1000 * x11)))) - x12)))]) Try.sizeOf3 rfl rfl rfl rfl (one1 rfl) H) rfl rfl ?_
                      rintro _ h45 ⟨rfl, H⟩
                      refine tr_nil ?_
                      refine tr_blockN ?_
                      refine tr_thenN ?_
                      refine tr_region ?_
                      refine tr_p (y_move rfl) rfl rfl ?_
                      refine tr_p (y_add rfl rfl) rfl rfl ?_
                      refine tr_p (y_assign rfl) rfl rfl ?_
                      refine tr_nil ?_
                      refine tr_thenN ?_
                      exact tr_join [(1, x1.enc), (5, (.pointer x5)), (7, (.pointer x7)), (9, (.int .i64 x9)), (10, x10.enc), (11, (.int .i64 x11)), (12, (.int .i64 (IntKind.wrap .i64 (x12 + 1))))] ⟨rfl, rfl, rfl, rfl, rfl, rfl, rfl, trivial⟩ ⟨_, _, _, _, _, _, _, rfl, H⟩
                    · replace H := H.2 g38
                      refine tr_exit ?_
                      refine tr_thenE ?_
                      refine tr_thenE ?_
                      refine tr_hit ?_
                      refine tr_blockN ?_
                      refine tr_thenN ?_
                      refine tr_region ?_
                      refine tr_p (y_move rfl) rfl rfl ?_
                      refine tr_p (y_add rfl rfl) rfl rfl ?_
                      refine tr_p (y_assign rfl) rfl rfl ?_
                      refine tr_nil ?_
                      refine tr_thenN ?_
                      exact tr_join [(1, x1.enc), (5, (.pointer x5)), (7, (.pointer x7)), (9, (.int .i64 x9)), (10, x10.enc), (11, (.int .i64 (IntKind.wrap .i64 (x11 + 1))))] ⟨rfl, rfl, rfl, rfl, rfl, rfl, trivial⟩ ⟨_, _, _, _, _, _, rfl, H⟩
                · replace H := H.2 g33
                  refine tr_exit ?_
                  refine tr_thenE ?_
                  refine tr_thenE ?_
                  refine tr_hit ?_
                  refine tr_thenN ?_
                  refine tr_seq ?_
                  refine tr_seq ?_
                  refine tr_region ?_
                  refine tr_p (y_assign rfl) rfl rfl ?_
                  refine tr_nil ?_
                  refine tr_thenN ?_
                  refine tr_block ?_
                  obtain ⟨m103, H⟩ := H
                  refine tr_sub [(1, x1.enc), (5, (.pointer x5)), (7, (.pointer x7)), (9, (.int .i64 x9)), (10, x10.enc), (13, (.int .i64 0))] ⟨rfl, rfl, rfl, rfl, rfl, rfl, trivial⟩ ?_
                  refine tr_loop_j (fun m L' h => ∃ (x1 : Sl) (x5 : Option Addr) (x7 : Option Addr) (x9 : Int) (x10 : Sl) (x13 : Int), L' = [(1, x1.enc), (5, (.pointer x5)), (7, (.pointer x7)), (9, (.int .i64 x9)), (10, x10.enc), (13, (.int .i64 x13))] ∧ F.spatelaw9_EpochOwn.l7 Q (F.spatelaw9_EpochOwn.l3 Q q3) m x1 x5 x7 x9 x10 x13 h) ?_ ?_ m103 ⟨_, _, _, _, _, _, rfl, H⟩
                  · rintro L' h ⟨_, _, _, _, _, _, _, H⟩; exact H
                  · rintro q7 L' h ⟨x1, x5, x7, x9, x10, x13, rfl, H⟩
                    unfold F.spatelaw9_EpochOwn.l7 at H
                    refine tr_seq ?_
                    refine tr_seq ?_
                    refine tr_region ?_
                    refine tr_p (y_move rfl) rfl rfl ?_
                    refine tr_p (y_lss rfl rfl) rfl rfl ?_
                    refine tr_nil ?_
                    refine tr_thenN ?_
                    refine tr_cond rfl (fun g47 => ?_) (fun g47 => ?_)
                    · replace H := H.1 g47
                      refine tr_skip ?_
                      refine tr_thenN ?_
                      refine tr_seq ?_
                      refine tr_block ?_
                      refine tr_region ?_
                      refine tr_p (y_move rfl) rfl rfl ?_
                      refine tr_p (y_move rfl) rfl rfl ?_
                      refine tr_p (y_move rfl) rfl rfl ?_
                      refine tr_p (y_move rfl) rfl rfl ?_
                      obtain ⟨a48, e49, H⟩ := H
                      refine tr_p (f_idx (s := x10) Try.runUnderlying43 Try.sizeOf29 rfl rfl e49) rfl rfl ?_
                      obtain ⟨y50, k51, H⟩ := H
                      refine tr_h (y_ld Try.isAgg29 rfl) k51 rfl rfl ?_
                      refine tr_p (y_move rfl) rfl rfl ?_
                      refine tr_p (y_add rfl rfl) rfl rfl ?_
                      refine tr_e (f_buildL (cs := #[(.int .i64 (IntKind.wrap .i64 (7 + x13)))]) rfl rfl (bl_29_1_0 (IntKind.wrap .i64 (7 + x13))) H) rfl rfl ?_
                      rintro _ h52 ⟨s53, rfl, H⟩
                      refine tr_e (f_app rfl H) rfl rfl ?_
                      rintro _ h54 ⟨s55, rfl, H⟩
                      obtain ⟨a56, e57, H⟩ := H
                      refine tr_p (f_idx (s := x10) Try.runUnderlying43 Try.sizeOf29 rfl rfl e57) rfl rfl ?_
                      refine tr_e (f_store (vs := [s55.enc]) Try.sizeOf29 rfl rfl rfl rfl (one1 rfl) H) rfl rfl ?_
                      rintro _ h58 ⟨rfl, H⟩
                      refine tr_nil ?_
                      refine tr_blockN ?_
                      refine tr_thenN ?_
                      refine tr_region ?_
                      refine tr_p (y_move rfl) rfl rfl ?_
                      refine tr_p (y_add rfl rfl) rfl rfl ?_
                      refine tr_p (y_assign rfl) rfl rfl ?_
                      refine tr_nil ?_
                      refine tr_thenN ?_
                      exact tr_join [(1, x1.enc), (5, (.pointer x5)), (7, (.pointer x7)), (9, (.int .i64 x9)), (10, x10.enc), (13, (.int .i64 (IntKind.wrap .i64 (x13 + 1))))] ⟨rfl, rfl, rfl, rfl, rfl, rfl, trivial⟩ ⟨_, _, _, _, _, _, rfl, H⟩
                    · replace H := H.2 g47
                      refine tr_exit ?_
                      refine tr_thenE ?_
                      refine tr_thenE ?_
                      refine tr_hit ?_
                      refine tr_thenN ?_
                      refine tr_seq ?_
                      refine tr_seq ?_
                      refine tr_region ?_
                      refine tr_p (y_assign rfl) rfl rfl ?_
                      refine tr_nil ?_
                      refine tr_thenN ?_
                      refine tr_block ?_
                      obtain ⟨m102, H⟩ := H
                      refine tr_sub [(1, x1.enc), (5, (.pointer x5)), (7, (.pointer x7)), (9, (.int .i64 x9)), (10, x10.enc), (14, (.int .i64 0))] ⟨rfl, rfl, rfl, rfl, rfl, rfl, trivial⟩ ?_
                      refine tr_loop_j (fun m L' h => ∃ (x1 : Sl) (x5 : Option Addr) (x7 : Option Addr) (x9 : Int) (x10 : Sl) (x14 : Int), L' = [(1, x1.enc), (5, (.pointer x5)), (7, (.pointer x7)), (9, (.int .i64 x9)), (10, x10.enc), (14, (.int .i64 x14))] ∧ F.spatelaw9_EpochOwn.l8 Q (F.spatelaw9_EpochOwn.l3 Q q3) m x1 x5 x7 x9 x10 x14 h) ?_ ?_ m102 ⟨_, _, _, _, _, _, rfl, H⟩
                      · rintro L' h ⟨_, _, _, _, _, _, _, H⟩; exact H
                      · rintro q8 L' h ⟨x1, x5, x7, x9, x10, x14, rfl, H⟩
                        unfold F.spatelaw9_EpochOwn.l8 at H
                        refine tr_seq ?_
                        refine tr_seq ?_
                        refine tr_region ?_
                        refine tr_p (y_move rfl) rfl rfl ?_
                        refine tr_p (y_lss rfl rfl) rfl rfl ?_
                        refine tr_nil ?_
                        refine tr_thenN ?_
                        refine tr_cond rfl (fun g59 => ?_) (fun g59 => ?_)
                        · replace H := H.1 g59
                          refine tr_skip ?_
                          refine tr_thenN ?_
                          refine tr_seq ?_
                          refine tr_block ?_
                          refine tr_seq ?_
                          refine tr_seq ?_
                          refine tr_region ?_
                          refine tr_p (y_assign rfl) rfl rfl ?_
                          refine tr_nil ?_
                          refine tr_thenN ?_
                          refine tr_block ?_
                          obtain ⟨m87, H⟩ := H
                          refine tr_sub [(1, x1.enc), (5, (.pointer x5)), (7, (.pointer x7)), (9, (.int .i64 x9)), (10, x10.enc), (14, (.int .i64 x14)), (15, (.int .i64 0))] ⟨rfl, rfl, rfl, rfl, rfl, rfl, rfl, trivial⟩ ?_
                          refine tr_loop_j (fun m L' h => ∃ (x1 : Sl) (x5 : Option Addr) (x7 : Option Addr) (x9 : Int) (x10 : Sl) (x14 : Int) (x15 : Int), L' = [(1, x1.enc), (5, (.pointer x5)), (7, (.pointer x7)), (9, (.int .i64 x9)), (10, x10.enc), (14, (.int .i64 x14)), (15, (.int .i64 x15))] ∧ F.spatelaw9_EpochOwn.l9 Q (F.spatelaw9_EpochOwn.l3 Q q3) (F.spatelaw9_EpochOwn.l8 Q (F.spatelaw9_EpochOwn.l3 Q q3) q8) m x1 x5 x7 x9 x10 x14 x15 h) ?_ ?_ m87 ⟨_, _, _, _, _, _, _, rfl, H⟩
                          · rintro L' h ⟨_, _, _, _, _, _, _, _, H⟩; exact H
                          · rintro q9 L' h ⟨x1, x5, x7, x9, x10, x14, x15, rfl, H⟩
                            unfold F.spatelaw9_EpochOwn.l9 at H
                            refine tr_seq ?_
                            refine tr_seq ?_
                            refine tr_region ?_
                            refine tr_p (y_move rfl) rfl rfl ?_
                            refine tr_p (y_add rfl rfl) rfl rfl ?_
                            refine tr_p (y_move rfl) rfl rfl ?_
                            refine tr_p (y_move rfl) rfl rfl ?_
                            obtain ⟨a60, e61, H⟩ := H
                            refine tr_p (f_idx (s := x10) Try.runUnderlying43 Try.sizeOf29 rfl rfl e61) rfl rfl ?_
                            obtain ⟨y62, k63, H⟩ := H
                            refine tr_h (y_ld Try.isAgg29 rfl) k63 rfl rfl ?_
                            refine tr_p (y_len (ts := #[]) Try.runUnderlying29 (o := y62.ptr) (n := y62.len) (cap := y62.cap) rfl) rfl rfl ?_
                            refine tr_p (y_lss rfl rfl) rfl rfl ?_
                            refine tr_nil ?_
                            refine tr_thenN ?_
                            refine tr_cond rfl (fun g64 => ?_) (fun g64 => ?_)
                            · replace H := H.1 g64
                              refine tr_skip ?_
                              refine tr_thenN ?_
                              refine tr_seq ?_
                              refine tr_block ?_
                              refine tr_seq ?_
                              refine tr_region ?_
                              refine tr_p (y_move rfl) rfl rfl ?_
                              refine tr_p (y_move rfl) rfl rfl ?_
                              obtain ⟨a65, e66, H⟩ := H
                              refine tr_p (f_idx (s := x10) Try.runUnderlying43 Try.sizeOf29 rfl rfl e66) rfl rfl ?_
                              obtain ⟨y67, k68, H⟩ := H
                              refine tr_h (y_ld Try.isAgg29 rfl) k68 rfl rfl ?_
                              refine tr_p (y_move rfl) rfl rfl ?_
                              obtain ⟨a69, e70, H⟩ := H
                              refine tr_p (f_idx (s := y67) Try.runUnderlying29 Try.sizeOf3 rfl rfl e70) rfl rfl ?_
                              obtain ⟨y71, k72, H⟩ := H
                              refine tr_h (y_ld Try.isAgg3 rfl) k72 rfl rfl ?_
                              refine tr_p (y_move rfl) rfl rfl ?_
                              refine tr_p (y_mul rfl rfl) rfl rfl ?_
                              refine tr_p (y_sub rfl rfl) rfl rfl ?_
                              refine tr_p (y_move rfl) rfl rfl ?_
                              refine tr_p (y_sub rfl rfl) rfl rfl ?_
                              refine tr_p (y_neq rfl rfl) rfl rfl ?_
                              refine tr_nil ?_
                              refine tr_thenN ?_
                              refine tr_cond rfl (fun g73 => ?_) (fun g73 => ?_)
                              · replace H := H.1 g73
                                refine tr_seq ?_
                                refine tr_region ?_
                                refine tr_p (y_assign rfl) rfl rfl ?_
                                refine tr_nil ?_
                                refine tr_thenN ?_
                                refine tr_ret ?_
                                refine tr_blockR ?_
                                refine tr_thenR ?_
                                refine tr_thenR ?_
                                refine tr_blockR ?_
                                refine tr_thenR ?_
                                refine tr_blockR ?_
                                refine tr_thenR ?_
                                refine tr_thenR ?_
                                refine tr_blockR ?_
                                refine tr_thenR ?_
                                refine tr_blockR ?_
                                refine tr_thenR ?_
                                refine tr_thenR ?_
                                refine tr_blockR ?_
                                refine tr_thenR ?_
                                exact tr_ret1 rfl rfl ⟨_, rfl, H⟩
                              · replace H := H.2 g73
                                refine tr_skip ?_
                                refine tr_blockN ?_
                                refine tr_thenN ?_
                                refine tr_region ?_
                                refine tr_p (y_move rfl) rfl rfl ?_
                                refine tr_p (y_add rfl rfl) rfl rfl ?_
                                refine tr_p (y_assign rfl) rfl rfl ?_
                                refine tr_nil ?_
                                refine tr_thenN ?_
                                exact tr_join [(1, x1.enc), (5, (.pointer x5)), (7, (.pointer x7)), (9, (.int .i64 x9)), (10, x10.enc), (14, (.int .i64 x14)), (15, (.int .i64 (IntKind.wrap .i64 (x15 + 1))))] ⟨rfl, rfl, rfl, rfl, rfl, rfl, rfl, trivial⟩ ⟨_, _, _, _, _, _, _, rfl, H⟩
                            · replace H := H.2 g64
                              refine tr_exit ?_
                              refine tr_thenE ?_
                              refine tr_thenE ?_
                              refine tr_hit ?_
                              refine tr_thenN ?_
                              refine tr_seq ?_
                              refine tr_draw mixed [0, 0, 3, 7, 0, 0, 48, 112, 240, 496, 1023, 2047, 0, 4096, 16383] (by kernel_rfl) ?_
                              refine g_p 0 1 rfl (by kernel_rfl) (y_move rfl) rfl rfl ?_
                              refine g_p 1 3 rfl (by kernel_rfl) (y_move rfl) rfl rfl ?_
                              obtain ⟨a74, e75, H⟩ := H
                              refine g_p 2 7 rfl (by kernel_rfl) (f_idx (s := x10) Try.runUnderlying43 Try.sizeOf29 rfl rfl e75) rfl rfl ?_
                              obtain ⟨y76, k77, H⟩ := H
                              refine g_h 3 15 rfl (by kernel_rfl) (y_ld Try.isAgg29 rfl) k77 rfl rfl ?_
                              refine g_p 4 31 rfl (by kernel_rfl) (y_move rfl) rfl rfl ?_
                              refine g_p 5 63 rfl (by kernel_rfl) (y_move rfl) rfl rfl ?_
                              obtain ⟨a78, e79, H⟩ := H
                              refine g_p 6 127 rfl (by kernel_rfl) (f_idx (s := x10) Try.runUnderlying43 Try.sizeOf29 rfl rfl e79) rfl rfl ?_
                              obtain ⟨y80, k81, H⟩ := H
                              refine g_h 7 255 rfl (by kernel_rfl) (y_ld Try.isAgg29 rfl) k81 rfl rfl ?_
                              refine g_p 8 511 rfl (by kernel_rfl) (y_len (ts := #[]) Try.runUnderlying29 (o := y80.ptr) (n := y80.len) (cap := y80.cap) rfl) rfl rfl ?_
                              refine g_p 9 1023 rfl (by kernel_rfl) (y_sub rfl rfl) rfl rfl ?_
                              obtain ⟨a82, e83, H⟩ := H
                              refine g_p 10 2047 rfl (by kernel_rfl) (f_idx (s := y76) Try.runUnderlying29 Try.sizeOf3 rfl rfl e83) rfl rfl ?_
                              obtain ⟨y84, k85, H⟩ := H
                              refine g_h 11 4095 rfl (by kernel_rfl) (y_ld Try.isAgg3 rfl) k85 rfl rfl ?_
                              refine g_p 12 8191 rfl (by kernel_rfl) (y_move rfl) rfl rfl ?_
                              refine g_p 13 16383 rfl (by kernel_rfl) (y_add rfl rfl) rfl rfl ?_
                              refine g_p 14 32767 rfl (by kernel_rfl) (y_neq rfl rfl) rfl rfl ?_
                              refine g_d (by kernel_rfl) ?_
                              refine tr_thenN ?_
                              refine tr_cond rfl (fun g86 => ?_) (fun g86 => ?_)
                              · replace H := H.1 g86
                                refine tr_seq ?_
                                refine tr_region ?_
                                refine tr_p (y_assign rfl) rfl rfl ?_
                                refine tr_nil ?_
                                refine tr_thenN ?_
                                refine tr_ret ?_
                                refine tr_blockR ?_
                                refine tr_thenR ?_
                                refine tr_thenR ?_
                                refine tr_blockR ?_
                                refine tr_thenR ?_
                                refine tr_blockR ?_
                                refine tr_thenR ?_
                                refine tr_thenR ?_
                                refine tr_blockR ?_
                                refine tr_thenR ?_
                                exact tr_ret1 rfl rfl ⟨_, rfl, H⟩
                              · replace H := H.2 g86
                                refine tr_skip ?_
                                refine tr_blockN ?_
                                refine tr_thenN ?_
                                refine tr_region ?_
                                refine tr_p (y_move rfl) rfl rfl ?_
                                refine tr_p (y_add rfl rfl) rfl rfl ?_
                                refine tr_p (y_assign rfl) rfl rfl ?_
                                refine tr_nil ?_
                                refine tr_thenN ?_
                                exact tr_join [(1, x1.enc), (5, (.pointer x5)), (7, (.pointer x7)), (9, (.int .i64 x9)), (10, x10.enc), (14, (.int .i64 (IntKind.wrap .i64 (x14 + 1))))] ⟨rfl, rfl, rfl, rfl, rfl, rfl, trivial⟩ ⟨_, _, _, _, _, _, rfl, H⟩
                        · replace H := H.2 g59
                          refine tr_exit ?_
                          refine tr_thenE ?_
                          refine tr_thenE ?_
                          refine tr_hit ?_
                          refine tr_thenN ?_
                          refine tr_seq_j (fun L' h => ∃ (x1 : Sl) (x5 : Option Addr) (x7 : Option Addr) (x9 : Int) (x174 : Bool), L' = [(1, x1.enc), (5, (.pointer x5)), (7, (.pointer x7)), (9, (.int .i64 x9)), (174, (.bool x174))] ∧ F.spatelaw9_EpochOwn.j10 Q (F.spatelaw9_EpochOwn.l3 Q q3) x1 x5 x7 x9 x174 h) ?_ ?_
                          · rintro L' h ⟨x1, x5, x7, x9, x174, rfl, H⟩
                            unfold F.spatelaw9_EpochOwn.j10 at H
                            refine tr_cond rfl (fun g88 => ?_) (fun g88 => ?_)
                            · replace H := H.1 g88
                              refine tr_seq ?_
                              refine tr_region ?_
                              refine tr_p (y_assign rfl) rfl rfl ?_
                              refine tr_nil ?_
                              refine tr_thenN ?_
                              refine tr_ret ?_
                              refine tr_blockR ?_
                              refine tr_thenR ?_
                              refine tr_thenR ?_
                              refine tr_blockR ?_
                              refine tr_thenR ?_
                              exact tr_ret1 rfl rfl ⟨_, rfl, H⟩
                            · replace H := H.2 g88
                              refine tr_skip ?_
                              refine tr_blockN ?_
                              refine tr_thenN ?_
                              exact tr_join [(1, x1.enc), (5, (.pointer x5)), (7, (.pointer x7)), (9, (.int .i64 x9))] ⟨rfl, rfl, rfl, rfl, trivial⟩ ⟨_, _, _, _, rfl, H⟩
                          · refine tr_region ?_
                            refine tr_p (y_move rfl) rfl rfl ?_
                            refine tr_e (e_call Try.call11 rfl (F.epoch_Book_Held_ok H)) rfl rfl ?_
                            rintro _ h89 ⟨r90, rfl, H⟩
                            refine tr_p (y_move rfl) rfl rfl ?_
                            refine tr_e (e_call Try.call11 rfl (F.epoch_Book_Held_ok H)) rfl rfl ?_
                            rintro _ h91 ⟨r92, rfl, H⟩
                            refine tr_e (e_call Try.call14 rfl (F.spatelaw9_ints_ok H)) rfl rfl ?_
                            rintro _ h93 ⟨r94, rfl, H⟩
                            refine tr_p (y_not rfl) rfl rfl ?_
                            refine tr_p (y_move rfl) rfl rfl ?_
                            refine tr_split (t := 167) rfl (fun g95 => ?_) (fun g95 => ?_)
                            · replace H := H.1 g95
                              refine tr_s rfl rfl ?_
                              refine tr_s rfl rfl ?_
                              refine tr_s rfl rfl ?_
                              refine tr_s rfl rfl ?_
                              refine tr_s rfl rfl ?_
                              refine tr_s rfl rfl ?_
                              refine tr_p (y_pick_t rfl rfl) rfl rfl ?_
                              refine tr_nil ?_
                              refine tr_thenN ?_
                              exact tr_join [(1, x1.enc), (5, (.pointer x5)), (7, (.pointer x7)), (9, (.int .i64 x9)), (174, (.bool true))] ⟨rfl, rfl, rfl, rfl, rfl, trivial⟩ ⟨_, _, _, _, _, rfl, H⟩
                            · replace H := H.2 g95
                              refine tr_p (y_move rfl) rfl rfl ?_
                              refine tr_e (e_call Try.call12 rfl (F.epoch_Book_Dying_ok H)) rfl rfl ?_
                              rintro _ h96 ⟨r97, rfl, H⟩
                              refine tr_p (y_move rfl) rfl rfl ?_
                              refine tr_e (e_call Try.call12 rfl (F.epoch_Book_Dying_ok H)) rfl rfl ?_
                              rintro _ h98 ⟨r99, rfl, H⟩
                              refine tr_e (e_call Try.call14 rfl (F.spatelaw9_ints_ok H)) rfl rfl ?_
                              rintro _ h100 ⟨r101, rfl, H⟩
                              refine tr_p (y_not rfl) rfl rfl ?_
                              refine tr_p (y_pick_f rfl rfl) rfl rfl ?_
                              refine tr_nil ?_
                              refine tr_thenN ?_
                              exact tr_join [(1, x1.enc), (5, (.pointer x5)), (7, (.pointer x7)), (9, (.int .i64 x9)), (174, (.bool (!r101)))] ⟨rfl, rfl, rfl, rfl, rfl, trivial⟩ ⟨_, _, _, _, _, rfl, H⟩
          · replace H := H.2 g10
            refine tr_exit ?_
            refine tr_thenE ?_
            refine tr_thenE ?_
            refine tr_hit ?_
            refine tr_thenN ?_
            refine tr_seq ?_
            refine tr_region ?_
            refine tr_p (y_move rfl) rfl rfl ?_
            refine tr_p (y_move rfl) rfl rfl ?_
            refine tr_e (e_call Try.call20 rfl (F.spatelaw9_alike_ok H)) rfl rfl ?_
            rintro _ h105 ⟨r106, rfl, H⟩
            refine tr_p (y_assign rfl) rfl rfl ?_
            refine tr_nil ?_
            refine tr_thenN ?_
            refine tr_ret ?_
            exact tr_ret1 rfl rfl ⟨_, rfl, H⟩
      · refine tr_seq_j (fun L' h => ∃ (x1 : Sl) (x5 : Option Addr) (x7 : Option Addr) (x52 : Bool), L' = [(1, x1.enc), (5, (.pointer x5)), (7, (.pointer x7)), (52, (.bool x52))] ∧ F.spatelaw9_EpochOwn.j11 Q x1 x5 x7 x52 h) ?_ ?_
        · rintro L' h ⟨x1, x5, x7, x52, rfl, H⟩
          unfold F.spatelaw9_EpochOwn.j11 at H
          refine tr_cond rfl (fun g108 => ?_) (fun g108 => ?_)
          · replace H := H.1 g108
            refine tr_seq ?_
            refine tr_region ?_
            refine tr_p (y_assign rfl) rfl rfl ?_
            refine tr_nil ?_
            refine tr_thenN ?_
            refine tr_ret ?_
            refine tr_thenR ?_
            exact tr_ret1 rfl rfl ⟨_, rfl, H⟩
          · replace H := H.2 g108
            refine tr_skip ?_
            refine tr_thenN ?_
            exact tr_join [(1, x1.enc), (5, (.pointer x5)), (7, (.pointer x7))] ⟨rfl, rfl, rfl, trivial⟩ ⟨_, _, _, rfl, H⟩
        · refine tr_region ?_
          refine tr_p (y_move rfl) rfl rfl ?_
          refine tr_p (y_neq rfl rfl) rfl rfl ?_
          refine tr_p (y_move rfl) rfl rfl ?_
          refine tr_split (t := 41) rfl (fun g109 => ?_) (fun g109 => ?_)
          · replace H := H.1 g109
            refine tr_s rfl rfl ?_
            refine tr_s rfl rfl ?_
            refine tr_p (y_pick_t rfl rfl) rfl rfl ?_
            refine tr_p (y_move rfl) rfl rfl ?_
            refine tr_s rfl rfl ?_
            refine tr_s rfl rfl ?_
            refine tr_p (y_pick_t rfl rfl) rfl rfl ?_
            refine tr_p (y_move rfl) rfl rfl ?_
            refine tr_s rfl rfl ?_
            refine tr_s rfl rfl ?_
            refine tr_p (y_pick_t rfl rfl) rfl rfl ?_
            refine tr_nil ?_
            refine tr_thenN ?_
            exact tr_join [(1, x1.enc), (5, (.pointer r5)), (7, (.pointer r8)), (52, (.bool true))] ⟨rfl, rfl, rfl, rfl, trivial⟩ ⟨_, _, _, _, rfl, H⟩
          · replace H := H.2 g109
            refine tr_p (y_move rfl) rfl rfl ?_
            refine tr_p (y_neq rfl rfl) rfl rfl ?_
            refine tr_p (y_pick_f rfl rfl) rfl rfl ?_
            refine tr_p (y_move rfl) rfl rfl ?_
            refine tr_split (t := 45) rfl (fun g110 => ?_) (fun g110 => ?_)
            · replace H := H.1 g110
              refine tr_s rfl rfl ?_
              refine tr_s rfl rfl ?_
              refine tr_p (y_pick_t rfl rfl) rfl rfl ?_
              refine tr_p (y_move rfl) rfl rfl ?_
              refine tr_s rfl rfl ?_
              refine tr_s rfl rfl ?_
              refine tr_p (y_pick_t rfl rfl) rfl rfl ?_
              refine tr_nil ?_
              refine tr_thenN ?_
              exact tr_join [(1, x1.enc), (5, (.pointer r5)), (7, (.pointer r8)), (52, (.bool true))] ⟨rfl, rfl, rfl, rfl, trivial⟩ ⟨_, _, _, _, rfl, H⟩
            · replace H := H.2 g110
              refine tr_p (y_move rfl) rfl rfl ?_
              refine tr_p (y_pnil_eql Try.runUnderlying24 rfl rfl) rfl rfl ?_
              refine tr_p (y_pick_f rfl rfl) rfl rfl ?_
              refine tr_p (y_move rfl) rfl rfl ?_
              refine tr_split (t := 49) rfl (fun g111 => ?_) (fun g111 => ?_)
              · replace H := H.1 g111
                refine tr_s rfl rfl ?_
                refine tr_s rfl rfl ?_
                refine tr_p (y_pick_t rfl rfl) rfl rfl ?_
                refine tr_nil ?_
                refine tr_thenN ?_
                exact tr_join [(1, x1.enc), (5, (.pointer r5)), (7, (.pointer r8)), (52, (.bool true))] ⟨rfl, rfl, rfl, rfl, trivial⟩ ⟨_, _, _, _, rfl, H⟩
              · replace H := H.2 g111
                refine tr_p (y_move rfl) rfl rfl ?_
                refine tr_p (y_pnil_eql Try.runUnderlying24 rfl rfl) rfl rfl ?_
                refine tr_p (y_pick_f rfl rfl) rfl rfl ?_
                refine tr_nil ?_
                refine tr_thenN ?_
                exact tr_join [(1, x1.enc), (5, (.pointer r5)), (7, (.pointer r8)), (52, (.bool r8.isNone))] ⟨rfl, rfl, rfl, rfl, trivial⟩ ⟨_, _, _, _, rfl, H⟩
    · refine tr_seq_j (fun L' h => ∃ (x0 : Int) (x1 : Sl) (x28 : Bool), L' = [(0, (.int .i64 x0)), (1, x1.enc), (28, (.bool x28))] ∧ F.spatelaw9_EpochOwn.j12 Q x0 x1 x28 h) ?_ ?_
      · rintro L' h ⟨x0, x1, x28, rfl, H⟩
        unfold F.spatelaw9_EpochOwn.j12 at H
        refine tr_cond rfl (fun g112 => ?_) (fun g112 => ?_)
        · replace H := H.1 g112
          refine tr_seq ?_
          refine tr_region ?_
          refine tr_p (y_assign rfl) rfl rfl ?_
          refine tr_nil ?_
          refine tr_thenN ?_
          refine tr_ret ?_
          refine tr_thenR ?_
          exact tr_ret1 rfl rfl ⟨_, rfl, H⟩
        · replace H := H.2 g112
          refine tr_skip ?_
          refine tr_thenN ?_
          exact tr_join [(0, (.int .i64 x0)), (1, x1.enc)] ⟨rfl, rfl, trivial⟩ ⟨_, _, rfl, H⟩
      · refine tr_region ?_
        refine tr_p (y_move rfl) rfl rfl ?_
        refine tr_p (y_len (ts := #[]) Try.runUnderlying23 (o := p1.ptr) (n := p1.len) (cap := p1.cap) rfl) rfl rfl ?_
        refine tr_p (y_gtr rfl rfl) rfl rfl ?_
        refine tr_p (y_move rfl) rfl rfl ?_
        refine tr_split (t := 21) rfl (fun g113 => ?_) (fun g113 => ?_)
        · replace H := H.1 g113
          refine tr_s rfl rfl ?_
          refine tr_s rfl rfl ?_
          refine tr_p (y_pick_t rfl rfl) rfl rfl ?_
          refine tr_p (y_move rfl) rfl rfl ?_
          refine tr_s rfl rfl ?_
          refine tr_s rfl rfl ?_
          refine tr_p (y_pick_t rfl rfl) rfl rfl ?_
          refine tr_nil ?_
          refine tr_thenN ?_
          exact tr_join [(0, (.int .i64 p0)), (1, p1.enc), (28, (.bool true))] ⟨rfl, rfl, rfl, trivial⟩ ⟨_, _, _, rfl, H⟩
        · replace H := H.2 g113
          refine tr_p (y_move rfl) rfl rfl ?_
          refine tr_p (y_lss rfl rfl) rfl rfl ?_
          refine tr_p (y_pick_f rfl rfl) rfl rfl ?_
          refine tr_p (y_move rfl) rfl rfl ?_
          refine tr_split (t := 25) rfl (fun g114 => ?_) (fun g114 => ?_)
          · replace H := H.1 g114
            refine tr_s rfl rfl ?_
            refine tr_s rfl rfl ?_
            refine tr_p (y_pick_t rfl rfl) rfl rfl ?_
            refine tr_nil ?_
            refine tr_thenN ?_
            exact tr_join [(0, (.int .i64 p0)), (1, p1.enc), (28, (.bool true))] ⟨rfl, rfl, rfl, trivial⟩ ⟨_, _, _, rfl, H⟩
          · replace H := H.2 g114
            refine tr_p (y_move rfl) rfl rfl ?_
            refine tr_p (y_gtr rfl rfl) rfl rfl ?_
            refine tr_p (y_pick_f rfl rfl) rfl rfl ?_
            refine tr_nil ?_
            refine tr_thenN ?_
            exact tr_join [(0, (.int .i64 p0)), (1, p1.enc), (28, (.bool (decide (p0 > 64))))] ⟨rfl, rfl, rfl, trivial⟩ ⟨_, _, _, rfl, H⟩

/-- maps.Clone[map[int]int,int,int] -/
def F.maps_Clone_map_int_int_int_int (p0 : Option Nat) (h : H) (Q : (Option Nat) → H → Prop) : Prop :=
  (p0.isNone = true →
  Q none h) ∧
  (p0.isNone = false →
  clM h p0 fun m3 h2 =>
  Q (some m3) h2)
theorem F.maps_Clone_map_int_int_int_int_ok {p0 : Option Nat} {h : H} {Q : (Option Nat) → H → Prop} (H : F.maps_Clone_map_int_int_int_int p0 h Q) : Fn PP 35 ([(.map p0)] : List Value).toArray h fun r h' => ∃ r0, r = (.map r0) ∧ Q r0 h' := by
  unfold F.maps_Clone_map_int_int_int_int at H
  refine fn_of Try.func35 Try.ntmps35 rfl rfl fun w0 => ?_
  refine tr_sub [(0, (.map p0))] ⟨rfl, trivial⟩ ?_
  refine tr_seq ?_
  refine tr_region ?_
  refine tr_p (y_assign rfl) rfl rfl ?_
  refine tr_nil ?_
  refine tr_thenN ?_
  refine tr_seq ?_
  refine tr_seq ?_
  refine tr_region ?_
  refine tr_p (y_move rfl) rfl rfl ?_
  refine tr_p (y_mnil_eql Try.runUnderlying28 (p := p0) rfl rfl) rfl rfl ?_
  refine tr_nil ?_
  refine tr_thenN ?_
  refine tr_cond rfl (fun g1 => ?_) (fun g1 => ?_)
  · replace H := H.1 g1
    refine tr_seq ?_
    refine tr_region ?_
    refine tr_p (y_assign rfl) rfl rfl ?_
    refine tr_nil ?_
    refine tr_thenN ?_
    refine tr_ret ?_
    refine tr_thenR ?_
    exact tr_ret1 rfl rfl ⟨_, rfl, H⟩
  · replace H := H.2 g1
    refine tr_skip ?_
    refine tr_thenN ?_
    refine tr_seq ?_
    refine tr_region ?_
    refine tr_p (y_move rfl) rfl rfl ?_
    refine tr_p (y_mkif Try.runUnderlying28 rfl rfl) rfl rfl ?_
    refine tr_e (f_clone clone_50 rfl H) rfl rfl ?_
    rintro _ h2 ⟨m3, rfl, H⟩
    refine tr_p (y_tas Try.runUnderlying28 rfl rfl rfl) rfl rfl ?_
    refine tr_p (y_assign rfl) rfl rfl ?_
    refine tr_nil ?_
    refine tr_thenN ?_
    refine tr_ret ?_
    exact tr_ret1 rfl rfl ⟨_, rfl, H⟩

/-- maps.Clone[map[int]struct{},int,struct{}] -/
def F.maps_Clone_map_int_struct_int_struct (p0 : Option Nat) (h : H) (Q : (Option Nat) → H → Prop) : Prop :=
  (p0.isNone = true →
  Q none h) ∧
  (p0.isNone = false →
  clM h p0 fun m3 h2 =>
  Q (some m3) h2)
theorem F.maps_Clone_map_int_struct_int_struct_ok {p0 : Option Nat} {h : H} {Q : (Option Nat) → H → Prop} (H : F.maps_Clone_map_int_struct_int_struct p0 h Q) : Fn PP 36 ([(.map p0)] : List Value).toArray h fun r h' => ∃ r0, r = (.map r0) ∧ Q r0 h' := by
  unfold F.maps_Clone_map_int_struct_int_struct at H
  refine fn_of Try.func36 Try.ntmps36 rfl rfl fun w0 => ?_
  refine tr_sub [(0, (.map p0))] ⟨rfl, trivial⟩ ?_
  refine tr_seq ?_
  refine tr_region ?_
  refine tr_p (y_assign rfl) rfl rfl ?_
  refine tr_nil ?_
  refine tr_thenN ?_
  refine tr_seq ?_
  refine tr_seq ?_
  refine tr_region ?_
  refine tr_p (y_move rfl) rfl rfl ?_
  refine tr_p (y_mnil_eql Try.runUnderlying60 (p := p0) rfl rfl) rfl rfl ?_
  refine tr_nil ?_
  refine tr_thenN ?_
  refine tr_cond rfl (fun g1 => ?_) (fun g1 => ?_)
  · replace H := H.1 g1
    refine tr_seq ?_
    refine tr_region ?_
    refine tr_p (y_assign rfl) rfl rfl ?_
    refine tr_nil ?_
    refine tr_thenN ?_
    refine tr_ret ?_
    refine tr_thenR ?_
    exact tr_ret1 rfl rfl ⟨_, rfl, H⟩
  · replace H := H.2 g1
    refine tr_skip ?_
    refine tr_thenN ?_
    refine tr_seq ?_
    refine tr_region ?_
    refine tr_p (y_move rfl) rfl rfl ?_
    refine tr_p (y_mkif Try.runUnderlying60 rfl rfl) rfl rfl ?_
    refine tr_e (f_clone clone_50 rfl H) rfl rfl ?_
    rintro _ h2 ⟨m3, rfl, H⟩
    refine tr_p (y_tas Try.runUnderlying60 rfl rfl rfl) rfl rfl ?_
    refine tr_p (y_assign rfl) rfl rfl ?_
    refine tr_nil ?_
    refine tr_thenN ?_
    refine tr_ret ?_
    exact tr_ret1 rfl rfl ⟨_, rfl, H⟩

def F.epoch_Book_Twin.l1 (Q : (Option Addr) → H → Prop) (f_1 : FuncId) (fi_1 ca_1 : Array Value) : Nat → Addr → (List S_epoch_owner) → Int → H → Prop
  | 0, _, _, _, _ => False
  | q1 + 1, x3, x30, x31, h =>
    ((decide (x31 < 65)) = true →
    idxV x30 65 x31 fun z34 =>
    new h (((⟨none, 0⟩ : S_epoch_owner) : S_epoch_owner).cells.toArray) ty_62 fun a37 h36 =>
    stH h36 a37 z34.cells fun h38 =>
    ldM h38 (a37.add 0) fun y39 =>
    ldI .i64 h38 (a37.add 1) fun y41 =>
    F.maps_Clone_map_int_struct_int_struct y39 h38 fun r44 h43 =>
    cellH h43 (a37.add 1) = some (.int .i64 y41) ∧
    (0 ≤ (x31 : Int) ∧ x31 < 65) ∧
    stH h43 ((x3.add 4).add ((x31 : Int).toNat * 2)) ((⟨r44, y41⟩ : S_epoch_owner).cells) fun h47 =>
    (F.epoch_Book_Twin.l1 Q f_1 fi_1 ca_1 q1) x3 x30 (IntKind.wrap .i64 (x31 + 1)) h47) ∧
    ((decide (x31 < 65)) = false →
    dcall PP f_1 ((fi_1 ++ ([] : List Value).toArray) ++ ca_1) h fun h48 =>
    Q (some x3) h48)
/-- (*spate/epoch.Book).Twin -/
def F.epoch_Book_Twin (p0 : Option Addr) (h : H) (Q : (Option Addr) → H → Prop) : Prop :=
  F.epoch_Book_guard p0 h fun r2 h1 =>
  fnV r2 fun f_1 fi_1 ca_1 =>
  nn p0 fun a4 =>
  ldI .i64 h1 (a4.add 2) fun y6 =>
  nn p0 fun a8 =>
  ldI .i64 h1 (a8.add 3) fun y10 =>
  nn p0 fun a12 =>
  ldM h1 (a12.add 134) fun y14 =>
  nn p0 fun a16 =>
  ldB h1 (a16.add 135) fun y18 =>
  F.maps_Clone_map_int_int_int_int y14 h1 fun r21 h20 =>
  cellH h20 (a16.add 135) = some (.bool y18) ∧
  cellH h20 (a8.add 3) = some (.int .i64 y10) ∧
  cellH h20 (a4.add 2) = some (.int .i64 y6) ∧
  new h20 ((⟨(⟨(⟨⟩ : S_sync_noCopy), (⟨0, 0⟩ : S_sync_Mutex)⟩ : S_sync_Mutex_58), y6, y10, (List.replicate 65 (⟨none, 0⟩ : S_epoch_owner)), r21, y18⟩ : S_epoch_Book).cells.toArray) ty_65 fun a26 h25 =>
  nn p0 fun a27 =>
  ldA S_epoch_owner.cells 65 130 h25 (a27.add 4) fun y29 =>
  ∃ m, F.epoch_Book_Twin.l1 Q f_1 fi_1 ca_1 m a26 y29 0 h25
theorem F.epoch_Book_Twin_ok {p0 : Option Addr} {h : H} {Q : (Option Addr) → H → Prop} (H : F.epoch_Book_Twin p0 h Q) : Fn PP 21 ([(.pointer p0)] : List Value).toArray h fun r h' => ∃ r0, r = (.pointer r0) ∧ Q r0 h' := by
  unfold F.epoch_Book_Twin at H
  refine fn_ofM Try.func21 Try.ntmps21 rfl rfl fun w0 => ?_
  refine tr_sub [(0, (.pointer p0))] ⟨rfl, trivial⟩ ?_
  refine tr_seq ?_
  refine tr_region ?_
  refine tr_p (y_assign rfl) rfl rfl ?_
  refine tr_nil ?_
  refine tr_thenN ?_
  refine tr_seq ?_
  refine tr_region ?_
  refine tr_p (y_move rfl) rfl rfl ?_
  refine tr_e (e_call Try.call28 rfl (F.epoch_Book_guard_ok H)) rfl rfl ?_
  rintro r2 h1 ⟨_, rfl, H⟩
  obtain ⟨f_1, fi_1, ca_1, e3, H⟩ := H
  subst e3
  refine tr_defer rfl rfl rfl ?_
  refine tr_nil ?_
  refine tr_thenN ?_
  refine tr_seq ?_
  refine tr_draw mixed [0, 1, 3, 7, 0, 16, 48, 112, 0, 256, 768, 1792, 3840, 0, 8192, 24576, 57344, 131071, 262143, 524287] (by kernel_rfl) ?_
  refine g_p 0 1 rfl (by kernel_rfl) (y_move rfl) rfl rfl ?_
  obtain ⟨a4, e5, H⟩ := H
  refine g_p 1 3 rfl (by kernel_rfl) (f_nn rfl e5) rfl rfl ?_
  refine g_p 2 7 rfl (by kernel_rfl) (y_fa (off := 2) Try.runUnderlying65 fo_65_1 rfl) rfl rfl ?_
  obtain ⟨y6, k7, H⟩ := H
  refine g_h 3 15 rfl (by kernel_rfl) (y_ld Try.isAgg3 rfl) k7 rfl rfl ?_
  refine g_p 4 31 rfl (by kernel_rfl) (y_move rfl) rfl rfl ?_
  obtain ⟨a8, e9, H⟩ := H
  refine g_p 5 63 rfl (by kernel_rfl) (f_nn rfl e9) rfl rfl ?_
  refine g_p 6 127 rfl (by kernel_rfl) (y_fa (off := 3) Try.runUnderlying65 fo_65_2 rfl) rfl rfl ?_
  obtain ⟨y10, k11, H⟩ := H
  refine g_h 7 255 rfl (by kernel_rfl) (y_ld Try.isAgg3 rfl) k11 rfl rfl ?_
  refine g_p 8 511 rfl (by kernel_rfl) (y_move rfl) rfl rfl ?_
  obtain ⟨a12, e13, H⟩ := H
  refine g_p 9 1023 rfl (by kernel_rfl) (f_nn rfl e13) rfl rfl ?_
  refine g_p 10 2047 rfl (by kernel_rfl) (y_fa (off := 134) Try.runUnderlying65 fo_65_4 rfl) rfl rfl ?_
  obtain ⟨y14, k15, H⟩ := H
  refine g_h 11 4095 rfl (by kernel_rfl) (y_ld Try.isAgg28 rfl) k15 rfl rfl ?_
  refine g_p 13 12287 rfl (by kernel_rfl) (y_move rfl) rfl rfl ?_
  obtain ⟨a16, e17, H⟩ := H
  refine g_p 14 28671 rfl (by kernel_rfl) (f_nn rfl e17) rfl rfl ?_
  refine g_p 15 61439 rfl (by kernel_rfl) (y_fa (off := 135) Try.runUnderlying65 fo_65_5 rfl) rfl rfl ?_
  obtain ⟨y18, k19, H⟩ := H
  refine g_h 16 126975 rfl (by kernel_rfl) (y_ld Try.isAgg4 rfl) k19 rfl rfl ?_
  refine g_e 12 131071 [(16, fun h => cellH h (a16.add 135) = some (.bool y18)), (7, fun h => cellH h (a8.add 3) = some (.int .i64 y10)), (3, fun h => cellH h (a4.add 2) = some (.int .i64 y6))] (by kernel_rfl) rfl (by kernel_rfl) (e_call Try.call35 rfl (F.maps_Clone_map_int_int_int_int_ok H)) rfl rfl ?_
  rintro _ h20 ⟨r21, rfl, H⟩
  obtain ⟨k22, k23, k24, H⟩ := H
  refine ⟨And.intro k22 (And.intro k23 (And.intro k24 trivial)), ?_⟩
  refine g_p 17 262143 rfl (by kernel_rfl) (f_build rfl (bd_65_1_2_4_5 y6 y10 r21 y18)) rfl rfl ?_
  refine g_e 18 524287 [] (by kernel_rfl) rfl (by kernel_rfl) (f_box (cs := (⟨(⟨(⟨⟩ : S_sync_noCopy), (⟨0, 0⟩ : S_sync_Mutex)⟩ : S_sync_Mutex_58), y6, y10, (List.replicate 65 (⟨none, 0⟩ : S_epoch_owner)), r21, y18⟩ : S_epoch_Book).cells.toArray) rfl rfl H) rfl rfl ?_
  rintro _ h25 ⟨a26, rfl, H⟩
  refine ⟨trivial, ?_⟩
  refine g_p 19 1048575 rfl (by kernel_rfl) (y_assign rfl) rfl rfl ?_
  refine g_d (by kernel_rfl) ?_
  refine tr_thenN ?_
  refine tr_seq ?_
  refine tr_seq ?_
  refine tr_region ?_
  refine tr_p (y_move rfl) rfl rfl ?_
  obtain ⟨a27, e28, H⟩ := H
  refine tr_p (f_nn rfl e28) rfl rfl ?_
  refine tr_p (y_fa (off := 4) Try.runUnderlying65 fo_65_3 rfl) rfl rfl ?_
  obtain ⟨y29, e31, e32, k30, H⟩ := H
  refine tr_h (y_ldS Try.isAgg63 Try.sizeOf63 e31 rfl) k30 rfl rfl ?_
  refine tr_p (y_move rfl) rfl rfl ?_
  refine tr_nil ?_
  refine tr_thenN ?_
  refine tr_block ?_
  obtain ⟨m49, H⟩ := H
  refine tr_sub [(3, (.pointer (some a26))), (30, (.agg (y29.flatMap S_epoch_owner.cells).toArray)), (31, (.int .i64 0))] ⟨rfl, rfl, rfl, trivial⟩ ?_
  refine tr_loop_j (fun m L' h => ∃ (x3 : Addr) (x30 : List S_epoch_owner) (x31 : Int), L' = [(3, (.pointer (some x3))), (30, (.agg (x30.flatMap S_epoch_owner.cells).toArray)), (31, (.int .i64 x31))] ∧ F.epoch_Book_Twin.l1 Q f_1 fi_1 ca_1 m x3 x30 x31 h) ?_ ?_ m49 ⟨_, _, _, rfl, H⟩
  · rintro L' h ⟨_, _, _, _, H⟩; exact H
  · rintro q1 L' h ⟨x3, x30, x31, rfl, H⟩
    unfold F.epoch_Book_Twin.l1 at H
    refine tr_seq ?_
    refine tr_region ?_
    refine tr_p (y_lss rfl rfl) rfl rfl ?_
    refine tr_nil ?_
    refine tr_thenN ?_
    refine tr_seq ?_
    refine tr_cond rfl (fun g33 => ?_) (fun g33 => ?_)
    · replace H := H.1 g33
      refine tr_skip ?_
      refine tr_thenN ?_
      refine tr_seq ?_
      refine tr_block ?_
      refine tr_seq ?_
      refine tr_region ?_
      refine tr_p (y_move rfl) rfl rfl ?_
      obtain ⟨z34, e35, H⟩ := H
      refine tr_p (f_idxVS (f := S_epoch_owner.cells) (M := x30) Try.runUnderlying63 Try.isAgg62 Try.sizeOf62 (fun _ => rfl) rfl rfl e35) rfl rfl ?_
      refine tr_e (f_alloc (cs := ((⟨none, 0⟩ : S_epoch_owner) : S_epoch_owner).cells.toArray) Try.zeroValue62 rfl H) rfl rfl ?_
      rintro _ h36 ⟨a37, rfl, H⟩
      refine tr_p (y_assign rfl) rfl rfl ?_
      refine tr_e (f_store (vs := z34.cells) Try.sizeOf62 rfl rfl cellsOfStruct rfl (by intro v hv; exact ones_S_epoch_owner _ v hv) H) rfl rfl ?_
      rintro _ h38 ⟨rfl, H⟩
      refine tr_nil ?_
      refine tr_thenN ?_
      refine tr_draw mixed [0, 0, 0, 4, 12, 0, 32, 124, 1, 257, 1023, 2047] (by kernel_rfl) ?_
      refine g_p 0 1 rfl (by kernel_rfl) (y_move rfl) rfl rfl ?_
      refine g_p 1 3 rfl (by kernel_rfl) (y_move rfl) rfl rfl ?_
      refine g_p 2 7 rfl (by kernel_rfl) (y_fa (off := 0) Try.runUnderlying62 fo_62_0 rfl) rfl rfl ?_
      obtain ⟨y39, k40, H⟩ := H
      refine g_h 3 15 rfl (by kernel_rfl) (y_ld Try.isAgg60 rfl) k40 rfl rfl ?_
      refine g_p 5 47 rfl (by kernel_rfl) (y_fa (off := 1) Try.runUnderlying62 fo_62_1 rfl) rfl rfl ?_
      obtain ⟨y41, k42, H⟩ := H
      refine g_h 6 111 rfl (by kernel_rfl) (y_ld Try.isAgg3 rfl) k42 rfl rfl ?_
      refine g_p 8 367 rfl (by kernel_rfl) (y_nil rfl) rfl rfl ?_
      refine g_p 9 879 rfl (by kernel_rfl) (y_fa (off := 4) Try.runUnderlying65 fo_65_3 rfl) rfl rfl ?_
      refine g_e 4 895 [(6, fun h => cellH h (a37.add 1) = some (.int .i64 y41))] (by kernel_rfl) rfl (by kernel_rfl) (e_call Try.call36 rfl (F.maps_Clone_map_int_struct_int_struct_ok H)) rfl rfl ?_
      rintro _ h43 ⟨r44, rfl, H⟩
      obtain ⟨k45, H⟩ := H
      refine ⟨And.intro k45 trivial, ?_⟩
      refine g_p 7 1023 rfl (by kernel_rfl) (f_build rfl (bd_62_0_1 r44 y41)) rfl rfl ?_
      obtain ⟨e46, H⟩ := H
      refine g_p 10 2047 rfl (by kernel_rfl) (f_idxArr Try.runUnderlying63 Try.sizeOf62 rfl rfl e46) rfl rfl ?_
      refine g_e 11 4095 [] (by kernel_rfl) rfl (by kernel_rfl) (f_store (vs := (⟨r44, y41⟩ : S_epoch_owner).cells) Try.sizeOf62 rfl rfl cellsOfStruct rfl (by intro v hv; exact ones_S_epoch_owner _ v hv) H) rfl rfl ?_
      rintro _ h47 ⟨rfl, H⟩
      refine ⟨trivial, ?_⟩
      refine g_d (by kernel_rfl) ?_
      refine tr_blockN ?_
      refine tr_thenN ?_
      refine tr_region ?_
      refine tr_p (y_add rfl rfl) rfl rfl ?_
      refine tr_p (y_move rfl) rfl rfl ?_
      refine tr_nil ?_
      refine tr_thenN ?_
      exact tr_join [(3, (.pointer (some x3))), (30, (.agg (x30.flatMap S_epoch_owner.cells).toArray)), (31, (.int .i64 (IntKind.wrap .i64 (x31 + 1))))] ⟨rfl, rfl, rfl, trivial⟩ ⟨_, _, _, rfl, H⟩
    · replace H := H.2 g33
      refine tr_exit ?_
      refine tr_thenE ?_
      refine tr_thenE ?_
      refine tr_hit ?_
      refine tr_thenN ?_
      refine tr_seq ?_
      refine tr_region ?_
      refine tr_p (y_move rfl) rfl rfl ?_
      refine tr_p (y_assign rfl) rfl rfl ?_
      refine tr_nil ?_
      refine tr_thenN ?_
      refine tr_ret ?_
      refine tr_dcall H fun h48 H => ?_
      refine tr_pm0 ?_
      exact tr_ret1 rfl rfl ⟨_, rfl, H⟩

def F.spatelaw9_EpochTwins.j7 (Q : Bool → H → Prop) (C1 : Sl → Sl → (Option Addr) → (Option Addr) → (Option Addr) → (Option Addr) → Int → H → Prop) (x2 : Sl) (x3 : Sl) (x9 : Option Addr) (x12 : Option Addr) (x13 : Option Addr) (x14 : Option Addr) (x15 : Int) (h : H) : Prop :=
  C1 x2 x3 x9 x12 x13 x14 (IntKind.wrap .i64 (x15 + 1)) h
def F.spatelaw9_EpochTwins.j8 (Q : Bool → H → Prop) (C1 : Sl → Sl → (Option Addr) → (Option Addr) → (Option Addr) → (Option Addr) → Int → H → Prop) (x2 : Sl) (x3 : Sl) (x9 : Option Addr) (x12 : Option Addr) (x13 : Option Addr) (x14 : Option Addr) (x15 : Int) (h : H) : Prop :=
  ((decide (x15 < (x3.len : Int))) = true →
  idxA x3 x15 4 fun a21 =>
  ld_S_spatelaw9_Step h a21 fun y23 =>
  F.spatelaw9_do x13 y23 h fun r26 h25 =>
  F.spatelaw9_EpochTwins.j7 Q C1 x2 x3 x9 x12 x13 x14 x15 h25) ∧
  ((decide (x15 < (x3.len : Int))) = false →
  F.spatelaw9_EpochTwins.j7 Q C1 x2 x3 x9 x12 x13 x14 x15 h)
def F.spatelaw9_EpochTwins.j6 (Q : Bool → H → Prop) (C1 : Sl → Sl → (Option Addr) → (Option Addr) → (Option Addr) → (Option Addr) → Int → H → Prop) (x2 : Sl) (x3 : Sl) (x9 : Option Addr) (x12 : Option Addr) (x13 : Option Addr) (x14 : Option Addr) (x15 : Int) (h : H) : Prop :=
  ((decide (x15 < (x2.len : Int))) = true →
  idxA x2 x15 4 fun a28 =>
  ld_S_spatelaw9_Step h a28 fun y30 =>
  F.spatelaw9_do x12 y30 h fun r33 h32 =>
  F.spatelaw9_EpochTwins.j8 Q C1 x2 x3 x9 x12 x13 x14 x15 h32) ∧
  ((decide (x15 < (x2.len : Int))) = false →
  F.spatelaw9_EpochTwins.j8 Q C1 x2 x3 x9 x12 x13 x14 x15 h)
def F.spatelaw9_EpochTwins.l11 (Q : Bool → H → Prop) : Nat → Sl → (Option Addr) → (Option Addr) → (Option Addr) → (Option Addr) → Int → H → Prop
  | 0, _, _, _, _, _, _, _ => False
  | q11 + 1, x3, x9, x12, x13, x14, x17, h =>
    ((decide (x17 < (x3.len : Int))) = true →
    idxA x3 x17 4 fun a46 =>
    ld_S_spatelaw9_Step h a46 fun y48 =>
    F.spatelaw9_do x14 y48 h fun r51 h50 =>
    (F.spatelaw9_EpochTwins.l11 Q q11) x3 x9 x12 x13 x14 (IntKind.wrap .i64 (x17 + 1)) h50) ∧
    ((decide (x17 < (x3.len : Int))) = false →
    F.spatelaw9_alike x9 x12 h fun r53 h52 =>
    (r53 = true →
    F.spatelaw9_alike x14 x13 h52 fun r56 h55 =>
    Q r56 h55) ∧
    (r53 = false →
    Q false h52))
def F.spatelaw9_EpochTwins.l10 (Q : Bool → H → Prop) : Nat → Sl → Sl → (Option Addr) → (Option Addr) → (Option Addr) → (Option Addr) → Int → H → Prop
  | 0, _, _, _, _, _, _, _, _ => False
  | q10 + 1, x2, x3, x9, x12, x13, x14, x16, h =>
    ((decide (x16 < (x2.len : Int))) = true →
    idxA x2 x16 4 fun a39 =>
    ld_S_spatelaw9_Step h a39 fun y41 =>
    F.spatelaw9_do x9 y41 h fun r44 h43 =>
    (F.spatelaw9_EpochTwins.l10 Q q10) x2 x3 x9 x12 x13 x14 (IntKind.wrap .i64 (x16 + 1)) h43) ∧
    ((decide (x16 < (x2.len : Int))) = false →
    ∃ m, F.spatelaw9_EpochTwins.l11 Q m x3 x9 x12 x13 x14 0 h)
def F.spatelaw9_EpochTwins.j9 (Q : Bool → H → Prop) (C1 : Sl → Sl → (Option Addr) → (Option Addr) → (Option Addr) → (Option Addr) → Int → H → Prop) (x2 : Sl) (x3 : Sl) (x9 : Option Addr) (x12 : Option Addr) (x13 : Option Addr) (x14 : Option Addr) (x15 : Int) (x89 : Bool) (h : H) : Prop :=
  (x89 = true →
  F.spatelaw9_EpochTwins.j6 Q C1 x2 x3 x9 x12 x13 x14 x15 h) ∧
  (x89 = false →
  F.spatelaw9_alike x9 x14 h fun r36 h35 =>
  ((!r36) = true →
  Q false h35) ∧
  ((!r36) = false →
  ∃ m, F.spatelaw9_EpochTwins.l10 Q m x2 x3 x9 x12 x13 x14 0 h35))
def F.spatelaw9_EpochTwins.l5 (Q : Bool → H → Prop) : Nat → Sl → Sl → (Option Addr) → (Option Addr) → (Option Addr) → (Option Addr) → Int → H → Prop
  | 0, _, _, _, _, _, _, _, _ => False
  | q5 + 1, x2, x3, x9, x12, x13, x14, x15, h =>
    ((decide (x15 < (x2.len : Int))) = true →
    F.spatelaw9_EpochTwins.j9 Q (F.spatelaw9_EpochTwins.l5 Q q5) x2 x3 x9 x12 x13 x14 x15 true h) ∧
    ((decide (x15 < (x2.len : Int))) = false →
    F.spatelaw9_EpochTwins.j9 Q (F.spatelaw9_EpochTwins.l5 Q q5) x2 x3 x9 x12 x13 x14 x15 (decide (x15 < (x3.len : Int))) h)
def F.spatelaw9_EpochTwins.j4 (Q : Bool → H → Prop) (x2 : Sl) (x3 : Sl) (x9 : Option Addr) (x12 : Option Addr) (x13 : Option Addr) (x14 : Option Addr) (h : H) : Prop :=
  ∃ m, F.spatelaw9_EpochTwins.l5 Q m x2 x3 x9 x12 x13 x14 0 h
def F.spatelaw9_EpochTwins.j12 (Q : Bool → H → Prop) (x2 : Sl) (x3 : Sl) (x9 : Option Addr) (x12 : Option Addr) (x13 : Option Addr) (x14 : Option Addr) (x79 : Bool) (h : H) : Prop :=
  (x79 = true →
  Q false h) ∧
  (x79 = false →
  F.spatelaw9_EpochTwins.j4 Q x2 x3 x9 x12 x13 x14 h)
def F.spatelaw9_EpochTwins.l3 (Q : Bool → H → Prop) : Nat → Sl → Sl → Sl → (Option Addr) → Int → H → Prop
  | 0, _, _, _, _, _, _ => False
  | q3 + 1, x1, x2, x3, x9, x11, h =>
    ((decide (x11 < (x1.len : Int))) = true →
    idxA x1 x11 4 fun a8 =>
    ld_S_spatelaw9_Step h a8 fun y10 =>
    F.spatelaw9_do x9 y10 h fun r13 h12 =>
    (F.spatelaw9_EpochTwins.l3 Q q3) x1 x2 x3 x9 (IntKind.wrap .i64 (x11 + 1)) h12) ∧
    ((decide (x11 < (x1.len : Int))) = false →
    F.epoch_Book_Twin x9 h fun r15 h14 =>
    F.epoch_Book_Twin x9 h14 fun r17 h16 =>
    F.epoch_Book_Twin x9 h16 fun r19 h18 =>
    (r15.isNone = true →
    F.spatelaw9_EpochTwins.j12 Q x2 x3 x9 r15 r17 r19 true h18) ∧
    (r15.isNone = false →
    (r17.isNone = true →
    F.spatelaw9_EpochTwins.j12 Q x2 x3 x9 r15 r17 r19 true h18) ∧
    (r17.isNone = false →
    F.spatelaw9_EpochTwins.j12 Q x2 x3 x9 r15 r17 r19 r19.isNone h18)))
def F.spatelaw9_EpochTwins.j2 (Q : Bool → H → Prop) (x1 : Sl) (x2 : Sl) (x3 : Sl) (x9 : Option Addr) (h : H) : Prop :=
  ∃ m, F.spatelaw9_EpochTwins.l3 Q m x1 x2 x3 x9 0 h
def F.spatelaw9_EpochTwins.j13 (Q : Bool → H → Prop) (x1 : Sl) (x2 : Sl) (x3 : Sl) (x9 : Option Addr) (x51 : Bool) (h : H) : Prop :=
  (x51 = true →
  Q false h) ∧
  (x51 = false →
  F.spatelaw9_EpochTwins.j2 Q x1 x2 x3 x9 h)
def F.spatelaw9_EpochTwins.j1 (Q : Bool → H → Prop) (x0 : Int) (x1 : Sl) (x2 : Sl) (x3 : Sl) (h : H) : Prop :=
  F.epoch_New x0 h fun r5 r6 h4 =>
  (((r6 != 0)) = true →
  F.spatelaw9_EpochTwins.j13 Q x1 x2 x3 r5 true h4) ∧
  (((r6 != 0)) = false →
  F.spatelaw9_EpochTwins.j13 Q x1 x2 x3 r5 r5.isNone h4)
def F.spatelaw9_EpochTwins.j14 (Q : Bool → H → Prop) (x0 : Int) (x1 : Sl) (x2 : Sl) (x3 : Sl) (x40 : Bool) (h : H) : Prop :=
  (x40 = true →
  Q true h) ∧
  (x40 = false →
  F.spatelaw9_EpochTwins.j1 Q x0 x1 x2 x3 h)
/-- spate/spatelaw9.EpochTwins -/
def F.spatelaw9_EpochTwins (p0 : Int) (p1 : Sl) (p2 : Sl) (p3 : Sl) (h : H) (Q : Bool → H → Prop) : Prop :=
  F.spatelaw9_known  h fun r2 h1 =>
  ((!r2) = true →
  Q false h1) ∧
  ((!r2) = false →
  ((decide ((p1.len : Int) > 3000)) = true →
  F.spatelaw9_EpochTwins.j14 Q p0 p1 p2 p3 true h1) ∧
  ((decide ((p1.len : Int) > 3000)) = false →
  ((decide ((p2.len : Int) > 3000)) = true →
  F.spatelaw9_EpochTwins.j14 Q p0 p1 p2 p3 true h1) ∧
  ((decide ((p2.len : Int) > 3000)) = false →
  ((decide ((p3.len : Int) > 3000)) = true →
  F.spatelaw9_EpochTwins.j14 Q p0 p1 p2 p3 true h1) ∧
  ((decide ((p3.len : Int) > 3000)) = false →
  ((decide (p0 < 1)) = true →
  F.spatelaw9_EpochTwins.j14 Q p0 p1 p2 p3 true h1) ∧
  ((decide (p0 < 1)) = false →
  F.spatelaw9_EpochTwins.j14 Q p0 p1 p2 p3 (decide (p0 > 64)) h1)))))
theorem F.spatelaw9_EpochTwins_ok {p0 : Int} {p1 : Sl} {p2 : Sl} {p3 : Sl} {h : H} {Q : Bool → H → Prop} (H : F.spatelaw9_EpochTwins p0 p1 p2 p3 h Q) : Fn PP 8 ([(.int .i64 p0), p1.enc, p2.enc, p3.enc] : List Value).toArray h fun r h' => ∃ r0, r = (.bool r0) ∧ Q r0 h' := by
  unfold F.spatelaw9_EpochTwins at H
  refine fn_of Try.func8 Try.ntmps8 rfl rfl fun w0 => ?_
  refine tr_sub [(0, (.int .i64 p0)), (1, p1.enc), (2, p2.enc), (3, p3.enc)] ⟨rfl, rfl, rfl, rfl, trivial⟩ ?_
  refine tr_seq ?_
  refine tr_region ?_
  refine tr_p (y_assign rfl) rfl rfl ?_
  refine tr_nil ?_
  refine tr_thenN ?_
  refine tr_seq ?_
  refine tr_seq ?_
  refine tr_region ?_
  refine tr_e (e_call Try.call9 rfl (F.spatelaw9_known_ok H)) rfl rfl ?_
  rintro _ h1 ⟨r2, rfl, H⟩
  refine tr_p (y_not rfl) rfl rfl ?_
  refine tr_nil ?_
  refine tr_thenN ?_
  refine tr_cond rfl (fun g3 => ?_) (fun g3 => ?_)
  · replace H := H.1 g3
    refine tr_seq ?_
    refine tr_region ?_
    refine tr_p (y_assign rfl) rfl rfl ?_
    refine tr_nil ?_
    refine tr_thenN ?_
    refine tr_ret ?_
    refine tr_thenR ?_
    exact tr_ret1 rfl rfl ⟨_, rfl, H⟩
  · replace H := H.2 g3
    refine tr_skip ?_
    refine tr_thenN ?_
    refine tr_seq_j (fun L' h => ∃ (x0 : Int) (x1 : Sl) (x2 : Sl) (x3 : Sl), L' = [(0, (.int .i64 x0)), (1, x1.enc), (2, x2.enc), (3, x3.enc)] ∧ F.spatelaw9_EpochTwins.j1 Q x0 x1 x2 x3 h) ?_ ?_
    · rintro L' h ⟨x0, x1, x2, x3, rfl, H⟩
      unfold F.spatelaw9_EpochTwins.j1 at H
      refine tr_seq ?_
      refine tr_region ?_
      refine tr_p (y_move rfl) rfl rfl ?_
      refine tr_e (e_call Try.call10 rfl (F.epoch_New_ok H)) rfl rfl ?_
      rintro _ h4 ⟨r5, r6, rfl, H⟩
      refine tr_p (y_move rfl) rfl rfl ?_
      refine tr_p (y_ext rfl rfl) rfl rfl ?_
      refine tr_p (y_ext rfl rfl) rfl rfl ?_
      refine tr_p (y_assign rfl) rfl rfl ?_
      refine tr_p (y_assign rfl) rfl rfl ?_
      refine tr_nil ?_
      refine tr_thenN ?_
      refine tr_seq_j (fun L' h => ∃ (x1 : Sl) (x2 : Sl) (x3 : Sl) (x9 : Option Addr), L' = [(1, x1.enc), (2, x2.enc), (3, x3.enc), (9, (.pointer x9))] ∧ F.spatelaw9_EpochTwins.j2 Q x1 x2 x3 x9 h) ?_ ?_
      · rintro L' h ⟨x1, x2, x3, x9, rfl, H⟩
        unfold F.spatelaw9_EpochTwins.j2 at H
        refine tr_seq ?_
        refine tr_seq ?_
        refine tr_region ?_
        refine tr_p (y_assign rfl) rfl rfl ?_
        refine tr_nil ?_
        refine tr_thenN ?_
        refine tr_block ?_
        obtain ⟨m64, H⟩ := H
        refine tr_sub [(1, x1.enc), (2, x2.enc), (3, x3.enc), (9, (.pointer x9)), (11, (.int .i64 0))] ⟨rfl, rfl, rfl, rfl, rfl, trivial⟩ ?_
        refine tr_loop_j (fun m L' h => ∃ (x1 : Sl) (x2 : Sl) (x3 : Sl) (x9 : Option Addr) (x11 : Int), L' = [(1, x1.enc), (2, x2.enc), (3, x3.enc), (9, (.pointer x9)), (11, (.int .i64 x11))] ∧ F.spatelaw9_EpochTwins.l3 Q m x1 x2 x3 x9 x11 h) ?_ ?_ m64 ⟨_, _, _, _, _, rfl, H⟩
        · rintro L' h ⟨_, _, _, _, _, _, H⟩; exact H
        · rintro q3 L' h ⟨x1, x2, x3, x9, x11, rfl, H⟩
          unfold F.spatelaw9_EpochTwins.l3 at H
          refine tr_seq ?_
          refine tr_seq ?_
          refine tr_region ?_
          refine tr_p (y_move rfl) rfl rfl ?_
          refine tr_p (y_move rfl) rfl rfl ?_
          refine tr_p (y_len (ts := #[]) Try.runUnderlying23 (o := x1.ptr) (n := x1.len) (cap := x1.cap) rfl) rfl rfl ?_
          refine tr_p (y_lss rfl rfl) rfl rfl ?_
          refine tr_nil ?_
          refine tr_thenN ?_
          refine tr_cond rfl (fun g7 => ?_) (fun g7 => ?_)
          · replace H := H.1 g7
            refine tr_skip ?_
            refine tr_thenN ?_
            refine tr_seq ?_
            refine tr_block ?_
            refine tr_region ?_
            refine tr_p (y_move rfl) rfl rfl ?_
            refine tr_p (y_move rfl) rfl rfl ?_
            refine tr_p (y_move rfl) rfl rfl ?_
            obtain ⟨a8, e9, H⟩ := H
            refine tr_p (f_idx (s := x1) Try.runUnderlying23 Try.sizeOf31 rfl rfl e9) rfl rfl ?_
            obtain ⟨y10, k11, H⟩ := H
            refine tr_h (y_ldS Try.isAgg31 Try.sizeOf31 rfl rfl) k11 rfl rfl ?_
            refine tr_e (e_call Try.call13 rfl (F.spatelaw9_do_ok H)) rfl rfl ?_
            rintro _ h12 ⟨r13, rfl, H⟩
            refine tr_nil ?_
            refine tr_blockN ?_
            refine tr_thenN ?_
            refine tr_region ?_
            refine tr_p (y_move rfl) rfl rfl ?_
            refine tr_p (y_add rfl rfl) rfl rfl ?_
            refine tr_p (y_assign rfl) rfl rfl ?_
            refine tr_nil ?_
            refine tr_thenN ?_
            exact tr_join [(1, x1.enc), (2, x2.enc), (3, x3.enc), (9, (.pointer x9)), (11, (.int .i64 (IntKind.wrap .i64 (x11 + 1))))] ⟨rfl, rfl, rfl, rfl, rfl, trivial⟩ ⟨_, _, _, _, _, rfl, H⟩
          · replace H := H.2 g7
            refine tr_exit ?_
            refine tr_thenE ?_
            refine tr_thenE ?_
            refine tr_hit ?_
            refine tr_thenN ?_
            refine tr_seq ?_
            refine tr_region ?_
            refine tr_p (y_move rfl) rfl rfl ?_
            refine tr_e (e_call Try.call21 rfl (F.epoch_Book_Twin_ok H)) rfl rfl ?_
            rintro _ h14 ⟨r15, rfl, H⟩
            refine tr_p (y_assign rfl) rfl rfl ?_
            refine tr_nil ?_
            refine tr_thenN ?_
            refine tr_seq ?_
            refine tr_region ?_
            refine tr_p (y_move rfl) rfl rfl ?_
            refine tr_e (e_call Try.call21 rfl (F.epoch_Book_Twin_ok H)) rfl rfl ?_
            rintro _ h16 ⟨r17, rfl, H⟩
            refine tr_p (y_assign rfl) rfl rfl ?_
            refine tr_nil ?_
            refine tr_thenN ?_
            refine tr_seq ?_
            refine tr_region ?_
            refine tr_p (y_move rfl) rfl rfl ?_
            refine tr_e (e_call Try.call21 rfl (F.epoch_Book_Twin_ok H)) rfl rfl ?_
            rintro _ h18 ⟨r19, rfl, H⟩
            refine tr_p (y_assign rfl) rfl rfl ?_
            refine tr_nil ?_
            refine tr_thenN ?_
            refine tr_seq_j (fun L' h => ∃ (x2 : Sl) (x3 : Sl) (x9 : Option Addr) (x12 : Option Addr) (x13 : Option Addr) (x14 : Option Addr), L' = [(2, x2.enc), (3, x3.enc), (9, (.pointer x9)), (12, (.pointer x12)), (13, (.pointer x13)), (14, (.pointer x14))] ∧ F.spatelaw9_EpochTwins.j4 Q x2 x3 x9 x12 x13 x14 h) ?_ ?_
            · rintro L' h ⟨x2, x3, x9, x12, x13, x14, rfl, H⟩
              unfold F.spatelaw9_EpochTwins.j4 at H
              refine tr_seq ?_
              refine tr_seq ?_
              refine tr_region ?_
              refine tr_p (y_assign rfl) rfl rfl ?_
              refine tr_nil ?_
              refine tr_thenN ?_
              refine tr_block ?_
              obtain ⟨m60, H⟩ := H
              refine tr_sub [(2, x2.enc), (3, x3.enc), (9, (.pointer x9)), (12, (.pointer x12)), (13, (.pointer x13)), (14, (.pointer x14)), (15, (.int .i64 0))] ⟨rfl, rfl, rfl, rfl, rfl, rfl, rfl, trivial⟩ ?_
              refine tr_loop_j (fun m L' h => ∃ (x2 : Sl) (x3 : Sl) (x9 : Option Addr) (x12 : Option Addr) (x13 : Option Addr) (x14 : Option Addr) (x15 : Int), L' = [(2, x2.enc), (3, x3.enc), (9, (.pointer x9)), (12, (.pointer x12)), (13, (.pointer x13)), (14, (.pointer x14)), (15, (.int .i64 x15))] ∧ F.spatelaw9_EpochTwins.l5 Q m x2 x3 x9 x12 x13 x14 x15 h) ?_ ?_ m60 ⟨_, _, _, _, _, _, _, rfl, H⟩
              · rintro L' h ⟨_, _, _, _, _, _, _, _, H⟩; exact H
              · rintro q5 L' h ⟨x2, x3, x9, x12, x13, x14, x15, rfl, H⟩
                unfold F.spatelaw9_EpochTwins.l5 at H
                refine tr_seq_j (fun L' h => ∃ (x2 : Sl) (x3 : Sl) (x9 : Option Addr) (x12 : Option Addr) (x13 : Option Addr) (x14 : Option Addr) (x15 : Int), L' = [(2, x2.enc), (3, x3.enc), (9, (.pointer x9)), (12, (.pointer x12)), (13, (.pointer x13)), (14, (.pointer x14)), (15, (.int .i64 x15))] ∧ F.spatelaw9_EpochTwins.j6 Q (F.spatelaw9_EpochTwins.l5 Q q5) x2 x3 x9 x12 x13 x14 x15 h) ?_ ?_
                · rintro L' h ⟨x2, x3, x9, x12, x13, x14, x15, rfl, H⟩
                  unfold F.spatelaw9_EpochTwins.j6 at H
                  refine tr_seq_j (fun L' h => ∃ (x2 : Sl) (x3 : Sl) (x9 : Option Addr) (x12 : Option Addr) (x13 : Option Addr) (x14 : Option Addr) (x15 : Int), L' = [(2, x2.enc), (3, x3.enc), (9, (.pointer x9)), (12, (.pointer x12)), (13, (.pointer x13)), (14, (.pointer x14)), (15, (.int .i64 x15))] ∧ F.spatelaw9_EpochTwins.j7 Q (F.spatelaw9_EpochTwins.l5 Q q5) x2 x3 x9 x12 x13 x14 x15 h) ?_ ?_
                  · rintro L' h ⟨x2, x3, x9, x12, x13, x14, x15, rfl, H⟩
                    unfold F.spatelaw9_EpochTwins.j7 at H
                    refine tr_region ?_
                    refine tr_p (y_move rfl) rfl rfl ?_
                    refine tr_p (y_add rfl rfl) rfl rfl ?_
                    refine tr_p (y_assign rfl) rfl rfl ?_
                    refine tr_nil ?_
                    refine tr_thenN ?_
                    exact tr_join [(2, x2.enc), (3, x3.enc), (9, (.pointer x9)), (12, (.pointer x12)), (13, (.pointer x13)), (14, (.pointer x14)), (15, (.int .i64 (IntKind.wrap .i64 (x15 + 1))))] ⟨rfl, rfl, rfl, rfl, rfl, rfl, rfl, trivial⟩ ⟨_, _, _, _, _, _, _, rfl, H⟩
                  · refine tr_block ?_
                    refine tr_seq_j (fun L' h => ∃ (x2 : Sl) (x3 : Sl) (x9 : Option Addr) (x12 : Option Addr) (x13 : Option Addr) (x14 : Option Addr) (x15 : Int), L' = [(2, x2.enc), (3, x3.enc), (9, (.pointer x9)), (12, (.pointer x12)), (13, (.pointer x13)), (14, (.pointer x14)), (15, (.int .i64 x15))] ∧ F.spatelaw9_EpochTwins.j8 Q (F.spatelaw9_EpochTwins.l5 Q q5) x2 x3 x9 x12 x13 x14 x15 h) ?_ ?_
                    · rintro L' h ⟨x2, x3, x9, x12, x13, x14, x15, rfl, H⟩
                      unfold F.spatelaw9_EpochTwins.j8 at H
                      refine tr_seq ?_
                      refine tr_region ?_
                      refine tr_p (y_move rfl) rfl rfl ?_
                      refine tr_p (y_move rfl) rfl rfl ?_
                      refine tr_p (y_len (ts := #[]) Try.runUnderlying23 (o := x3.ptr) (n := x3.len) (cap := x3.cap) rfl) rfl rfl ?_
                      refine tr_p (y_lss rfl rfl) rfl rfl ?_
                      refine tr_nil ?_
                      refine tr_thenN ?_
                      refine tr_cond rfl (fun g20 => ?_) (fun g20 => ?_)
                      · replace H := H.1 g20
                        refine tr_region ?_
                        refine tr_p (y_move rfl) rfl rfl ?_
                        refine tr_p (y_move rfl) rfl rfl ?_
                        refine tr_p (y_move rfl) rfl rfl ?_
                        obtain ⟨a21, e22, H⟩ := H
                        refine tr_p (f_idx (s := x3) Try.runUnderlying23 Try.sizeOf31 rfl rfl e22) rfl rfl ?_
                        obtain ⟨y23, k24, H⟩ := H
                        refine tr_h (y_ldS Try.isAgg31 Try.sizeOf31 rfl rfl) k24 rfl rfl ?_
                        refine tr_e (e_call Try.call13 rfl (F.spatelaw9_do_ok H)) rfl rfl ?_
                        rintro _ h25 ⟨r26, rfl, H⟩
                        refine tr_nil ?_
                        refine tr_blockN ?_
                        refine tr_thenN ?_
                        exact tr_join [(2, x2.enc), (3, x3.enc), (9, (.pointer x9)), (12, (.pointer x12)), (13, (.pointer x13)), (14, (.pointer x14)), (15, (.int .i64 x15))] ⟨rfl, rfl, rfl, rfl, rfl, rfl, rfl, trivial⟩ ⟨_, _, _, _, _, _, _, rfl, H⟩
                      · replace H := H.2 g20
                        refine tr_skip ?_
                        refine tr_blockN ?_
                        refine tr_thenN ?_
                        exact tr_join [(2, x2.enc), (3, x3.enc), (9, (.pointer x9)), (12, (.pointer x12)), (13, (.pointer x13)), (14, (.pointer x14)), (15, (.int .i64 x15))] ⟨rfl, rfl, rfl, rfl, rfl, rfl, rfl, trivial⟩ ⟨_, _, _, _, _, _, _, rfl, H⟩
                    · refine tr_seq ?_
                      refine tr_region ?_
                      refine tr_p (y_move rfl) rfl rfl ?_
                      refine tr_p (y_move rfl) rfl rfl ?_
                      refine tr_p (y_len (ts := #[]) Try.runUnderlying23 (o := x2.ptr) (n := x2.len) (cap := x2.cap) rfl) rfl rfl ?_
                      refine tr_p (y_lss rfl rfl) rfl rfl ?_
                      refine tr_nil ?_
                      refine tr_thenN ?_
                      refine tr_cond rfl (fun g27 => ?_) (fun g27 => ?_)
                      · replace H := H.1 g27
                        refine tr_region ?_
                        refine tr_p (y_move rfl) rfl rfl ?_
                        refine tr_p (y_move rfl) rfl rfl ?_
                        refine tr_p (y_move rfl) rfl rfl ?_
                        obtain ⟨a28, e29, H⟩ := H
                        refine tr_p (f_idx (s := x2) Try.runUnderlying23 Try.sizeOf31 rfl rfl e29) rfl rfl ?_
                        obtain ⟨y30, k31, H⟩ := H
                        refine tr_h (y_ldS Try.isAgg31 Try.sizeOf31 rfl rfl) k31 rfl rfl ?_
                        refine tr_e (e_call Try.call13 rfl (F.spatelaw9_do_ok H)) rfl rfl ?_
                        rintro _ h32 ⟨r33, rfl, H⟩
                        refine tr_nil ?_
                        refine tr_thenN ?_
                        exact tr_join [(2, x2.enc), (3, x3.enc), (9, (.pointer x9)), (12, (.pointer x12)), (13, (.pointer x13)), (14, (.pointer x14)), (15, (.int .i64 x15))] ⟨rfl, rfl, rfl, rfl, rfl, rfl, rfl, trivial⟩ ⟨_, _, _, _, _, _, _, rfl, H⟩
                      · replace H := H.2 g27
                        refine tr_skip ?_
                        refine tr_thenN ?_
                        exact tr_join [(2, x2.enc), (3, x3.enc), (9, (.pointer x9)), (12, (.pointer x12)), (13, (.pointer x13)), (14, (.pointer x14)), (15, (.int .i64 x15))] ⟨rfl, rfl, rfl, rfl, rfl, rfl, rfl, trivial⟩ ⟨_, _, _, _, _, _, _, rfl, H⟩
                · refine tr_seq_j (fun L' h => ∃ (x2 : Sl) (x3 : Sl) (x9 : Option Addr) (x12 : Option Addr) (x13 : Option Addr) (x14 : Option Addr) (x15 : Int) (x89 : Bool), L' = [(2, x2.enc), (3, x3.enc), (9, (.pointer x9)), (12, (.pointer x12)), (13, (.pointer x13)), (14, (.pointer x14)), (15, (.int .i64 x15)), (89, (.bool x89))] ∧ F.spatelaw9_EpochTwins.j9 Q (F.spatelaw9_EpochTwins.l5 Q q5) x2 x3 x9 x12 x13 x14 x15 x89 h) ?_ ?_
                  · rintro L' h ⟨x2, x3, x9, x12, x13, x14, x15, x89, rfl, H⟩
                    unfold F.spatelaw9_EpochTwins.j9 at H
                    refine tr_cond rfl (fun g34 => ?_) (fun g34 => ?_)
                    · replace H := H.1 g34
                      refine tr_skip ?_
                      refine tr_thenN ?_
                      exact tr_join [(2, x2.enc), (3, x3.enc), (9, (.pointer x9)), (12, (.pointer x12)), (13, (.pointer x13)), (14, (.pointer x14)), (15, (.int .i64 x15))] ⟨rfl, rfl, rfl, rfl, rfl, rfl, rfl, trivial⟩ ⟨_, _, _, _, _, _, _, rfl, H⟩
                    · replace H := H.2 g34
                      refine tr_exit ?_
                      refine tr_thenE ?_
                      refine tr_thenE ?_
                      refine tr_hit ?_
                      refine tr_thenN ?_
                      refine tr_seq ?_
                      refine tr_seq ?_
                      refine tr_region ?_
                      refine tr_p (y_move rfl) rfl rfl ?_
                      refine tr_p (y_move rfl) rfl rfl ?_
                      refine tr_e (e_call Try.call20 rfl (F.spatelaw9_alike_ok H)) rfl rfl ?_
                      rintro _ h35 ⟨r36, rfl, H⟩
                      refine tr_p (y_not rfl) rfl rfl ?_
                      refine tr_nil ?_
                      refine tr_thenN ?_
                      refine tr_cond rfl (fun g37 => ?_) (fun g37 => ?_)
                      · replace H := H.1 g37
                        refine tr_seq ?_
                        refine tr_region ?_
                        refine tr_p (y_assign rfl) rfl rfl ?_
                        refine tr_nil ?_
                        refine tr_thenN ?_
                        refine tr_ret ?_
                        refine tr_thenR ?_
                        exact tr_ret1 rfl rfl ⟨_, rfl, H⟩
                      · replace H := H.2 g37
                        refine tr_skip ?_
                        refine tr_thenN ?_
                        refine tr_seq ?_
                        refine tr_seq ?_
                        refine tr_region ?_
                        refine tr_p (y_assign rfl) rfl rfl ?_
                        refine tr_nil ?_
                        refine tr_thenN ?_
                        refine tr_block ?_
                        obtain ⟨m58, H⟩ := H
                        refine tr_sub [(2, x2.enc), (3, x3.enc), (9, (.pointer x9)), (12, (.pointer x12)), (13, (.pointer x13)), (14, (.pointer x14)), (16, (.int .i64 0))] ⟨rfl, rfl, rfl, rfl, rfl, rfl, rfl, trivial⟩ ?_
                        refine tr_loop_j (fun m L' h => ∃ (x2 : Sl) (x3 : Sl) (x9 : Option Addr) (x12 : Option Addr) (x13 : Option Addr) (x14 : Option Addr) (x16 : Int), L' = [(2, x2.enc), (3, x3.enc), (9, (.pointer x9)), (12, (.pointer x12)), (13, (.pointer x13)), (14, (.pointer x14)), (16, (.int .i64 x16))] ∧ F.spatelaw9_EpochTwins.l10 Q m x2 x3 x9 x12 x13 x14 x16 h) ?_ ?_ m58 ⟨_, _, _, _, _, _, _, rfl, H⟩
                        · rintro L' h ⟨_, _, _, _, _, _, _, _, H⟩; exact H
                        · rintro q10 L' h ⟨x2, x3, x9, x12, x13, x14, x16, rfl, H⟩
                          unfold F.spatelaw9_EpochTwins.l10 at H
                          refine tr_seq ?_
                          refine tr_seq ?_
                          refine tr_region ?_
                          refine tr_p (y_move rfl) rfl rfl ?_
                          refine tr_p (y_move rfl) rfl rfl ?_
                          refine tr_p (y_len (ts := #[]) Try.runUnderlying23 (o := x2.ptr) (n := x2.len) (cap := x2.cap) rfl) rfl rfl ?_
                          refine tr_p (y_lss rfl rfl) rfl rfl ?_
                          refine tr_nil ?_
                          refine tr_thenN ?_
                          refine tr_cond rfl (fun g38 => ?_) (fun g38 => ?_)
                          · replace H := H.1 g38
                            refine tr_skip ?_
                            refine tr_thenN ?_
                            refine tr_seq ?_
                            refine tr_block ?_
                            refine tr_region ?_
                            refine tr_p (y_move rfl) rfl rfl ?_
                            refine tr_p (y_move rfl) rfl rfl ?_
                            refine tr_p (y_move rfl) rfl rfl ?_
                            obtain ⟨a39, e40, H⟩ := H
                            refine tr_p (f_idx (s := x2) Try.runUnderlying23 Try.sizeOf31 rfl rfl e40) rfl rfl ?_
                            obtain ⟨y41, k42, H⟩ := H
                            refine tr_h (y_ldS Try.isAgg31 Try.sizeOf31 rfl rfl) k42 rfl rfl ?_
                            refine tr_e (e_call Try.call13 rfl (F.spatelaw9_do_ok H)) rfl rfl ?_
                            rintro _ h43 ⟨r44, rfl, H⟩
                            refine tr_nil ?_
                            refine tr_blockN ?_
                            refine tr_thenN ?_
                            refine tr_region ?_
                            refine tr_p (y_move rfl) rfl rfl ?_
                            refine tr_p (y_add rfl rfl) rfl rfl ?_
                            refine tr_p (y_assign rfl) rfl rfl ?_
                            refine tr_nil ?_
                            refine tr_thenN ?_
                            exact tr_join [(2, x2.enc), (3, x3.enc), (9, (.pointer x9)), (12, (.pointer x12)), (13, (.pointer x13)), (14, (.pointer x14)), (16, (.int .i64 (IntKind.wrap .i64 (x16 + 1))))] ⟨rfl, rfl, rfl, rfl, rfl, rfl, rfl, trivial⟩ ⟨_, _, _, _, _, _, _, rfl, H⟩
                          · replace H := H.2 g38
                            refine tr_exit ?_
                            refine tr_thenE ?_
                            refine tr_thenE ?_
                            refine tr_hit ?_
                            refine tr_thenN ?_
                            refine tr_seq ?_
                            refine tr_seq ?_
                            refine tr_region ?_
                            refine tr_p (y_assign rfl) rfl rfl ?_
                            refine tr_nil ?_
                            refine tr_thenN ?_
                            refine tr_block ?_
                            obtain ⟨m57, H⟩ := H
                            refine tr_sub [(3, x3.enc), (9, (.pointer x9)), (12, (.pointer x12)), (13, (.pointer x13)), (14, (.pointer x14)), (17, (.int .i64 0))] ⟨rfl, rfl, rfl, rfl, rfl, rfl, trivial⟩ ?_
                            refine tr_loop_j (fun m L' h => ∃ (x3 : Sl) (x9 : Option Addr) (x12 : Option Addr) (x13 : Option Addr) (x14 : Option Addr) (x17 : Int), L' = [(3, x3.enc), (9, (.pointer x9)), (12, (.pointer x12)), (13, (.pointer x13)), (14, (.pointer x14)), (17, (.int .i64 x17))] ∧ F.spatelaw9_EpochTwins.l11 Q m x3 x9 x12 x13 x14 x17 h) ?_ ?_ m57 ⟨_, _, _, _, _, _, rfl, H⟩
                            · rintro L' h ⟨_, _, _, _, _, _, _, H⟩; exact H
                            · rintro q11 L' h ⟨x3, x9, x12, x13, x14, x17, rfl, H⟩
                              unfold F.spatelaw9_EpochTwins.l11 at H
                              refine tr_seq ?_
                              refine tr_seq ?_
                              refine tr_region ?_
                              refine tr_p (y_move rfl) rfl rfl ?_
                              refine tr_p (y_move rfl) rfl rfl ?_
                              refine tr_p (y_len (ts := #[]) Try.runUnderlying23 (o := x3.ptr) (n := x3.len) (cap := x3.cap) rfl) rfl rfl ?_
                              refine tr_p (y_lss rfl rfl) rfl rfl ?_
                              refine tr_nil ?_
                              refine tr_thenN ?_
                              refine tr_cond rfl (fun g45 => ?_) (fun g45 => ?_)
                              · replace H := H.1 g45
                                refine tr_skip ?_
                                refine tr_thenN ?_
                                refine tr_seq ?_
                                refine tr_block ?_
                                refine tr_region ?_
                                refine tr_p (y_move rfl) rfl rfl ?_
                                refine tr_p (y_move rfl) rfl rfl ?_
                                refine tr_p (y_move rfl) rfl rfl ?_
                                obtain ⟨a46, e47, H⟩ := H
                                refine tr_p (f_idx (s := x3) Try.runUnderlying23 Try.sizeOf31 rfl rfl e47) rfl rfl ?_
                                obtain ⟨y48, k49, H⟩ := H
                                refine tr_h (y_ldS Try.isAgg31 Try.sizeOf31 rfl rfl) k49 rfl rfl ?_
                                refine tr_e (e_call Try.call13 rfl (F.spatelaw9_do_ok H)) rfl rfl ?_
                                rintro _ h50 ⟨r51, rfl, H⟩
                                refine tr_nil ?_
                                refine tr_blockN ?_
                                refine tr_thenN ?_
                                refine tr_region ?_
                                refine tr_p (y_move rfl) rfl rfl ?_
                                refine tr_p (y_add rfl rfl) rfl rfl ?_
                                refine tr_p (y_assign rfl) rfl rfl ?_
                                refine tr_nil ?_
                                refine tr_thenN ?_
                                exact tr_join [(3, x3.enc), (9, (.pointer x9)), (12, (.pointer x12)), (13, (.pointer x13)), (14, (.pointer x14)), (17, (.int .i64 (IntKind.wrap .i64 (x17 + 1))))] ⟨rfl, rfl, rfl, rfl, rfl, rfl, trivial⟩ ⟨_, _, _, _, _, _, rfl, H⟩
                              · replace H := H.2 g45
                                refine tr_exit ?_
                                refine tr_thenE ?_
                                refine tr_thenE ?_
                                refine tr_hit ?_
                                refine tr_thenN ?_
                                refine tr_seq ?_
                                refine tr_region ?_
                                refine tr_p (y_move rfl) rfl rfl ?_
                                refine tr_p (y_move rfl) rfl rfl ?_
                                refine tr_e (e_call Try.call20 rfl (F.spatelaw9_alike_ok H)) rfl rfl ?_
                                rintro _ h52 ⟨r53, rfl, H⟩
                                refine tr_p (y_move rfl) rfl rfl ?_
                                refine tr_split (t := 143) rfl (fun g54 => ?_) (fun g54 => ?_)
                                · replace H := H.1 g54
                                  refine tr_p (y_move rfl) rfl rfl ?_
                                  refine tr_p (y_move rfl) rfl rfl ?_
                                  refine tr_e (e_call Try.call20 rfl (F.spatelaw9_alike_ok H)) rfl rfl ?_
                                  rintro _ h55 ⟨r56, rfl, H⟩
                                  refine tr_p (y_pick_t rfl rfl) rfl rfl ?_
                                  refine tr_p (y_assign rfl) rfl rfl ?_
                                  refine tr_nil ?_
                                  refine tr_thenN ?_
                                  refine tr_ret ?_
                                  exact tr_ret1 rfl rfl ⟨_, rfl, H⟩
                                · replace H := H.2 g54
                                  refine tr_s rfl rfl ?_
                                  refine tr_s rfl rfl ?_
                                  refine tr_s rfl rfl ?_
                                  refine tr_p (y_pick_f rfl rfl) rfl rfl ?_
                                  refine tr_p (y_assign rfl) rfl rfl ?_
                                  refine tr_nil ?_
                                  refine tr_thenN ?_
                                  refine tr_ret ?_
                                  exact tr_ret1 rfl rfl ⟨_, rfl, H⟩
                  · refine tr_region ?_
                    refine tr_p (y_move rfl) rfl rfl ?_
                    refine tr_p (y_move rfl) rfl rfl ?_
                    refine tr_p (y_len (ts := #[]) Try.runUnderlying23 (o := x2.ptr) (n := x2.len) (cap := x2.cap) rfl) rfl rfl ?_
                    refine tr_p (y_lss rfl rfl) rfl rfl ?_
                    refine tr_p (y_move rfl) rfl rfl ?_
                    refine tr_split (t := 84) rfl (fun g59 => ?_) (fun g59 => ?_)
                    · replace H := H.1 g59
                      refine tr_s rfl rfl ?_
                      refine tr_s rfl rfl ?_
                      refine tr_s rfl rfl ?_
                      refine tr_s rfl rfl ?_
                      refine tr_p (y_pick_t rfl rfl) rfl rfl ?_
                      refine tr_nil ?_
                      refine tr_thenN ?_
                      exact tr_join [(2, x2.enc), (3, x3.enc), (9, (.pointer x9)), (12, (.pointer x12)), (13, (.pointer x13)), (14, (.pointer x14)), (15, (.int .i64 x15)), (89, (.bool true))] ⟨rfl, rfl, rfl, rfl, rfl, rfl, rfl, rfl, trivial⟩ ⟨_, _, _, _, _, _, _, _, rfl, H⟩
                    · replace H := H.2 g59
                      refine tr_p (y_move rfl) rfl rfl ?_
                      refine tr_p (y_move rfl) rfl rfl ?_
                      refine tr_p (y_len (ts := #[]) Try.runUnderlying23 (o := x3.ptr) (n := x3.len) (cap := x3.cap) rfl) rfl rfl ?_
                      refine tr_p (y_lss rfl rfl) rfl rfl ?_
                      refine tr_p (y_pick_f rfl rfl) rfl rfl ?_
                      refine tr_nil ?_
                      refine tr_thenN ?_
                      exact tr_join [(2, x2.enc), (3, x3.enc), (9, (.pointer x9)), (12, (.pointer x12)), (13, (.pointer x13)), (14, (.pointer x14)), (15, (.int .i64 x15)), (89, (.bool (decide (x15 < (x3.len : Int)))))] ⟨rfl, rfl, rfl, rfl, rfl, rfl, rfl, rfl, trivial⟩ ⟨_, _, _, _, _, _, _, _, rfl, H⟩
            · refine tr_seq_j (fun L' h => ∃ (x2 : Sl) (x3 : Sl) (x9 : Option Addr) (x12 : Option Addr) (x13 : Option Addr) (x14 : Option Addr) (x79 : Bool), L' = [(2, x2.enc), (3, x3.enc), (9, (.pointer x9)), (12, (.pointer x12)), (13, (.pointer x13)), (14, (.pointer x14)), (79, (.bool x79))] ∧ F.spatelaw9_EpochTwins.j12 Q x2 x3 x9 x12 x13 x14 x79 h) ?_ ?_
              · rintro L' h ⟨x2, x3, x9, x12, x13, x14, x79, rfl, H⟩
                unfold F.spatelaw9_EpochTwins.j12 at H
                refine tr_cond rfl (fun g61 => ?_) (fun g61 => ?_)
                · replace H := H.1 g61
                  refine tr_seq ?_
                  refine tr_region ?_
                  refine tr_p (y_assign rfl) rfl rfl ?_
                  refine tr_nil ?_
                  refine tr_thenN ?_
                  refine tr_ret ?_
                  refine tr_thenR ?_
                  exact tr_ret1 rfl rfl ⟨_, rfl, H⟩
                · replace H := H.2 g61
                  refine tr_skip ?_
                  refine tr_thenN ?_
                  exact tr_join [(2, x2.enc), (3, x3.enc), (9, (.pointer x9)), (12, (.pointer x12)), (13, (.pointer x13)), (14, (.pointer x14))] ⟨rfl, rfl, rfl, rfl, rfl, rfl, trivial⟩ ⟨_, _, _, _, _, _, rfl, H⟩
              · refine tr_region ?_
                refine tr_p (y_move rfl) rfl rfl ?_
                refine tr_p (y_pnil_eql Try.runUnderlying24 rfl rfl) rfl rfl ?_
                refine tr_p (y_move rfl) rfl rfl ?_
                refine tr_split (t := 72) rfl (fun g62 => ?_) (fun g62 => ?_)
                · replace H := H.1 g62
                  refine tr_s rfl rfl ?_
                  refine tr_s rfl rfl ?_
                  refine tr_p (y_pick_t rfl rfl) rfl rfl ?_
                  refine tr_p (y_move rfl) rfl rfl ?_
                  refine tr_s rfl rfl ?_
                  refine tr_s rfl rfl ?_
                  refine tr_p (y_pick_t rfl rfl) rfl rfl ?_
                  refine tr_nil ?_
                  refine tr_thenN ?_
                  exact tr_join [(2, x2.enc), (3, x3.enc), (9, (.pointer x9)), (12, (.pointer r15)), (13, (.pointer r17)), (14, (.pointer r19)), (79, (.bool true))] ⟨rfl, rfl, rfl, rfl, rfl, rfl, rfl, trivial⟩ ⟨_, _, _, _, _, _, _, rfl, H⟩
                · replace H := H.2 g62
                  refine tr_p (y_move rfl) rfl rfl ?_
                  refine tr_p (y_pnil_eql Try.runUnderlying24 rfl rfl) rfl rfl ?_
                  refine tr_p (y_pick_f rfl rfl) rfl rfl ?_
                  refine tr_p (y_move rfl) rfl rfl ?_
                  refine tr_split (t := 76) rfl (fun g63 => ?_) (fun g63 => ?_)
                  · replace H := H.1 g63
                    refine tr_s rfl rfl ?_
                    refine tr_s rfl rfl ?_
                    refine tr_p (y_pick_t rfl rfl) rfl rfl ?_
                    refine tr_nil ?_
                    refine tr_thenN ?_
                    exact tr_join [(2, x2.enc), (3, x3.enc), (9, (.pointer x9)), (12, (.pointer r15)), (13, (.pointer r17)), (14, (.pointer r19)), (79, (.bool true))] ⟨rfl, rfl, rfl, rfl, rfl, rfl, rfl, trivial⟩ ⟨_, _, _, _, _, _, _, rfl, H⟩
                  · replace H := H.2 g63
                    refine tr_p (y_move rfl) rfl rfl ?_
                    refine tr_p (y_pnil_eql Try.runUnderlying24 rfl rfl) rfl rfl ?_
                    refine tr_p (y_pick_f rfl rfl) rfl rfl ?_
                    refine tr_nil ?_
                    refine tr_thenN ?_
                    exact tr_join [(2, x2.enc), (3, x3.enc), (9, (.pointer x9)), (12, (.pointer r15)), (13, (.pointer r17)), (14, (.pointer r19)), (79, (.bool r19.isNone))] ⟨rfl, rfl, rfl, rfl, rfl, rfl, rfl, trivial⟩ ⟨_, _, _, _, _, _, _, rfl, H⟩
      · refine tr_seq_j (fun L' h => ∃ (x1 : Sl) (x2 : Sl) (x3 : Sl) (x9 : Option Addr) (x51 : Bool), L' = [(1, x1.enc), (2, x2.enc), (3, x3.enc), (9, (.pointer x9)), (51, (.bool x51))] ∧ F.spatelaw9_EpochTwins.j13 Q x1 x2 x3 x9 x51 h) ?_ ?_
        · rintro L' h ⟨x1, x2, x3, x9, x51, rfl, H⟩
          unfold F.spatelaw9_EpochTwins.j13 at H
          refine tr_cond rfl (fun g65 => ?_) (fun g65 => ?_)
          · replace H := H.1 g65
            refine tr_seq ?_
            refine tr_region ?_
            refine tr_p (y_assign rfl) rfl rfl ?_
            refine tr_nil ?_
            refine tr_thenN ?_
            refine tr_ret ?_
            refine tr_thenR ?_
            exact tr_ret1 rfl rfl ⟨_, rfl, H⟩
          · replace H := H.2 g65
            refine tr_skip ?_
            refine tr_thenN ?_
            exact tr_join [(1, x1.enc), (2, x2.enc), (3, x3.enc), (9, (.pointer x9))] ⟨rfl, rfl, rfl, rfl, trivial⟩ ⟨_, _, _, _, rfl, H⟩
        · refine tr_region ?_
          refine tr_p (y_move rfl) rfl rfl ?_
          refine tr_p (y_neq rfl rfl) rfl rfl ?_
          refine tr_p (y_move rfl) rfl rfl ?_
          refine tr_split (t := 48) rfl (fun g66 => ?_) (fun g66 => ?_)
          · replace H := H.1 g66
            refine tr_s rfl rfl ?_
            refine tr_s rfl rfl ?_
            refine tr_p (y_pick_t rfl rfl) rfl rfl ?_
            refine tr_nil ?_
            refine tr_thenN ?_
            exact tr_join [(1, x1.enc), (2, x2.enc), (3, x3.enc), (9, (.pointer r5)), (51, (.bool true))] ⟨rfl, rfl, rfl, rfl, rfl, trivial⟩ ⟨_, _, _, _, _, rfl, H⟩
          · replace H := H.2 g66
            refine tr_p (y_move rfl) rfl rfl ?_
            refine tr_p (y_pnil_eql Try.runUnderlying24 rfl rfl) rfl rfl ?_
            refine tr_p (y_pick_f rfl rfl) rfl rfl ?_
            refine tr_nil ?_
            refine tr_thenN ?_
            exact tr_join [(1, x1.enc), (2, x2.enc), (3, x3.enc), (9, (.pointer r5)), (51, (.bool r5.isNone))] ⟨rfl, rfl, rfl, rfl, rfl, trivial⟩ ⟨_, _, _, _, _, rfl, H⟩
    · refine tr_seq_j (fun L' h => ∃ (x0 : Int) (x1 : Sl) (x2 : Sl) (x3 : Sl) (x40 : Bool), L' = [(0, (.int .i64 x0)), (1, x1.enc), (2, x2.enc), (3, x3.enc), (40, (.bool x40))] ∧ F.spatelaw9_EpochTwins.j14 Q x0 x1 x2 x3 x40 h) ?_ ?_
      · rintro L' h ⟨x0, x1, x2, x3, x40, rfl, H⟩
        unfold F.spatelaw9_EpochTwins.j14 at H
        refine tr_cond rfl (fun g67 => ?_) (fun g67 => ?_)
        · replace H := H.1 g67
          refine tr_seq ?_
          refine tr_region ?_
          refine tr_p (y_assign rfl) rfl rfl ?_
          refine tr_nil ?_
          refine tr_thenN ?_
          refine tr_ret ?_
          refine tr_thenR ?_
          exact tr_ret1 rfl rfl ⟨_, rfl, H⟩
        · replace H := H.2 g67
          refine tr_skip ?_
          refine tr_thenN ?_
          exact tr_join [(0, (.int .i64 x0)), (1, x1.enc), (2, x2.enc), (3, x3.enc)] ⟨rfl, rfl, rfl, rfl, trivial⟩ ⟨_, _, _, _, rfl, H⟩
      · refine tr_region ?_
        refine tr_p (y_move rfl) rfl rfl ?_
        refine tr_p (y_len (ts := #[]) Try.runUnderlying23 (o := p1.ptr) (n := p1.len) (cap := p1.cap) rfl) rfl rfl ?_
        refine tr_p (y_gtr rfl rfl) rfl rfl ?_
        refine tr_p (y_move rfl) rfl rfl ?_
        refine tr_split (t := 23) rfl (fun g68 => ?_) (fun g68 => ?_)
        · replace H := H.1 g68
          refine tr_s rfl rfl ?_
          refine tr_s rfl rfl ?_
          refine tr_s rfl rfl ?_
          refine tr_p (y_pick_t rfl rfl) rfl rfl ?_
          refine tr_p (y_move rfl) rfl rfl ?_
          refine tr_s rfl rfl ?_
          refine tr_s rfl rfl ?_
          refine tr_s rfl rfl ?_
          refine tr_p (y_pick_t rfl rfl) rfl rfl ?_
          refine tr_p (y_move rfl) rfl rfl ?_
          refine tr_s rfl rfl ?_
          refine tr_s rfl rfl ?_
          refine tr_p (y_pick_t rfl rfl) rfl rfl ?_
          refine tr_p (y_move rfl) rfl rfl ?_
          refine tr_s rfl rfl ?_
          refine tr_s rfl rfl ?_
          refine tr_p (y_pick_t rfl rfl) rfl rfl ?_
          refine tr_nil ?_
          refine tr_thenN ?_
          exact tr_join [(0, (.int .i64 p0)), (1, p1.enc), (2, p2.enc), (3, p3.enc), (40, (.bool true))] ⟨rfl, rfl, rfl, rfl, rfl, trivial⟩ ⟨_, _, _, _, _, rfl, H⟩
        · replace H := H.2 g68
          refine tr_p (y_move rfl) rfl rfl ?_
          refine tr_p (y_len (ts := #[]) Try.runUnderlying23 (o := p2.ptr) (n := p2.len) (cap := p2.cap) rfl) rfl rfl ?_
          refine tr_p (y_gtr rfl rfl) rfl rfl ?_
          refine tr_p (y_pick_f rfl rfl) rfl rfl ?_
          refine tr_p (y_move rfl) rfl rfl ?_
          refine tr_split (t := 28) rfl (fun g69 => ?_) (fun g69 => ?_)
          · replace H := H.1 g69
            refine tr_s rfl rfl ?_
            refine tr_s rfl rfl ?_
            refine tr_s rfl rfl ?_
            refine tr_p (y_pick_t rfl rfl) rfl rfl ?_
            refine tr_p (y_move rfl) rfl rfl ?_
            refine tr_s rfl rfl ?_
            refine tr_s rfl rfl ?_
            refine tr_p (y_pick_t rfl rfl) rfl rfl ?_
            refine tr_p (y_move rfl) rfl rfl ?_
            refine tr_s rfl rfl ?_
            refine tr_s rfl rfl ?_
            refine tr_p (y_pick_t rfl rfl) rfl rfl ?_
            refine tr_nil ?_
            refine tr_thenN ?_
            exact tr_join [(0, (.int .i64 p0)), (1, p1.enc), (2, p2.enc), (3, p3.enc), (40, (.bool true))] ⟨rfl, rfl, rfl, rfl, rfl, trivial⟩ ⟨_, _, _, _, _, rfl, H⟩
          · replace H := H.2 g69
            refine tr_p (y_move rfl) rfl rfl ?_
            refine tr_p (y_len (ts := #[]) Try.runUnderlying23 (o := p3.ptr) (n := p3.len) (cap := p3.cap) rfl) rfl rfl ?_
            refine tr_p (y_gtr rfl rfl) rfl rfl ?_
            refine tr_p (y_pick_f rfl rfl) rfl rfl ?_
            refine tr_p (y_move rfl) rfl rfl ?_
            refine tr_split (t := 33) rfl (fun g70 => ?_) (fun g70 => ?_)
            · replace H := H.1 g70
              refine tr_s rfl rfl ?_
              refine tr_s rfl rfl ?_
              refine tr_p (y_pick_t rfl rfl) rfl rfl ?_
              refine tr_p (y_move rfl) rfl rfl ?_
              refine tr_s rfl rfl ?_
              refine tr_s rfl rfl ?_
              refine tr_p (y_pick_t rfl rfl) rfl rfl ?_
              refine tr_nil ?_
              refine tr_thenN ?_
              exact tr_join [(0, (.int .i64 p0)), (1, p1.enc), (2, p2.enc), (3, p3.enc), (40, (.bool true))] ⟨rfl, rfl, rfl, rfl, rfl, trivial⟩ ⟨_, _, _, _, _, rfl, H⟩
            · replace H := H.2 g70
              refine tr_p (y_move rfl) rfl rfl ?_
              refine tr_p (y_lss rfl rfl) rfl rfl ?_
              refine tr_p (y_pick_f rfl rfl) rfl rfl ?_
              refine tr_p (y_move rfl) rfl rfl ?_
              refine tr_split (t := 37) rfl (fun g71 => ?_) (fun g71 => ?_)
              · replace H := H.1 g71
                refine tr_s rfl rfl ?_
                refine tr_s rfl rfl ?_
                refine tr_p (y_pick_t rfl rfl) rfl rfl ?_
                refine tr_nil ?_
                refine tr_thenN ?_
                exact tr_join [(0, (.int .i64 p0)), (1, p1.enc), (2, p2.enc), (3, p3.enc), (40, (.bool true))] ⟨rfl, rfl, rfl, rfl, rfl, trivial⟩ ⟨_, _, _, _, _, rfl, H⟩
              · replace H := H.2 g71
                refine tr_p (y_move rfl) rfl rfl ?_
                refine tr_p (y_gtr rfl rfl) rfl rfl ?_
                refine tr_p (y_pick_f rfl rfl) rfl rfl ?_
                refine tr_nil ?_
                refine tr_thenN ?_
                exact tr_join [(0, (.int .i64 p0)), (1, p1.enc), (2, p2.enc), (3, p3.enc), (40, (.bool (decide (p0 > 64))))] ⟨rfl, rfl, rfl, rfl, rfl, trivial⟩ ⟨_, _, _, _, _, rfl, H⟩

end Go.Proofs.Ytgcmojbajjajgaa.V
