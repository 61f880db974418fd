/- Printed by a program of this session (gen.py): Go functions as Lean functions over the heap, and that the Go code does what they say; no condition. -/
import Derived.Test.YtidpbnbjpglhfaaGlh
namespace Go.Proofs.Ytidpbnbjpglhfaa.V
open Go
set_option linter.unusedVariables false
set_option maxRecDepth 100000
def F.merge_may.j2 (Q : Int → H → Prop) (x17 : Bool) (h : H) : Prop :=
  (x17 = true →
  Q 22 h) ∧
  (x17 = false →
  Q 0 h)
def F.merge_may.j1 (Q : Int → H → Prop) (x1 : Addr) (x3 : Bool) (h : H) : Prop :=
  (x3 = true →
  Q 23 h) ∧
  (x3 = false →
  ldS h (x1.add 1) fun y4 =>
  ((decide ((y4.size : Int) > 32)) = true →
  Q 21 h) ∧
  ((decide ((y4.size : Int) > 32)) = false →
  ldI .i64 h (x1.add 2) fun y8 =>
  ((decide (y8 < (-2305843009213693952))) = true →
  F.merge_may.j2 Q true h) ∧
  ((decide (y8 < (-2305843009213693952))) = false →
  ldI .i64 h (x1.add 2) fun y11 =>
  F.merge_may.j2 Q (decide (y11 > 2305843009213693952)) h)))
/-- spate/merge.may -/
def F.merge_may (p0 : S_api_Cell) (h : H) (Q : Int → H → Prop) : Prop :=
  new h p0.cells.toArray ty_34 fun a2 h1 =>
  ldI .i64 h1 (a2.add 0) fun y13 =>
  ((decide (y13 < 0)) = true →
  F.merge_may.j1 Q a2 true h1) ∧
  ((decide (y13 < 0)) = false →
  ldI .i64 h1 (a2.add 0) fun y16 =>
  F.merge_may.j1 Q a2 (decide (y16 > 4)) h1)
theorem F.merge_may_ok {p0 : S_api_Cell} {h : H} {Q : Int → H → Prop} (H : F.merge_may p0 h Q) : Fn PP 40 ([(.agg p0.cells.toArray)] : List Value).toArray h fun r h' => ∃ r0, r = (.int .i64 r0) ∧ Q r0 h' := by
  unfold F.merge_may at H
  refine fn_of Try.func40 Try.ntmps40 rfl rfl fun w0 => ?_
  refine tr_sub [(0, (.agg p0.cells.toArray))] ⟨rfl, trivial⟩ ?_
  refine tr_seq ?_
  refine tr_region ?_
  refine tr_e (f_box (cs := p0.cells.toArray) rfl rfl H) rfl rfl ?_
  rintro _ h1 ⟨a2, rfl, H⟩
  refine tr_p (y_assign rfl) rfl rfl ?_
  refine tr_nil ?_
  refine tr_thenN ?_
  refine tr_seq ?_
  refine tr_block ?_
  refine tr_seq_j (fun L' h => ∃ (x1 : Addr) (x3 : Bool), L' = [(1, (.pointer (some x1))), (3, (.bool x3))] ∧ F.merge_may.j1 Q x1 x3 h) ?_ ?_
  · rintro L' h ⟨x1, x3, rfl, H⟩
    unfold F.merge_may.j1 at H
    refine tr_cond rfl (fun g3 => ?_) (fun g3 => ?_)
    · replace H := H.1 g3
      refine tr_seq ?_
      refine tr_region ?_
      refine tr_p (y_assign rfl) rfl rfl ?_
      refine tr_nil ?_
      refine tr_thenN ?_
      refine tr_ret ?_
      refine tr_blockR ?_
      refine tr_thenR ?_
      exact tr_ret1 rfl rfl ⟨_, rfl, H⟩
    · replace H := H.2 g3
      refine tr_seq ?_
      refine tr_region ?_
      refine tr_p (y_fa (off := 1) Try.runUnderlying34 fo_34_1 rfl) rfl rfl ?_
      obtain ⟨y4, k5, H⟩ := H
      refine tr_h (y_ld Try.isAgg9 rfl) k5 rfl rfl ?_
      refine tr_p (y_lenS Try.runUnderlying9 rfl) rfl rfl ?_
      refine tr_p (y_gtr rfl rfl) rfl rfl ?_
      refine tr_p (y_assign rfl) rfl rfl ?_
      refine tr_nil ?_
      refine tr_thenN ?_
      refine tr_cond rfl (fun g6 => ?_) (fun g6 => ?_)
      · replace H := H.1 g6
        refine tr_seq ?_
        refine tr_region ?_
        refine tr_p (y_assign rfl) rfl rfl ?_
        refine tr_nil ?_
        refine tr_thenN ?_
        refine tr_ret ?_
        refine tr_blockR ?_
        refine tr_thenR ?_
        exact tr_ret1 rfl rfl ⟨_, rfl, H⟩
      · replace H := H.2 g6
        refine tr_seq_j (fun L' h => ∃ (x17 : Bool), L' = [(17, (.bool x17))] ∧ F.merge_may.j2 Q x17 h) ?_ ?_
        · rintro L' h ⟨x17, rfl, H⟩
          unfold F.merge_may.j2 at H
          refine tr_cond rfl (fun g7 => ?_) (fun g7 => ?_)
          · replace H := H.1 g7
            refine tr_seq ?_
            refine tr_region ?_
            refine tr_p (y_assign rfl) rfl rfl ?_
            refine tr_nil ?_
            refine tr_thenN ?_
            refine tr_ret ?_
            refine tr_blockR ?_
            refine tr_thenR ?_
            exact tr_ret1 rfl rfl ⟨_, rfl, H⟩
          · replace H := H.2 g7
            refine tr_skip ?_
            refine tr_blockN ?_
            refine tr_thenN ?_
            refine tr_seq ?_
            refine tr_region ?_
            refine tr_p (y_assign rfl) rfl rfl ?_
            refine tr_nil ?_
            refine tr_thenN ?_
            refine tr_ret ?_
            exact tr_ret1 rfl rfl ⟨_, rfl, H⟩
        · refine tr_region ?_
          refine tr_p (y_fa (off := 2) Try.runUnderlying34 fo_34_2 rfl) rfl rfl ?_
          obtain ⟨y8, k9, H⟩ := H
          refine tr_h (y_ld Try.isAgg2 rfl) k9 rfl rfl ?_
          refine tr_p (y_lss rfl rfl) rfl rfl ?_
          refine tr_p (y_move rfl) rfl rfl ?_
          refine tr_split (t := 21) rfl (fun g10 => ?_) (fun g10 => ?_)
          · replace H := H.1 g10
            refine tr_s rfl rfl ?_
            refine tr_s rfl rfl ?_
            refine tr_s rfl rfl ?_
            refine tr_p (y_pick_t rfl rfl) rfl rfl ?_
            refine tr_p (y_assign rfl) rfl rfl ?_
            refine tr_nil ?_
            refine tr_thenN ?_
            exact tr_join [(17, (.bool true))] ⟨rfl, trivial⟩ ⟨_, rfl, H⟩
          · replace H := H.2 g10
            refine tr_p (y_fa (off := 2) Try.runUnderlying34 fo_34_2 rfl) rfl rfl ?_
            obtain ⟨y11, k12, H⟩ := H
            refine tr_h (y_ld Try.isAgg2 rfl) k12 rfl rfl ?_
            refine tr_p (y_gtr rfl rfl) rfl rfl ?_
            refine tr_p (y_pick_f rfl rfl) rfl rfl ?_
            refine tr_p (y_assign rfl) rfl rfl ?_
            refine tr_nil ?_
            refine tr_thenN ?_
            exact tr_join [(17, (.bool (decide (y11 > 2305843009213693952))))] ⟨rfl, trivial⟩ ⟨_, rfl, H⟩
  · refine tr_region ?_
    refine tr_p (y_fa (off := 0) Try.runUnderlying34 fo_34_0 rfl) rfl rfl ?_
    obtain ⟨y13, k14, H⟩ := H
    refine tr_h (y_ld Try.isAgg3 rfl) k14 rfl rfl ?_
    refine tr_p (y_lss rfl rfl) rfl rfl ?_
    refine tr_p (y_move rfl) rfl rfl ?_
    refine tr_split (t := 7) rfl (fun g15 => ?_) (fun g15 => ?_)
    · replace H := H.1 g15
      refine tr_s rfl rfl ?_
      refine tr_s rfl rfl ?_
      refine tr_s rfl rfl ?_
      refine tr_p (y_pick_t rfl rfl) rfl rfl ?_
      refine tr_p (y_assign rfl) rfl rfl ?_
      refine tr_nil ?_
      refine tr_thenN ?_
      exact tr_join [(1, (.pointer (some a2))), (3, (.bool true))] ⟨rfl, rfl, trivial⟩ ⟨_, _, rfl, H⟩
    · replace H := H.2 g15
      refine tr_p (y_fa (off := 0) Try.runUnderlying34 fo_34_0 rfl) rfl rfl ?_
      obtain ⟨y16, k17, H⟩ := H
      refine tr_h (y_ld Try.isAgg3 rfl) k17 rfl rfl ?_
      refine tr_p (y_gtr rfl rfl) rfl rfl ?_
      refine tr_p (y_pick_f rfl rfl) rfl rfl ?_
      refine tr_p (y_assign rfl) rfl rfl ?_
      refine tr_nil ?_
      refine tr_thenN ?_
      exact tr_join [(1, (.pointer (some a2))), (3, (.bool (decide (y16 > 4))))] ⟨rfl, rfl, trivial⟩ ⟨_, _, rfl, H⟩

def F.merge_Key.l2 (Q : ByteArray → Int → H → Prop) : Nat → Sl → Int → Int → H → Prop
  | 0, _, _, _, _ => False
  | q2 + 1, x5, x7, x8, h =>
    ((decide (x8 ≥ 0)) = true →
    0 ≤ (x8 : Int) ∧
    newL h #[(.int .u8 (IntKind.wrap .u8 (Int.fdiv x7 (2 ^ (min (x8 : Int).toNat (IntKind.bits .u64)) : Int))))] ty_5 1 fun s41 h40 =>
    runL PP (Builtin.append_ #[47, 47] 47 #[x5.enc, s41.enc]) h40 fun s43 h42 =>
    (F.merge_Key.l2 Q q2) s43 x7 (IntKind.wrap .i64 (x8 - 8)) h42) ∧
    ((decide (x8 ≥ 0)) = false →
    runT PP (convert 47 9 x5.enc) h fun s45 h44 =>
    Q s45 0 h44)
def F.merge_Key.l1 (Q : ByteArray → Int → H → Prop) : Nat → Addr → Sl → Int → Int → H → Prop
  | 0, _, _, _, _, _ => False
  | q1 + 1, x1, x5, x20, x21, h =>
    ((decide (x21 < x20)) = true →
    ldS h (x1.add 1) fun y15 =>
    idxS y15 x21 fun b17 =>
    newL h #[(.int .u8 b17)] ty_5 1 fun s20 h19 =>
    runL PP (Builtin.append_ #[47, 47] 47 #[x5.enc, s20.enc]) h19 fun s22 h21 =>
    ldS h21 (x1.add 1) fun y23 =>
    idxS y23 x21 fun b25 =>
    (((b25 == 0)) = true →
    newL h21 #[(.int .u8 255)] ty_5 1 fun s29 h28 =>
    runL PP (Builtin.append_ #[47, 47] 47 #[s22.enc, s29.enc]) h28 fun s31 h30 =>
    (F.merge_Key.l1 Q q1) x1 s31 x20 (IntKind.wrap .i64 (x21 + 1)) h30) ∧
    (((b25 == 0)) = false →
    (F.merge_Key.l1 Q q1) x1 s22 x20 (IntKind.wrap .i64 (x21 + 1)) h21)) ∧
    ((decide (x21 < x20)) = false →
    newL h #[(.int .u8 0), (.int .u8 1)] ty_5 2 fun s33 h32 =>
    runL PP (Builtin.append_ #[47, 47] 47 #[x5.enc, s33.enc]) h32 fun s35 h34 =>
    ldI .i64 h34 (x1.add 2) fun y36 =>
    ∃ m, F.merge_Key.l2 Q m s35 (IntKind.wrap .u64 ((IntKind.wrap .u64 y36) + 9223372036854775808)) 56 h34)
/-- spate/merge.Key -/
def F.merge_Key (p0 : S_api_Cell) (h : H) (Q : ByteArray → Int → H → Prop) : Prop :=
  new h p0.cells.toArray ty_34 fun a2 h1 =>
  ld_S_api_Cell h1 a2 fun y3 =>
  F.merge_may y3 h1 fun r6 h5 =>
  (((r6 != 0)) = true →
  Q (⟨#[]⟩ : ByteArray) r6 h5) ∧
  (((r6 != 0)) = false →
  ldI .i64 h5 (a2.add 0) fun y8 =>
  newL h5 #[(.int .u8 (IntKind.wrap .u8 y8))] ty_5 1 fun s11 h10 =>
  ldS h10 (a2.add 1) fun y12 =>
  ∃ m, F.merge_Key.l1 Q m a2 s11 (y12.size : Int) 0 h10)
theorem F.merge_Key_ok {p0 : S_api_Cell} {h : H} {Q : ByteArray → Int → H → Prop} (H : F.merge_Key p0 h Q) : Fn PP 23 ([(.agg p0.cells.toArray)] : List Value).toArray h fun r h' => ∃ r0 r1, r = .tuple #[(.string r0), (.int .i64 r1)] ∧ Q r0 r1 h' := by
  unfold F.merge_Key at H
  refine fn_of Try.func23 Try.ntmps23 rfl rfl fun w0 => ?_
  refine tr_sub [(0, (.agg p0.cells.toArray))] ⟨rfl, trivial⟩ ?_
  refine tr_seq ?_
  refine tr_region ?_
  refine tr_e (f_box (cs := p0.cells.toArray) rfl rfl H) rfl rfl ?_
  rintro _ h1 ⟨a2, rfl, H⟩
  refine tr_p (y_assign rfl) rfl rfl ?_
  refine tr_p (y_assign rfl) rfl rfl ?_
  refine tr_nil ?_
  refine tr_thenN ?_
  refine tr_seq ?_
  refine tr_seq ?_
  refine tr_region ?_
  obtain ⟨y3, k4, H⟩ := H
  refine tr_h (y_ldS Try.isAgg34 Try.sizeOf34 rfl rfl) k4 rfl rfl ?_
  refine tr_e (e_call Try.call40 rfl (F.merge_may_ok H)) rfl rfl ?_
  rintro _ h5 ⟨r6, rfl, H⟩
  refine tr_p (y_assign rfl) rfl rfl ?_
  refine tr_nil ?_
  refine tr_thenN ?_
  refine tr_seq ?_
  refine tr_region ?_
  refine tr_p (y_move rfl) rfl rfl ?_
  refine tr_p (y_neq rfl rfl) rfl rfl ?_
  refine tr_nil ?_
  refine tr_thenN ?_
  refine tr_cond rfl (fun g7 => ?_) (fun g7 => ?_)
  · replace H := H.1 g7
    refine tr_seq ?_
    refine tr_region ?_
    refine tr_p (y_move rfl) rfl rfl ?_
    refine tr_p (y_assign rfl) rfl rfl ?_
    refine tr_p (y_assign rfl) rfl rfl ?_
    refine tr_nil ?_
    refine tr_thenN ?_
    refine tr_ret ?_
    refine tr_thenR ?_
    exact tr_ret2 rfl rfl rfl ⟨_, _, rfl, H⟩
  · replace H := H.2 g7
    refine tr_skip ?_
    refine tr_thenN ?_
    refine tr_seq ?_
    refine tr_region ?_
    refine tr_p (y_fa (off := 0) Try.runUnderlying34 fo_34_0 rfl) rfl rfl ?_
    obtain ⟨y8, k9, H⟩ := H
    refine tr_h (y_ld Try.isAgg3 rfl) k9 rfl rfl ?_
    refine tr_p (y_cvt Try.runUnderlying3 Try.runUnderlying5 rfl) rfl rfl ?_
    refine tr_e (f_buildL (cs := #[(.int .u8 (IntKind.wrap .u8 y8))]) rfl rfl (bl_47_1_0 (IntKind.wrap .u8 y8)) H) rfl rfl ?_
    rintro _ h10 ⟨s11, rfl, H⟩
    refine tr_p (y_assign rfl) rfl rfl ?_
    refine tr_nil ?_
    refine tr_thenN ?_
    refine tr_seq ?_
    refine tr_seq ?_
    refine tr_region ?_
    refine tr_p (y_fa (off := 1) Try.runUnderlying34 fo_34_1 rfl) rfl rfl ?_
    obtain ⟨y12, k13, H⟩ := H
    refine tr_h (y_ld Try.isAgg9 rfl) k13 rfl rfl ?_
    refine tr_p (y_lenS Try.runUnderlying9 rfl) rfl rfl ?_
    refine tr_p (y_move rfl) rfl rfl ?_
    refine tr_nil ?_
    refine tr_thenN ?_
    refine tr_block ?_
    obtain ⟨m47, H⟩ := H
    refine tr_sub [(1, (.pointer (some a2))), (5, s11.enc), (20, (.int .i64 (y12.size : Int))), (21, (.int .i64 0))] ⟨rfl, rfl, rfl, rfl, trivial⟩ ?_
    refine tr_loop_j (fun m L' h => ∃ (x1 : Addr) (x5 : Sl) (x20 : Int) (x21 : Int), L' = [(1, (.pointer (some x1))), (5, x5.enc), (20, (.int .i64 x20)), (21, (.int .i64 x21))] ∧ F.merge_Key.l1 Q m x1 x5 x20 x21 h) ?_ ?_ m47 ⟨_, _, _, _, rfl, H⟩
    · rintro L' h ⟨_, _, _, _, _, H⟩; exact H
    · rintro q1 L' h ⟨x1, x5, x20, x21, rfl, H⟩
      unfold F.merge_Key.l1 at H
      refine tr_seq ?_
      refine tr_region ?_
      refine tr_p (y_lss rfl rfl) rfl rfl ?_
      refine tr_nil ?_
      refine tr_thenN ?_
      refine tr_seq ?_
      refine tr_cond rfl (fun g14 => ?_) (fun g14 => ?_)
      · replace H := H.1 g14
        refine tr_skip ?_
        refine tr_thenN ?_
        refine tr_seq ?_
        refine tr_block ?_
        refine tr_seq ?_
        refine tr_region ?_
        refine tr_p (y_move rfl) rfl rfl ?_
        refine tr_p (y_assign rfl) rfl rfl ?_
        refine tr_nil ?_
        refine tr_thenN ?_
        refine tr_seq ?_
        refine tr_region ?_
        refine tr_p (y_move rfl) rfl rfl ?_
        refine tr_p (y_fa (off := 1) Try.runUnderlying34 fo_34_1 rfl) rfl rfl ?_
        obtain ⟨y15, k16, H⟩ := H
        refine tr_h (y_ld Try.isAgg9 rfl) k16 rfl rfl ?_
        refine tr_p (y_move rfl) rfl rfl ?_
        obtain ⟨b17, e18, H⟩ := H
        refine tr_p (f_idxS Try.runUnderlying9 rfl rfl e18) rfl rfl ?_
        refine tr_e (f_buildL (cs := #[(.int .u8 b17)]) rfl rfl (bl_47_1_0 b17) H) rfl rfl ?_
        rintro _ h19 ⟨s20, rfl, H⟩
        refine tr_e (f_app rfl H) rfl rfl ?_
        rintro _ h21 ⟨s22, rfl, H⟩
        refine tr_p (y_assign rfl) rfl rfl ?_
        refine tr_nil ?_
        refine tr_thenN ?_
        refine tr_seq ?_
        refine tr_region ?_
        refine tr_p (y_fa (off := 1) Try.runUnderlying34 fo_34_1 rfl) rfl rfl ?_
        obtain ⟨y23, k24, H⟩ := H
        refine tr_h (y_ld Try.isAgg9 rfl) k24 rfl rfl ?_
        refine tr_p (y_move rfl) rfl rfl ?_
        obtain ⟨b25, e26, H⟩ := H
        refine tr_p (f_idxS Try.runUnderlying9 rfl rfl e26) rfl rfl ?_
        refine tr_p (y_eql rfl rfl) rfl rfl ?_
        refine tr_nil ?_
        refine tr_thenN ?_
        refine tr_cond rfl (fun g27 => ?_) (fun g27 => ?_)
        · replace H := H.1 g27
          refine tr_region ?_
          refine tr_p (y_move rfl) rfl rfl ?_
          refine tr_e (f_buildL (cs := #[(.int .u8 255)]) rfl rfl (bl_47_1_0 255) H) rfl rfl ?_
          rintro _ h28 ⟨s29, rfl, H⟩
          refine tr_e (f_app rfl H) rfl rfl ?_
          rintro _ h30 ⟨s31, rfl, H⟩
          refine tr_p (y_assign rfl) rfl rfl ?_
          refine tr_nil ?_
          refine tr_blockN ?_
          refine tr_thenN ?_
          refine tr_region ?_
          refine tr_p (y_add rfl rfl) rfl rfl ?_
          refine tr_p (y_move rfl) rfl rfl ?_
          refine tr_nil ?_
          refine tr_thenN ?_
          exact tr_join [(1, (.pointer (some x1))), (5, s31.enc), (20, (.int .i64 x20)), (21, (.int .i64 (IntKind.wrap .i64 (x21 + 1))))] ⟨rfl, rfl, rfl, rfl, trivial⟩ ⟨_, _, _, _, rfl, H⟩
        · replace H := H.2 g27
          refine tr_skip ?_
          refine tr_blockN ?_
          refine tr_thenN ?_
          refine tr_region ?_
          refine tr_p (y_add rfl rfl) rfl rfl ?_
          refine tr_p (y_move rfl) rfl rfl ?_
          refine tr_nil ?_
          refine tr_thenN ?_
          exact tr_join [(1, (.pointer (some x1))), (5, s22.enc), (20, (.int .i64 x20)), (21, (.int .i64 (IntKind.wrap .i64 (x21 + 1))))] ⟨rfl, rfl, rfl, rfl, trivial⟩ ⟨_, _, _, _, rfl, H⟩
      · replace H := H.2 g14
        refine tr_exit ?_
        refine tr_thenE ?_
        refine tr_thenE ?_
        refine tr_hit ?_
        refine tr_thenN ?_
        refine tr_seq ?_
        refine tr_region ?_
        refine tr_p (y_move rfl) rfl rfl ?_
        refine tr_e (f_buildL (cs := #[(.int .u8 0), (.int .u8 1)]) rfl rfl (bl_47_2_0_1 0 1) H) rfl rfl ?_
        rintro _ h32 ⟨s33, rfl, H⟩
        refine tr_e (f_app rfl H) rfl rfl ?_
        rintro _ h34 ⟨s35, rfl, H⟩
        refine tr_p (y_assign rfl) rfl rfl ?_
        refine tr_nil ?_
        refine tr_thenN ?_
        refine tr_seq ?_
        refine tr_region ?_
        refine tr_p (y_fa (off := 2) Try.runUnderlying34 fo_34_2 rfl) rfl rfl ?_
        obtain ⟨y36, k37, H⟩ := H
        refine tr_h (y_ld Try.isAgg2 rfl) k37 rfl rfl ?_
        refine tr_p (y_cvt Try.runUnderlying2 Try.runUnderlying76 rfl) rfl rfl ?_
        refine tr_p (y_add rfl rfl) rfl rfl ?_
        refine tr_p (y_assign rfl) rfl rfl ?_
        refine tr_nil ?_
        refine tr_thenN ?_
        refine tr_seq ?_
        refine tr_seq ?_
        refine tr_region ?_
        refine tr_p (y_assign rfl) rfl rfl ?_
        refine tr_nil ?_
        refine tr_thenN ?_
        refine tr_block ?_
        obtain ⟨m46, H⟩ := H
        refine tr_sub [(5, s35.enc), (7, (.int .u64 (IntKind.wrap .u64 ((IntKind.wrap .u64 y36) + 9223372036854775808)))), (8, (.int .i64 56))] ⟨rfl, rfl, rfl, trivial⟩ ?_
        refine tr_loop_j (fun m L' h => ∃ (x5 : Sl) (x7 : Int) (x8 : Int), L' = [(5, x5.enc), (7, (.int .u64 x7)), (8, (.int .i64 x8))] ∧ F.merge_Key.l2 Q m x5 x7 x8 h) ?_ ?_ m46 ⟨_, _, _, rfl, H⟩
        · rintro L' h ⟨_, _, _, _, H⟩; exact H
        · rintro q2 L' h ⟨x5, x7, x8, rfl, H⟩
          unfold F.merge_Key.l2 at H
          refine tr_seq ?_
          refine tr_seq ?_
          refine tr_region ?_
          refine tr_p (y_move rfl) rfl rfl ?_
          refine tr_p (y_geq rfl rfl) rfl rfl ?_
          refine tr_nil ?_
          refine tr_thenN ?_
          refine tr_cond rfl (fun g38 => ?_) (fun g38 => ?_)
          · replace H := H.1 g38
            refine tr_skip ?_
            refine tr_thenN ?_
            refine tr_seq ?_
            refine tr_block ?_
            refine tr_region ?_
            refine tr_p (y_move rfl) rfl rfl ?_
            refine tr_p (y_move rfl) rfl rfl ?_
            refine tr_p (y_move rfl) rfl rfl ?_
            obtain ⟨e39, H⟩ := H
            refine tr_p (y_shr rfl rfl e39) rfl rfl ?_
            refine tr_p (y_cvt Try.runUnderlying76 Try.runUnderlying5 rfl) rfl rfl ?_
            refine tr_e (f_buildL (cs := #[(.int .u8 (IntKind.wrap .u8 (Int.fdiv x7 (2 ^ (min (x8 : Int).toNat (IntKind.bits .u64)) : Int))))]) rfl rfl (bl_47_1_0 (IntKind.wrap .u8 (Int.fdiv x7 (2 ^ (min (x8 : Int).toNat (IntKind.bits .u64)) : Int)))) H) rfl rfl ?_
            rintro _ h40 ⟨s41, rfl, H⟩
            refine tr_e (f_app rfl H) rfl rfl ?_
            rintro _ h42 ⟨s43, rfl, H⟩
            refine tr_p (y_assign rfl) rfl rfl ?_
            refine tr_nil ?_
            refine tr_blockN ?_
            refine tr_thenN ?_
            refine tr_region ?_
            refine tr_p (y_move rfl) rfl rfl ?_
            refine tr_p (y_sub rfl rfl) rfl rfl ?_
            refine tr_p (y_assign rfl) rfl rfl ?_
            refine tr_nil ?_
            refine tr_thenN ?_
            exact tr_join [(5, s43.enc), (7, (.int .u64 x7)), (8, (.int .i64 (IntKind.wrap .i64 (x8 - 8))))] ⟨rfl, rfl, rfl, trivial⟩ ⟨_, _, _, rfl, H⟩
          · replace H := H.2 g38
            refine tr_exit ?_
            refine tr_thenE ?_
            refine tr_thenE ?_
            refine tr_hit ?_
            refine tr_thenN ?_
            refine tr_seq ?_
            refine tr_region ?_
            refine tr_p (y_move rfl) rfl rfl ?_
            refine tr_e (f_cvtT rfl H) rfl rfl ?_
            rintro _ h44 ⟨s45, rfl, H⟩
            refine tr_p (y_assign rfl) rfl rfl ?_
            refine tr_p (y_assign rfl) rfl rfl ?_
            refine tr_nil ?_
            refine tr_thenN ?_
            refine tr_ret ?_
            exact tr_ret2 rfl rfl rfl ⟨_, _, rfl, H⟩

def F.merge_Cell.l2 (Q : S_api_Cell → Int → H → Prop) : Nat → ByteArray → Addr → Addr → Int → Sl → Int → H → Prop
  | 0, _, _, _, _, _, _, _ => False
  | q2 + 1, x0, x2, x4, x5, x6, x8, h =>
    ((decide (x5 < (x0.size : Int))) = true →
    0 ≤ (8 : Int) ∧
    idxS x0 x5 fun b42 =>
    (F.merge_Cell.l2 Q q2) x0 x2 x4 (IntKind.wrap .i64 (x5 + 1)) x6 (bitsOf .or .u64 (IntKind.wrap .u64 (x8 * (2 ^ (min (8 : Int).toNat (IntKind.bits .u64)) : Int))) (IntKind.wrap .u64 b42)) h) ∧
    ((decide (x5 < (x0.size : Int))) = false →
    runT PP (convert 47 9 x6.enc) h fun s45 h44 =>
    stH h44 (x4.add 1) [(.string s45)] fun h46 =>
    stH h46 (x4.add 2) [(.int .i64 (IntKind.wrap .i64 (IntKind.wrap .u64 (x8 - 9223372036854775808))))] fun h47 =>
    ld_S_api_Cell h47 x4 fun y48 =>
    F.merge_may y48 h47 fun r51 h50 =>
    (((r51 != 0)) = true →
    stH h50 x2 ((⟨0, (⟨#[]⟩ : ByteArray), 0⟩ : S_api_Cell).cells) fun h53 =>
    ld_S_api_Cell h53 x2 fun y54 =>
    Q y54 r51 h53) ∧
    (((r51 != 0)) = false →
    ld_S_api_Cell h50 x4 fun y56 =>
    stH h50 x2 y56.cells fun h58 =>
    ld_S_api_Cell h58 x2 fun y59 =>
    Q y59 0 h58))
def F.merge_Cell.l1 (Q : S_api_Cell → Int → H → Prop) : Nat → ByteArray → Addr → Addr → Int → Sl → H → Prop
  | 0, _, _, _, _, _, _ => False
  | q1 + 1, x0, x2, x4, x5, x6, h =>
    (((x5 == (x0.size : Int))) = true →
    stH h x2 ((⟨0, (⟨#[]⟩ : ByteArray), 0⟩ : S_api_Cell).cells) fun h13 =>
    ld_S_api_Cell h13 x2 fun y14 =>
    Q y14 11 h13) ∧
    (((x5 == (x0.size : Int))) = false →
    idxS x0 x5 fun b16 =>
    (((b16 != 0)) = true →
    idxS x0 x5 fun b19 =>
    newL h #[(.int .u8 b19)] ty_5 1 fun s22 h21 =>
    runL PP (Builtin.append_ #[47, 47] 47 #[x6.enc, s22.enc]) h21 fun s24 h23 =>
    (F.merge_Cell.l1 Q q1) x0 x2 x4 (IntKind.wrap .i64 (x5 + 1)) s24 h23) ∧
    (((b16 != 0)) = false →
    ((((IntKind.wrap .i64 (x5 + 1)) == (x0.size : Int))) = true →
    stH h x2 ((⟨0, (⟨#[]⟩ : ByteArray), 0⟩ : S_api_Cell).cells) fun h26 =>
    ld_S_api_Cell h26 x2 fun y27 =>
    Q y27 11 h26) ∧
    ((((IntKind.wrap .i64 (x5 + 1)) == (x0.size : Int))) = false →
    idxS x0 (IntKind.wrap .i64 ((IntKind.wrap .i64 (x5 + 2)) - 1)) fun b29 =>
    (((b29 == 1)) = true →
    ((decide ((IntKind.wrap .i64 ((x0.size : Int) - (IntKind.wrap .i64 (x5 + 2)))) < 8)) = true →
    stH h x2 ((⟨0, (⟨#[]⟩ : ByteArray), 0⟩ : S_api_Cell).cells) fun h33 =>
    ld_S_api_Cell h33 x2 fun y34 =>
    Q y34 11 h33) ∧
    ((decide ((IntKind.wrap .i64 ((x0.size : Int) - (IntKind.wrap .i64 (x5 + 2)))) < 8)) = false →
    ((decide ((IntKind.wrap .i64 ((x0.size : Int) - (IntKind.wrap .i64 (x5 + 2)))) > 8)) = true →
    stH h x2 ((⟨0, (⟨#[]⟩ : ByteArray), 0⟩ : S_api_Cell).cells) fun h37 =>
    ld_S_api_Cell h37 x2 fun y38 =>
    Q y38 13 h37) ∧
    ((decide ((IntKind.wrap .i64 ((x0.size : Int) - (IntKind.wrap .i64 (x5 + 2)))) > 8)) = false →
    ∃ m, F.merge_Cell.l2 Q m x0 x2 x4 (IntKind.wrap .i64 (x5 + 2)) x6 0 h))) ∧
    (((b29 == 1)) = false →
    idxS x0 (IntKind.wrap .i64 ((IntKind.wrap .i64 (x5 + 2)) - 1)) fun b62 =>
    (((b62 != 255)) = true →
    stH h x2 ((⟨0, (⟨#[]⟩ : ByteArray), 0⟩ : S_api_Cell).cells) fun h65 =>
    ld_S_api_Cell h65 x2 fun y66 =>
    Q y66 12 h65) ∧
    (((b62 != 255)) = false →
    newL h #[(.int .u8 0)] ty_5 1 fun s69 h68 =>
    runL PP (Builtin.append_ #[47, 47] 47 #[x6.enc, s69.enc]) h68 fun s71 h70 =>
    (F.merge_Cell.l1 Q q1) x0 x2 x4 (IntKind.wrap .i64 (x5 + 2)) s71 h70)))))
/-- spate/merge.Cell -/
def F.merge_Cell (p0 : ByteArray) (h : H) (Q : S_api_Cell → Int → H → Prop) : Prop :=
  new h (((⟨0, (⟨#[]⟩ : ByteArray), 0⟩ : S_api_Cell) : S_api_Cell).cells.toArray) ty_34 fun a2 h1 =>
  ((p0.toList == (⟨#[]⟩ : ByteArray).toList) = true →
  stH h1 a2 ((⟨0, (⟨#[]⟩ : ByteArray), 0⟩ : S_api_Cell).cells) fun h4 =>
  ld_S_api_Cell h4 a2 fun y5 =>
  Q y5 11 h4) ∧
  ((p0.toList == (⟨#[]⟩ : ByteArray).toList) = false →
  idxS p0 0 fun b7 =>
  new h1 (((⟨0, (⟨#[]⟩ : ByteArray), 0⟩ : S_api_Cell) : S_api_Cell).cells.toArray) ty_34 fun a10 h9 =>
  stH h9 a10 ((⟨(IntKind.wrap .i64 b7), (⟨#[]⟩ : ByteArray), 0⟩ : S_api_Cell).cells) fun h11 =>
  ∃ m, F.merge_Cell.l1 Q m p0 a2 a10 1 (⟨none, 0, 0⟩ : Sl) h11)
theorem F.merge_Cell_ok {p0 : ByteArray} {h : H} {Q : S_api_Cell → Int → H → Prop} (H : F.merge_Cell p0 h Q) : Fn PP 22 ([(.string p0)] : List Value).toArray h fun r h' => ∃ r0 r1, r = .tuple #[(.agg r0.cells.toArray), (.int .i64 r1)] ∧ Q r0 r1 h' := by
  unfold F.merge_Cell at H
  refine fn_of Try.func22 Try.ntmps22 rfl rfl fun w0 => ?_
  refine tr_sub [(0, (.string p0))] ⟨rfl, trivial⟩ ?_
  refine tr_seq ?_
  refine tr_region ?_
  refine tr_e (f_alloc (cs := ((⟨0, (⟨#[]⟩ : ByteArray), 0⟩ : S_api_Cell) : S_api_Cell).cells.toArray) Try.zeroValue34 rfl H) rfl rfl ?_
  rintro _ h1 ⟨a2, rfl, H⟩
  refine tr_p (y_assign rfl) rfl rfl ?_
  refine tr_nil ?_
  refine tr_thenN ?_
  refine tr_seq ?_
  refine tr_seq ?_
  refine tr_region ?_
  refine tr_p (y_move rfl) rfl rfl ?_
  refine tr_p (y_seql rfl rfl) rfl rfl ?_
  refine tr_nil ?_
  refine tr_thenN ?_
  refine tr_cond rfl (fun g3 => ?_) (fun g3 => ?_)
  · replace H := H.1 g3
    refine tr_seq ?_
    refine tr_region ?_
    refine tr_p (f_build rfl (bd_34_ )) rfl rfl ?_
    refine tr_e (f_store (vs := (⟨0, (⟨#[]⟩ : ByteArray), 0⟩ : S_api_Cell).cells) Try.sizeOf34 rfl rfl cellsOfStruct rfl (by intro v hv; exact ones_S_api_Cell _ v hv) H) rfl rfl ?_
    rintro _ h4 ⟨rfl, H⟩
    refine tr_p (y_assign rfl) rfl rfl ?_
    refine tr_nil ?_
    refine tr_thenN ?_
    refine tr_ret ?_
    refine tr_thenR ?_
    obtain ⟨y5, k6, H⟩ := H
    exact tr_rv2 rfl (rv_cellS Try.isAgg34 Try.sizeOf34 rfl rfl k6) (rv_tmp rfl) ⟨_, _, rfl, H⟩
  · replace H := H.2 g3
    refine tr_skip ?_
    refine tr_thenN ?_
    refine tr_seq ?_
    refine tr_region ?_
    refine tr_p (y_move rfl) rfl rfl ?_
    obtain ⟨b7, e8, H⟩ := H
    refine tr_p (f_idxS Try.runUnderlying9 rfl rfl e8) rfl rfl ?_
    refine tr_p (y_cvt Try.runUnderlying5 Try.runUnderlying3 rfl) rfl rfl ?_
    refine tr_p (f_build rfl (bd_34_0 (IntKind.wrap .i64 b7))) rfl rfl ?_
    refine tr_e (f_alloc (cs := ((⟨0, (⟨#[]⟩ : ByteArray), 0⟩ : S_api_Cell) : S_api_Cell).cells.toArray) Try.zeroValue34 rfl H) rfl rfl ?_
    rintro _ h9 ⟨a10, rfl, H⟩
    refine tr_e (f_store (vs := (⟨(IntKind.wrap .i64 b7), (⟨#[]⟩ : ByteArray), 0⟩ : S_api_Cell).cells) Try.sizeOf34 rfl rfl cellsOfStruct rfl (by intro v hv; exact ones_S_api_Cell _ v hv) H) rfl rfl ?_
    rintro _ h11 ⟨rfl, H⟩
    refine tr_nil ?_
    refine tr_thenN ?_
    refine tr_seq ?_
    refine tr_region ?_
    refine tr_p (y_assign rfl) rfl rfl ?_
    refine tr_nil ?_
    refine tr_thenN ?_
    refine tr_seq ?_
    refine tr_region ?_
    refine tr_p (y_assign rfl) rfl rfl ?_
    refine tr_nil ?_
    refine tr_thenN ?_
    refine tr_seq ?_
    refine tr_block ?_
    obtain ⟨m72, H⟩ := H
    refine tr_sub [(0, (.string p0)), (2, (.pointer (some a2))), (4, (.pointer (some a10))), (5, (.int .i64 1)), (6, (⟨none, 0, 0⟩ : Sl).enc)] ⟨rfl, rfl, rfl, rfl, rfl, trivial⟩ ?_
    refine tr_loop_j (fun m L' h => ∃ (x0 : ByteArray) (x2 : Addr) (x4 : Addr) (x5 : Int) (x6 : Sl), L' = [(0, (.string x0)), (2, (.pointer (some x2))), (4, (.pointer (some x4))), (5, (.int .i64 x5)), (6, x6.enc)] ∧ F.merge_Cell.l1 Q m x0 x2 x4 x5 x6 h) ?_ ?_ m72 ⟨_, _, _, _, _, rfl, H⟩
    · rintro L' h ⟨_, _, _, _, _, _, H⟩; exact H
    · rintro q1 L' h ⟨x0, x2, x4, x5, x6, rfl, H⟩
      unfold F.merge_Cell.l1 at H
      refine tr_block ?_
      refine tr_seq ?_
      refine tr_seq ?_
      refine tr_region ?_
      refine tr_p (y_move rfl) rfl rfl ?_
      refine tr_p (y_move rfl) rfl rfl ?_
      refine tr_p (y_lenS Try.runUnderlying9 rfl) rfl rfl ?_
      refine tr_p (y_eql rfl rfl) rfl rfl ?_
      refine tr_nil ?_
      refine tr_thenN ?_
      refine tr_cond rfl (fun g12 => ?_) (fun g12 => ?_)
      · replace H := H.1 g12
        refine tr_seq ?_
        refine tr_region ?_
        refine tr_p (f_build rfl (bd_34_ )) rfl rfl ?_
        refine tr_e (f_store (vs := (⟨0, (⟨#[]⟩ : ByteArray), 0⟩ : S_api_Cell).cells) Try.sizeOf34 rfl rfl cellsOfStruct rfl (by intro v hv; exact ones_S_api_Cell _ v hv) H) rfl rfl ?_
        rintro _ h13 ⟨rfl, H⟩
        refine tr_p (y_assign rfl) rfl rfl ?_
        refine tr_nil ?_
        refine tr_thenN ?_
        refine tr_ret ?_
        refine tr_thenR ?_
        refine tr_blockR ?_
        refine tr_thenR ?_
        refine tr_blockR ?_
        refine tr_thenR ?_
        obtain ⟨y14, k15, H⟩ := H
        exact tr_rv2 rfl (rv_cellS Try.isAgg34 Try.sizeOf34 rfl rfl k15) (rv_tmp rfl) ⟨_, _, rfl, H⟩
      · replace H := H.2 g12
        refine tr_skip ?_
        refine tr_thenN ?_
        refine tr_seq ?_
        refine tr_seq ?_
        refine tr_region ?_
        refine tr_p (y_move rfl) rfl rfl ?_
        refine tr_p (y_move rfl) rfl rfl ?_
        obtain ⟨b16, e17, H⟩ := H
        refine tr_p (f_idxS Try.runUnderlying9 rfl rfl e17) rfl rfl ?_
        refine tr_p (y_neq rfl rfl) rfl rfl ?_
        refine tr_nil ?_
        refine tr_thenN ?_
        refine tr_cond rfl (fun g18 => ?_) (fun g18 => ?_)
        · replace H := H.1 g18
          refine tr_seq ?_
          refine tr_region ?_
          refine tr_p (y_move rfl) rfl rfl ?_
          refine tr_p (y_move rfl) rfl rfl ?_
          refine tr_p (y_move rfl) rfl rfl ?_
          obtain ⟨b19, e20, H⟩ := H
          refine tr_p (f_idxS Try.runUnderlying9 rfl rfl e20) rfl rfl ?_
          refine tr_e (f_buildL (cs := #[(.int .u8 b19)]) rfl rfl (bl_47_1_0 b19) H) rfl rfl ?_
          rintro _ h21 ⟨s22, rfl, H⟩
          refine tr_e (f_app rfl H) rfl rfl ?_
          rintro _ h23 ⟨s24, rfl, H⟩
          refine tr_p (y_assign rfl) rfl rfl ?_
          refine tr_nil ?_
          refine tr_thenN ?_
          refine tr_seq ?_
          refine tr_region ?_
          refine tr_p (y_move rfl) rfl rfl ?_
          refine tr_p (y_add rfl rfl) rfl rfl ?_
          refine tr_p (y_assign rfl) rfl rfl ?_
          refine tr_nil ?_
          refine tr_thenN ?_
          refine tr_exit ?_
          refine tr_thenE ?_
          refine tr_hit ?_
          refine tr_thenN ?_
          exact tr_join [(0, (.string x0)), (2, (.pointer (some x2))), (4, (.pointer (some x4))), (5, (.int .i64 (IntKind.wrap .i64 (x5 + 1)))), (6, s24.enc)] ⟨rfl, rfl, rfl, rfl, rfl, trivial⟩ ⟨_, _, _, _, _, rfl, H⟩
        · replace H := H.2 g18
          refine tr_skip ?_
          refine tr_thenN ?_
          refine tr_seq ?_
          refine tr_seq ?_
          refine tr_region ?_
          refine tr_p (y_move rfl) rfl rfl ?_
          refine tr_p (y_add rfl rfl) rfl rfl ?_
          refine tr_p (y_move rfl) rfl rfl ?_
          refine tr_p (y_lenS Try.runUnderlying9 rfl) rfl rfl ?_
          refine tr_p (y_eql rfl rfl) rfl rfl ?_
          refine tr_nil ?_
          refine tr_thenN ?_
          refine tr_cond rfl (fun g25 => ?_) (fun g25 => ?_)
          · replace H := H.1 g25
            refine tr_seq ?_
            refine tr_region ?_
            refine tr_p (f_build rfl (bd_34_ )) rfl rfl ?_
            refine tr_e (f_store (vs := (⟨0, (⟨#[]⟩ : ByteArray), 0⟩ : S_api_Cell).cells) Try.sizeOf34 rfl rfl cellsOfStruct rfl (by intro v hv; exact ones_S_api_Cell _ v hv) H) rfl rfl ?_
            rintro _ h26 ⟨rfl, H⟩
            refine tr_p (y_assign rfl) rfl rfl ?_
            refine tr_nil ?_
            refine tr_thenN ?_
            refine tr_ret ?_
            refine tr_thenR ?_
            refine tr_blockR ?_
            refine tr_thenR ?_
            refine tr_blockR ?_
            refine tr_thenR ?_
            obtain ⟨y27, k28, H⟩ := H
            exact tr_rv2 rfl (rv_cellS Try.isAgg34 Try.sizeOf34 rfl rfl k28) (rv_tmp rfl) ⟨_, _, rfl, H⟩
          · replace H := H.2 g25
            refine tr_skip ?_
            refine tr_thenN ?_
            refine tr_seq ?_
            refine tr_region ?_
            refine tr_p (y_move rfl) rfl rfl ?_
            refine tr_p (y_add rfl rfl) rfl rfl ?_
            refine tr_p (y_assign rfl) rfl rfl ?_
            refine tr_nil ?_
            refine tr_thenN ?_
            refine tr_seq ?_
            refine tr_seq ?_
            refine tr_region ?_
            refine tr_p (y_move rfl) rfl rfl ?_
            refine tr_p (y_move rfl) rfl rfl ?_
            refine tr_p (y_sub rfl rfl) rfl rfl ?_
            obtain ⟨b29, e30, H⟩ := H
            refine tr_p (f_idxS Try.runUnderlying9 rfl rfl e30) rfl rfl ?_
            refine tr_p (y_eql rfl rfl) rfl rfl ?_
            refine tr_nil ?_
            refine tr_thenN ?_
            refine tr_cond rfl (fun g31 => ?_) (fun g31 => ?_)
            · replace H := H.1 g31
              refine tr_exit ?_
              refine tr_thenE ?_
              refine tr_miss rfl ?_
              refine tr_thenE ?_
              refine tr_hit ?_
              refine tr_thenN ?_
              refine tr_seq ?_
              refine tr_seq ?_
              refine tr_region ?_
              refine tr_p (y_move rfl) rfl rfl ?_
              refine tr_p (y_lenS Try.runUnderlying9 rfl) rfl rfl ?_
              refine tr_p (y_move rfl) rfl rfl ?_
              refine tr_p (y_sub rfl rfl) rfl rfl ?_
              refine tr_p (y_assign rfl) rfl rfl ?_
              refine tr_nil ?_
              refine tr_thenN ?_
              refine tr_block ?_
              refine tr_seq ?_
              refine tr_region ?_
              refine tr_p (y_move rfl) rfl rfl ?_
              refine tr_p (y_lss rfl rfl) rfl rfl ?_
              refine tr_p (y_assign rfl) rfl rfl ?_
              refine tr_nil ?_
              refine tr_thenN ?_
              refine tr_cond rfl (fun g32 => ?_) (fun g32 => ?_)
              · replace H := H.1 g32
                refine tr_seq ?_
                refine tr_region ?_
                refine tr_p (f_build rfl (bd_34_ )) rfl rfl ?_
                refine tr_e (f_store (vs := (⟨0, (⟨#[]⟩ : ByteArray), 0⟩ : S_api_Cell).cells) Try.sizeOf34 rfl rfl cellsOfStruct rfl (by intro v hv; exact ones_S_api_Cell _ v hv) H) rfl rfl ?_
                rintro _ h33 ⟨rfl, H⟩
                refine tr_p (y_assign rfl) rfl rfl ?_
                refine tr_nil ?_
                refine tr_thenN ?_
                refine tr_ret ?_
                refine tr_blockR ?_
                refine tr_thenR ?_
                obtain ⟨y34, k35, H⟩ := H
                exact tr_rv2 rfl (rv_cellS Try.isAgg34 Try.sizeOf34 rfl rfl k35) (rv_tmp rfl) ⟨_, _, rfl, H⟩
              · replace H := H.2 g32
                refine tr_seq ?_
                refine tr_region ?_
                refine tr_p (y_move rfl) rfl rfl ?_
                refine tr_p (y_gtr rfl rfl) rfl rfl ?_
                refine tr_p (y_assign rfl) rfl rfl ?_
                refine tr_nil ?_
                refine tr_thenN ?_
                refine tr_cond rfl (fun g36 => ?_) (fun g36 => ?_)
                · replace H := H.1 g36
                  refine tr_seq ?_
                  refine tr_region ?_
                  refine tr_p (f_build rfl (bd_34_ )) rfl rfl ?_
                  refine tr_e (f_store (vs := (⟨0, (⟨#[]⟩ : ByteArray), 0⟩ : S_api_Cell).cells) Try.sizeOf34 rfl rfl cellsOfStruct rfl (by intro v hv; exact ones_S_api_Cell _ v hv) H) rfl rfl ?_
                  rintro _ h37 ⟨rfl, H⟩
                  refine tr_p (y_assign rfl) rfl rfl ?_
                  refine tr_nil ?_
                  refine tr_thenN ?_
                  refine tr_ret ?_
                  refine tr_blockR ?_
                  refine tr_thenR ?_
                  obtain ⟨y38, k39, H⟩ := H
                  exact tr_rv2 rfl (rv_cellS Try.isAgg34 Try.sizeOf34 rfl rfl k39) (rv_tmp rfl) ⟨_, _, rfl, H⟩
                · replace H := H.2 g36
                  refine tr_skip ?_
                  refine tr_blockN ?_
                  refine tr_thenN ?_
                  refine tr_seq ?_
                  refine tr_region ?_
                  refine tr_p (y_assign rfl) rfl rfl ?_
                  refine tr_nil ?_
                  refine tr_thenN ?_
                  refine tr_seq ?_
                  refine tr_block ?_
                  obtain ⟨m61, H⟩ := H
                  refine tr_sub [(0, (.string x0)), (2, (.pointer (some x2))), (4, (.pointer (some x4))), (5, (.int .i64 (IntKind.wrap .i64 (x5 + 2)))), (6, x6.enc), (8, (.int .u64 0))] ⟨rfl, rfl, rfl, rfl, rfl, rfl, trivial⟩ ?_
                  refine tr_loop_j (fun m L' h => ∃ (x0 : ByteArray) (x2 : Addr) (x4 : Addr) (x5 : Int) (x6 : Sl) (x8 : Int), L' = [(0, (.string x0)), (2, (.pointer (some x2))), (4, (.pointer (some x4))), (5, (.int .i64 x5)), (6, x6.enc), (8, (.int .u64 x8))] ∧ F.merge_Cell.l2 Q m x0 x2 x4 x5 x6 x8 h) ?_ ?_ m61 ⟨_, _, _, _, _, _, rfl, H⟩
                  · rintro L' h ⟨_, _, _, _, _, _, _, H⟩; exact H
                  · rintro q2 L' h ⟨x0, x2, x4, x5, x6, x8, rfl, H⟩
                    unfold F.merge_Cell.l2 at H
                    refine tr_seq ?_
                    refine tr_seq ?_
                    refine tr_region ?_
                    refine tr_p (y_move rfl) rfl rfl ?_
                    refine tr_p (y_move rfl) rfl rfl ?_
                    refine tr_p (y_lenS Try.runUnderlying9 rfl) rfl rfl ?_
                    refine tr_p (y_lss rfl rfl) rfl rfl ?_
                    refine tr_nil ?_
                    refine tr_thenN ?_
                    refine tr_cond rfl (fun g40 => ?_) (fun g40 => ?_)
                    · replace H := H.1 g40
                      refine tr_skip ?_
                      refine tr_thenN ?_
                      refine tr_seq ?_
                      refine tr_block ?_
                      refine tr_region ?_
                      refine tr_p (y_move rfl) rfl rfl ?_
                      obtain ⟨e41, H⟩ := H
                      refine tr_p (y_shl rfl rfl e41) rfl rfl ?_
                      refine tr_p (y_move rfl) rfl rfl ?_
                      refine tr_p (y_move rfl) rfl rfl ?_
                      obtain ⟨b42, e43, H⟩ := H
                      refine tr_p (f_idxS Try.runUnderlying9 rfl rfl e43) rfl rfl ?_
                      refine tr_p (y_cvt Try.runUnderlying5 Try.runUnderlying76 rfl) rfl rfl ?_
                      refine tr_p (y_or rfl rfl) rfl rfl ?_
                      refine tr_p (y_assign rfl) rfl rfl ?_
                      refine tr_nil ?_
                      refine tr_blockN ?_
                      refine tr_thenN ?_
                      refine tr_region ?_
                      refine tr_p (y_move rfl) rfl rfl ?_
                      refine tr_p (y_add rfl rfl) rfl rfl ?_
                      refine tr_p (y_assign rfl) rfl rfl ?_
                      refine tr_nil ?_
                      refine tr_thenN ?_
                      exact tr_join [(0, (.string x0)), (2, (.pointer (some x2))), (4, (.pointer (some x4))), (5, (.int .i64 (IntKind.wrap .i64 (x5 + 1)))), (6, x6.enc), (8, (.int .u64 (bitsOf .or .u64 (IntKind.wrap .u64 (x8 * (2 ^ (min (8 : Int).toNat (IntKind.bits .u64)) : Int))) (IntKind.wrap .u64 b42))))] ⟨rfl, rfl, rfl, rfl, rfl, rfl, trivial⟩ ⟨_, _, _, _, _, _, rfl, H⟩
                    · replace H := H.2 g40
                      refine tr_exit ?_
                      refine tr_thenE ?_
                      refine tr_thenE ?_
                      refine tr_hit ?_
                      refine tr_thenN ?_
                      refine tr_seq ?_
                      refine tr_region ?_
                      refine tr_p (y_move rfl) rfl rfl ?_
                      refine tr_e (f_cvtT rfl H) rfl rfl ?_
                      rintro _ h44 ⟨s45, rfl, H⟩
                      refine tr_p (y_move rfl) rfl rfl ?_
                      refine tr_p (y_sub rfl rfl) rfl rfl ?_
                      refine tr_p (y_cvt Try.runUnderlying76 Try.runUnderlying2 rfl) rfl rfl ?_
                      refine tr_p (y_fa (off := 1) Try.runUnderlying34 fo_34_1 rfl) rfl rfl ?_
                      refine tr_e (f_store (vs := [(.string s45)]) Try.sizeOf9 rfl rfl rfl rfl (one1 rfl) H) rfl rfl ?_
                      rintro _ h46 ⟨rfl, H⟩
                      refine tr_p (y_fa (off := 2) Try.runUnderlying34 fo_34_2 rfl) rfl rfl ?_
                      refine tr_e (f_store (vs := [(.int .i64 (IntKind.wrap .i64 (IntKind.wrap .u64 (x8 - 9223372036854775808))))]) Try.sizeOf2 rfl rfl rfl rfl (one1 rfl) H) rfl rfl ?_
                      rintro _ h47 ⟨rfl, H⟩
                      refine tr_nil ?_
                      refine tr_thenN ?_
                      refine tr_seq ?_
                      refine tr_seq ?_
                      refine tr_region ?_
                      obtain ⟨y48, k49, H⟩ := H
                      refine tr_h (y_ldS Try.isAgg34 Try.sizeOf34 rfl rfl) k49 rfl rfl ?_
                      refine tr_e (e_call Try.call40 rfl (F.merge_may_ok H)) rfl rfl ?_
                      rintro _ h50 ⟨r51, rfl, H⟩
                      refine tr_p (y_assign rfl) rfl rfl ?_
                      refine tr_nil ?_
                      refine tr_thenN ?_
                      refine tr_seq ?_
                      refine tr_region ?_
                      refine tr_p (y_move rfl) rfl rfl ?_
                      refine tr_p (y_neq rfl rfl) rfl rfl ?_
                      refine tr_nil ?_
                      refine tr_thenN ?_
                      refine tr_cond rfl (fun g52 => ?_) (fun g52 => ?_)
                      · replace H := H.1 g52
                        refine tr_seq ?_
                        refine tr_region ?_
                        refine tr_p (f_build rfl (bd_34_ )) rfl rfl ?_
                        refine tr_p (y_move rfl) rfl rfl ?_
                        refine tr_e (f_store (vs := (⟨0, (⟨#[]⟩ : ByteArray), 0⟩ : S_api_Cell).cells) Try.sizeOf34 rfl rfl cellsOfStruct rfl (by intro v hv; exact ones_S_api_Cell _ v hv) H) rfl rfl ?_
                        rintro _ h53 ⟨rfl, H⟩
                        refine tr_p (y_assign rfl) rfl rfl ?_
                        refine tr_nil ?_
                        refine tr_thenN ?_
                        refine tr_ret ?_
                        refine tr_thenR ?_
                        obtain ⟨y54, k55, H⟩ := H
                        exact tr_rv2 rfl (rv_cellS Try.isAgg34 Try.sizeOf34 rfl rfl k55) (rv_tmp rfl) ⟨_, _, rfl, H⟩
                      · replace H := H.2 g52
                        refine tr_skip ?_
                        refine tr_thenN ?_
                        refine tr_seq ?_
                        refine tr_region ?_
                        obtain ⟨y56, k57, H⟩ := H
                        refine tr_h (y_ldS Try.isAgg34 Try.sizeOf34 rfl rfl) k57 rfl rfl ?_
                        refine tr_e (f_store (vs := y56.cells) Try.sizeOf34 rfl rfl cellsOfStruct rfl (by intro v hv; exact ones_S_api_Cell _ v hv) H) rfl rfl ?_
                        rintro _ h58 ⟨rfl, H⟩
                        refine tr_p (y_assign rfl) rfl rfl ?_
                        refine tr_nil ?_
                        refine tr_thenN ?_
                        refine tr_ret ?_
                        obtain ⟨y59, k60, H⟩ := H
                        exact tr_rv2 rfl (rv_cellS Try.isAgg34 Try.sizeOf34 rfl rfl k60) (rv_tmp rfl) ⟨_, _, rfl, H⟩
            · replace H := H.2 g31
              refine tr_skip ?_
              refine tr_thenN ?_
              refine tr_seq ?_
              refine tr_seq ?_
              refine tr_region ?_
              refine tr_p (y_move rfl) rfl rfl ?_
              refine tr_p (y_move rfl) rfl rfl ?_
              refine tr_p (y_sub rfl rfl) rfl rfl ?_
              obtain ⟨b62, e63, H⟩ := H
              refine tr_p (f_idxS Try.runUnderlying9 rfl rfl e63) rfl rfl ?_
              refine tr_p (y_neq rfl rfl) rfl rfl ?_
              refine tr_nil ?_
              refine tr_thenN ?_
              refine tr_cond rfl (fun g64 => ?_) (fun g64 => ?_)
              · replace H := H.1 g64
                refine tr_seq ?_
                refine tr_region ?_
                refine tr_p (f_build rfl (bd_34_ )) rfl rfl ?_
                refine tr_e (f_store (vs := (⟨0, (⟨#[]⟩ : ByteArray), 0⟩ : S_api_Cell).cells) Try.sizeOf34 rfl rfl cellsOfStruct rfl (by intro v hv; exact ones_S_api_Cell _ v hv) H) rfl rfl ?_
                rintro _ h65 ⟨rfl, H⟩
                refine tr_p (y_assign rfl) rfl rfl ?_
                refine tr_nil ?_
                refine tr_thenN ?_
                refine tr_ret ?_
                refine tr_thenR ?_
                refine tr_blockR ?_
                refine tr_thenR ?_
                refine tr_blockR ?_
                refine tr_thenR ?_
                obtain ⟨y66, k67, H⟩ := H
                exact tr_rv2 rfl (rv_cellS Try.isAgg34 Try.sizeOf34 rfl rfl k67) (rv_tmp rfl) ⟨_, _, rfl, H⟩
              · replace H := H.2 g64
                refine tr_skip ?_
                refine tr_thenN ?_
                refine tr_region ?_
                refine tr_p (y_move rfl) rfl rfl ?_
                refine tr_e (f_buildL (cs := #[(.int .u8 0)]) rfl rfl (bl_47_1_0 0) H) rfl rfl ?_
                rintro _ h68 ⟨s69, rfl, H⟩
                refine tr_e (f_app rfl H) rfl rfl ?_
                rintro _ h70 ⟨s71, rfl, H⟩
                refine tr_p (y_assign rfl) rfl rfl ?_
                refine tr_nil ?_
                refine tr_blockN ?_
                refine tr_thenN ?_
                exact tr_join [(0, (.string x0)), (2, (.pointer (some x2))), (4, (.pointer (some x4))), (5, (.int .i64 (IntKind.wrap .i64 (x5 + 2)))), (6, s71.enc)] ⟨rfl, rfl, rfl, rfl, rfl, trivial⟩ ⟨_, _, _, _, _, rfl, H⟩

def F.merge_two_int.j4 (Q : Sl → H → Prop) (C1 : Sl → Sl → Sl → H → Prop) (x0 : Sl) (x1 : Sl) (x5 : Sl) (x6 : Int) (x54 : Bool) (h : H) : Prop :=
  (x54 = true →
  newL h #[(.int .i64 x6)] ty_3 1 fun s3 h2 =>
  runL PP (Builtin.append_ #[23, 23] 23 #[x5.enc, s3.enc]) h2 fun s5 h4 =>
  C1 x0 x1 s5 h4) ∧
  (x54 = false →
  C1 x0 x1 x5 h)
def F.merge_two_int.j3 (Q : Sl → H → Prop) (C1 : Sl → Sl → Sl → H → Prop) (x0 : Sl) (x1 : Sl) (x5 : Sl) (x6 : Int) (h : H) : Prop :=
  ((((x5.len : Int) == 0)) = true →
  F.merge_two_int.j4 Q C1 x0 x1 x5 x6 true h) ∧
  ((((x5.len : Int) == 0)) = false →
  idxA x5 (IntKind.wrap .i64 ((x5.len : Int) - 1)) 1 fun a7 =>
  ldI .i64 h a7 fun y9 =>
  F.merge_two_int.j4 Q C1 x0 x1 x5 x6 ((y9 != x6)) h)
def F.merge_two_int.j5 (Q : Sl → H → Prop) (C1 : Sl → Sl → Sl → H → Prop) (x0 : Sl) (x1 : Sl) (x5 : Sl) (x31 : Bool) (h : H) : Prop :=
  (x31 = true →
  idxA x0 0 1 fun a12 =>
  ldI .i64 h a12 fun y14 =>
  cutL x0 1 (x0.len : Int) 1 fun s17 =>
  F.merge_two_int.j3 Q C1 s17 x1 x5 y14 h) ∧
  (x31 = false →
  idxA x1 0 1 fun a18 =>
  ldI .i64 h a18 fun y20 =>
  cutL x1 1 (x1.len : Int) 1 fun s23 =>
  F.merge_two_int.j3 Q C1 x0 s23 x5 y20 h)
def F.merge_two_int.j2 (Q : Sl → H → Prop) (C1 : Sl → Sl → Sl → H → Prop) (x0 : Sl) (x1 : Sl) (x5 : Sl) (h : H) : Prop :=
  ((((x1.len : Int) == 0)) = true →
  F.merge_two_int.j5 Q C1 x0 x1 x5 true h) ∧
  ((((x1.len : Int) == 0)) = false →
  ((decide ((x0.len : Int) > 0)) = true →
  idxA x0 0 1 fun a26 =>
  ldI .i64 h a26 fun y28 =>
  idxA x1 0 1 fun a30 =>
  ldI .i64 h a30 fun y32 =>
  F.merge_two_int.j5 Q C1 x0 x1 x5 (decide (y28 ≤ y32)) h) ∧
  ((decide ((x0.len : Int) > 0)) = false →
  F.merge_two_int.j5 Q C1 x0 x1 x5 false h))
def F.merge_two_int.j6 (Q : Sl → H → Prop) (C1 : Sl → Sl → Sl → H → Prop) (x0 : Sl) (x1 : Sl) (x5 : Sl) (x14 : Bool) (h : H) : Prop :=
  (x14 = true →
  F.merge_two_int.j2 Q C1 x0 x1 x5 h) ∧
  (x14 = false →
  Q x5 h)
def F.merge_two_int.l1 (Q : Sl → H → Prop) : Nat → Sl → Sl → Sl → H → Prop
  | 0, _, _, _, _ => False
  | q1 + 1, x0, x1, x5, h =>
    ((decide ((x0.len : Int) > 0)) = true →
    F.merge_two_int.j6 Q (F.merge_two_int.l1 Q q1) x0 x1 x5 true h) ∧
    ((decide ((x0.len : Int) > 0)) = false →
    F.merge_two_int.j6 Q (F.merge_two_int.l1 Q q1) x0 x1 x5 (decide ((x1.len : Int) > 0)) h)
/-- spate/merge.two[int] -/
def F.merge_two_int (p0 : Sl) (p1 : Sl) (h : H) (Q : Sl → H → Prop) : Prop :=
  ∃ m, F.merge_two_int.l1 Q m p0 p1 (⟨none, 0, 0⟩ : Sl) h
theorem F.merge_two_int_ok {p0 : Sl} {p1 : Sl} {h : H} {Q : Sl → H → Prop} (H : F.merge_two_int p0 p1 h Q) : Fn PP 38 ([p0.enc, p1.enc] : List Value).toArray h fun r h' => ∃ r0, r = r0.enc ∧ Q r0 h' := by
  unfold F.merge_two_int at H
  refine fn_of Try.func38 Try.ntmps38 rfl rfl fun w0 => ?_
  refine tr_sub [(0, p0.enc), (1, p1.enc)] ⟨rfl, rfl, trivial⟩ ?_
  refine tr_seq ?_
  refine tr_region ?_
  refine tr_p (y_assign rfl) rfl rfl ?_
  refine tr_nil ?_
  refine tr_thenN ?_
  refine tr_seq ?_
  refine tr_region ?_
  refine tr_p (y_assign rfl) rfl rfl ?_
  refine tr_nil ?_
  refine tr_thenN ?_
  refine tr_seq ?_
  refine tr_block ?_
  obtain ⟨m36, H⟩ := H
  refine tr_sub [(0, p0.enc), (1, p1.enc), (5, (⟨none, 0, 0⟩ : Sl).enc)] ⟨rfl, rfl, rfl, trivial⟩ ?_
  refine tr_loop_j (fun m L' h => ∃ (x0 : Sl) (x1 : Sl) (x5 : Sl), L' = [(0, x0.enc), (1, x1.enc), (5, x5.enc)] ∧ F.merge_two_int.l1 Q m x0 x1 x5 h) ?_ ?_ m36 ⟨_, _, _, rfl, H⟩
  · rintro L' h ⟨_, _, _, _, H⟩; exact H
  · rintro q1 L' h ⟨x0, x1, x5, rfl, H⟩
    unfold F.merge_two_int.l1 at H
    refine tr_seq_j (fun L' h => ∃ (x0 : Sl) (x1 : Sl) (x5 : Sl), L' = [(0, x0.enc), (1, x1.enc), (5, x5.enc)] ∧ F.merge_two_int.j2 Q (F.merge_two_int.l1 Q q1) x0 x1 x5 h) ?_ ?_
    · rintro L' h ⟨x0, x1, x5, rfl, H⟩
      unfold F.merge_two_int.j2 at H
      refine tr_block ?_
      refine tr_seq ?_
      refine tr_region ?_
      refine tr_p (y_assign rfl) rfl rfl ?_
      refine tr_nil ?_
      refine tr_thenN ?_
      refine tr_seq_j (fun L' h => ∃ (x0 : Sl) (x1 : Sl) (x5 : Sl) (x6 : Int), L' = [(0, x0.enc), (1, x1.enc), (5, x5.enc), (6, (.int .i64 x6))] ∧ F.merge_two_int.j3 Q (F.merge_two_int.l1 Q q1) x0 x1 x5 x6 h) ?_ ?_
      · rintro L' h ⟨x0, x1, x5, x6, rfl, H⟩
        unfold F.merge_two_int.j3 at H
        refine tr_seq_j (fun L' h => ∃ (x0 : Sl) (x1 : Sl) (x5 : Sl) (x6 : Int) (x54 : Bool), L' = [(0, x0.enc), (1, x1.enc), (5, x5.enc), (6, (.int .i64 x6)), (54, (.bool x54))] ∧ F.merge_two_int.j4 Q (F.merge_two_int.l1 Q q1) x0 x1 x5 x6 x54 h) ?_ ?_
        · rintro L' h ⟨x0, x1, x5, x6, x54, rfl, H⟩
          unfold F.merge_two_int.j4 at H
          refine tr_cond rfl (fun g1 => ?_) (fun g1 => ?_)
          · replace H := H.1 g1
            refine tr_region ?_
            refine tr_p (y_move rfl) rfl rfl ?_
            refine tr_p (y_move rfl) rfl rfl ?_
            refine tr_e (f_buildL (cs := #[(.int .i64 x6)]) rfl rfl (bl_23_1_0 x6) H) rfl rfl ?_
            rintro _ h2 ⟨s3, rfl, H⟩
            refine tr_e (f_app rfl H) rfl rfl ?_
            rintro _ h4 ⟨s5, rfl, H⟩
            refine tr_p (y_assign rfl) rfl rfl ?_
            refine tr_nil ?_
            refine tr_blockN ?_
            refine tr_thenN ?_
            exact tr_join [(0, x0.enc), (1, x1.enc), (5, s5.enc)] ⟨rfl, rfl, rfl, trivial⟩ ⟨_, _, _, rfl, H⟩
          · replace H := H.2 g1
            refine tr_skip ?_
            refine tr_blockN ?_
            refine tr_thenN ?_
            exact tr_join [(0, x0.enc), (1, x1.enc), (5, x5.enc)] ⟨rfl, rfl, rfl, trivial⟩ ⟨_, _, _, rfl, H⟩
        · refine tr_region ?_
          refine tr_p (y_move rfl) rfl rfl ?_
          refine tr_p (y_len (ts := #[]) Try.runUnderlying23 (o := x5.ptr) (n := x5.len) (cap := x5.cap) rfl) rfl rfl ?_
          refine tr_p (y_eql rfl rfl) rfl rfl ?_
          refine tr_p (y_move rfl) rfl rfl ?_
          refine tr_split (t := 45) rfl (fun g6 => ?_) (fun g6 => ?_)
          · replace H := H.1 g6
            refine tr_s rfl rfl ?_
            refine tr_s rfl rfl ?_
            refine tr_s rfl rfl ?_
            refine tr_s rfl rfl ?_
            refine tr_s rfl rfl ?_
            refine tr_s rfl rfl ?_
            refine tr_s rfl rfl ?_
            refine tr_s rfl rfl ?_
            refine tr_p (y_pick_t rfl rfl) rfl rfl ?_
            refine tr_nil ?_
            refine tr_thenN ?_
            exact tr_join [(0, x0.enc), (1, x1.enc), (5, x5.enc), (6, (.int .i64 x6)), (54, (.bool true))] ⟨rfl, rfl, rfl, rfl, rfl, trivial⟩ ⟨_, _, _, _, _, rfl, H⟩
          · replace H := H.2 g6
            refine tr_p (y_move rfl) rfl rfl ?_
            refine tr_p (y_move rfl) rfl rfl ?_
            refine tr_p (y_len (ts := #[]) Try.runUnderlying23 (o := x5.ptr) (n := x5.len) (cap := x5.cap) rfl) rfl rfl ?_
            refine tr_p (y_sub rfl rfl) rfl rfl ?_
            obtain ⟨a7, e8, H⟩ := H
            refine tr_p (f_idx (s := x5) Try.runUnderlying23 Try.sizeOf3 rfl rfl e8) rfl rfl ?_
            obtain ⟨y9, k10, H⟩ := H
            refine tr_h (y_ld Try.isAgg3 rfl) k10 rfl rfl ?_
            refine tr_p (y_move rfl) rfl rfl ?_
            refine tr_p (y_neq rfl rfl) rfl rfl ?_
            refine tr_p (y_pick_f rfl rfl) rfl rfl ?_
            refine tr_nil ?_
            refine tr_thenN ?_
            exact tr_join [(0, x0.enc), (1, x1.enc), (5, x5.enc), (6, (.int .i64 x6)), (54, (.bool ((y9 != x6))))] ⟨rfl, rfl, rfl, rfl, rfl, trivial⟩ ⟨_, _, _, _, _, rfl, H⟩
      · refine tr_seq_j (fun L' h => ∃ (x0 : Sl) (x1 : Sl) (x5 : Sl) (x31 : Bool), L' = [(0, x0.enc), (1, x1.enc), (5, x5.enc), (31, (.bool x31))] ∧ F.merge_two_int.j5 Q (F.merge_two_int.l1 Q q1) x0 x1 x5 x31 h) ?_ ?_
        · rintro L' h ⟨x0, x1, x5, x31, rfl, H⟩
          unfold F.merge_two_int.j5 at H
          refine tr_cond rfl (fun g11 => ?_) (fun g11 => ?_)
          · replace H := H.1 g11
            refine tr_draw mixed [0, 1, 3, 0, 8, 7, 63] (by kernel_rfl) ?_
            refine g_p 0 1 rfl (by kernel_rfl) (y_move rfl) rfl rfl ?_
            obtain ⟨a12, e13, H⟩ := H
            refine g_p 1 3 rfl (by kernel_rfl) (f_idx (s := x0) Try.runUnderlying23 Try.sizeOf3 rfl rfl e13) rfl rfl ?_
            obtain ⟨y14, k15, H⟩ := H
            refine g_h 2 7 rfl (by kernel_rfl) (y_ld Try.isAgg3 rfl) k15 rfl rfl ?_
            refine g_p 3 15 rfl (by kernel_rfl) (y_move rfl) rfl rfl ?_
            obtain ⟨s17, e16, H⟩ := H
            refine g_p 4 31 rfl (by kernel_rfl) (f_cutL (s := x0) (some (.i64, 1)) none Try.runUnderlying23 Try.sizeOf3 rfl rfl rfl e16) rfl rfl ?_
            refine g_p 5 63 rfl (by kernel_rfl) (y_assign rfl) rfl rfl ?_
            refine g_e 6 127 [] (by kernel_rfl) rfl (by kernel_rfl) (yp_ev (y_assign rfl)) rfl rfl ?_
            rintro _ _ ⟨rfl, rfl⟩
            refine ⟨trivial, ?_⟩
            refine g_d (by kernel_rfl) ?_
            refine tr_thenN ?_
            exact tr_join [(0, s17.enc), (1, x1.enc), (5, x5.enc), (6, (.int .i64 y14))] ⟨rfl, rfl, rfl, rfl, trivial⟩ ⟨_, _, _, _, rfl, H⟩
          · replace H := H.2 g11
            refine tr_draw mixed [0, 1, 3, 0, 8, 7, 63] (by kernel_rfl) ?_
            refine g_p 0 1 rfl (by kernel_rfl) (y_move rfl) rfl rfl ?_
            obtain ⟨a18, e19, H⟩ := H
            refine g_p 1 3 rfl (by kernel_rfl) (f_idx (s := x1) Try.runUnderlying23 Try.sizeOf3 rfl rfl e19) rfl rfl ?_
            obtain ⟨y20, k21, H⟩ := H
            refine g_h 2 7 rfl (by kernel_rfl) (y_ld Try.isAgg3 rfl) k21 rfl rfl ?_
            refine g_p 3 15 rfl (by kernel_rfl) (y_move rfl) rfl rfl ?_
            obtain ⟨s23, e22, H⟩ := H
            refine g_p 4 31 rfl (by kernel_rfl) (f_cutL (s := x1) (some (.i64, 1)) none Try.runUnderlying23 Try.sizeOf3 rfl rfl rfl e22) rfl rfl ?_
            refine g_p 5 63 rfl (by kernel_rfl) (y_assign rfl) rfl rfl ?_
            refine g_e 6 127 [] (by kernel_rfl) rfl (by kernel_rfl) (yp_ev (y_assign rfl)) rfl rfl ?_
            rintro _ _ ⟨rfl, rfl⟩
            refine ⟨trivial, ?_⟩
            refine g_d (by kernel_rfl) ?_
            refine tr_thenN ?_
            exact tr_join [(0, x0.enc), (1, s23.enc), (5, x5.enc), (6, (.int .i64 y20))] ⟨rfl, rfl, rfl, rfl, trivial⟩ ⟨_, _, _, _, rfl, H⟩
        · refine tr_draw mixed [0, 1, 3, 7, 15, 31, 63, 127, 255, 511, 1023, 255, 2303, 6399, 16383, 32767, 65535] (by kernel_rfl) ?_
          refine g_p 0 1 rfl (by kernel_rfl) (y_move rfl) rfl rfl ?_
          refine g_p 1 3 rfl (by kernel_rfl) (y_len (ts := #[]) Try.runUnderlying23 (o := x1.ptr) (n := x1.len) (cap := x1.cap) rfl) rfl rfl ?_
          refine g_p 2 7 rfl (by kernel_rfl) (y_eql rfl rfl) rfl rfl ?_
          refine g_p 3 15 rfl (by kernel_rfl) (y_move rfl) rfl rfl ?_
          refine g_split (t := 18) rfl (fun g24 => ?_) (fun g24 => ?_)
          · replace H := H.1 g24
            refine g_s 4 31 rfl (by kernel_rfl) rfl rfl ?_
            refine g_s 5 63 rfl (by kernel_rfl) rfl rfl ?_
            refine g_s 6 127 rfl (by kernel_rfl) rfl rfl ?_
            refine g_s 7 255 rfl (by kernel_rfl) rfl rfl ?_
            refine g_s 8 511 rfl (by kernel_rfl) rfl rfl ?_
            refine g_s 9 1023 rfl (by kernel_rfl) rfl rfl ?_
            refine g_s 10 2047 rfl (by kernel_rfl) rfl rfl ?_
            refine g_s 11 4095 rfl (by kernel_rfl) rfl rfl ?_
            refine g_s 12 8191 rfl (by kernel_rfl) rfl rfl ?_
            refine g_s 13 16383 rfl (by kernel_rfl) rfl rfl ?_
            refine g_s 14 32767 rfl (by kernel_rfl) rfl rfl ?_
            refine g_s 15 65535 rfl (by kernel_rfl) rfl rfl ?_
            refine g_p 16 131071 rfl (by kernel_rfl) (y_pick_t rfl rfl) rfl rfl ?_
            refine g_d (by kernel_rfl) ?_
            refine tr_thenN ?_
            exact tr_join [(0, x0.enc), (1, x1.enc), (5, x5.enc), (31, (.bool true))] ⟨rfl, rfl, rfl, rfl, trivial⟩ ⟨_, _, _, _, rfl, H⟩
          · replace H := H.2 g24
            refine g_p 4 31 rfl (by kernel_rfl) (y_move rfl) rfl rfl ?_
            refine g_p 5 63 rfl (by kernel_rfl) (y_len (ts := #[]) Try.runUnderlying23 (o := x0.ptr) (n := x0.len) (cap := x0.cap) rfl) rfl rfl ?_
            refine g_p 6 127 rfl (by kernel_rfl) (y_gtr rfl rfl) rfl rfl ?_
            refine g_p 7 255 rfl (by kernel_rfl) (y_move rfl) rfl rfl ?_
            refine g_split (t := 22) rfl (fun g25 => ?_) (fun g25 => ?_)
            · replace H := H.1 g25
              refine g_p 8 511 rfl (by kernel_rfl) (y_move rfl) rfl rfl ?_
              obtain ⟨a26, e27, H⟩ := H
              refine g_p 9 1023 rfl (by kernel_rfl) (f_idx (s := x0) Try.runUnderlying23 Try.sizeOf3 rfl rfl e27) rfl rfl ?_
              obtain ⟨y28, k29, H⟩ := H
              refine g_h 10 2047 rfl (by kernel_rfl) (y_ld Try.isAgg3 rfl) k29 rfl rfl ?_
              refine g_p 11 4095 rfl (by kernel_rfl) (y_move rfl) rfl rfl ?_
              obtain ⟨a30, e31, H⟩ := H
              refine g_p 12 8191 rfl (by kernel_rfl) (f_idx (s := x1) Try.runUnderlying23 Try.sizeOf3 rfl rfl e31) rfl rfl ?_
              obtain ⟨y32, k33, H⟩ := H
              refine g_h 13 16383 rfl (by kernel_rfl) (y_ld Try.isAgg3 rfl) k33 rfl rfl ?_
              refine g_p 14 32767 rfl (by kernel_rfl) (y_leq rfl rfl) rfl rfl ?_
              refine g_p 15 65535 rfl (by kernel_rfl) (y_pick_t rfl rfl) rfl rfl ?_
              refine g_p 16 131071 rfl (by kernel_rfl) (y_pick_f rfl rfl) rfl rfl ?_
              refine g_d (by kernel_rfl) ?_
              refine tr_thenN ?_
              exact tr_join [(0, x0.enc), (1, x1.enc), (5, x5.enc), (31, (.bool (decide (y28 ≤ y32))))] ⟨rfl, rfl, rfl, rfl, trivial⟩ ⟨_, _, _, _, rfl, H⟩
            · replace H := H.2 g25
              refine g_s 8 511 rfl (by kernel_rfl) rfl rfl ?_
              refine g_s 9 1023 rfl (by kernel_rfl) rfl rfl ?_
              refine g_s 10 2047 rfl (by kernel_rfl) rfl rfl ?_
              refine g_s 11 4095 rfl (by kernel_rfl) rfl rfl ?_
              refine g_s 12 8191 rfl (by kernel_rfl) rfl rfl ?_
              refine g_s 13 16383 rfl (by kernel_rfl) rfl rfl ?_
              refine g_s 14 32767 rfl (by kernel_rfl) rfl rfl ?_
              refine g_p 15 65535 rfl (by kernel_rfl) (y_pick_f rfl rfl) rfl rfl ?_
              refine g_p 16 131071 rfl (by kernel_rfl) (y_pick_f rfl rfl) rfl rfl ?_
              refine g_d (by kernel_rfl) ?_
              refine tr_thenN ?_
              exact tr_join [(0, x0.enc), (1, x1.enc), (5, x5.enc), (31, (.bool false))] ⟨rfl, rfl, rfl, rfl, trivial⟩ ⟨_, _, _, _, rfl, H⟩
    · refine tr_seq_j (fun L' h => ∃ (x0 : Sl) (x1 : Sl) (x5 : Sl) (x14 : Bool), L' = [(0, x0.enc), (1, x1.enc), (5, x5.enc), (14, (.bool x14))] ∧ F.merge_two_int.j6 Q (F.merge_two_int.l1 Q q1) x0 x1 x5 x14 h) ?_ ?_
      · rintro L' h ⟨x0, x1, x5, x14, rfl, H⟩
        unfold F.merge_two_int.j6 at H
        refine tr_cond rfl (fun g34 => ?_) (fun g34 => ?_)
        · replace H := H.1 g34
          refine tr_skip ?_
          refine tr_thenN ?_
          exact tr_join [(0, x0.enc), (1, x1.enc), (5, x5.enc)] ⟨rfl, rfl, rfl, trivial⟩ ⟨_, _, _, rfl, H⟩
        · replace H := H.2 g34
          refine tr_exit ?_
          refine tr_thenE ?_
          refine tr_thenE ?_
          refine tr_hit ?_
          refine tr_thenN ?_
          refine tr_seq ?_
          refine tr_region ?_
          refine tr_p (y_move rfl) rfl rfl ?_
          refine tr_p (y_assign rfl) rfl rfl ?_
          refine tr_nil ?_
          refine tr_thenN ?_
          refine tr_ret ?_
          exact tr_ret1 rfl rfl ⟨_, rfl, H⟩
      · refine tr_region ?_
        refine tr_p (y_move rfl) rfl rfl ?_
        refine tr_p (y_len (ts := #[]) Try.runUnderlying23 (o := x0.ptr) (n := x0.len) (cap := x0.cap) rfl) rfl rfl ?_
        refine tr_p (y_gtr rfl rfl) rfl rfl ?_
        refine tr_p (y_move rfl) rfl rfl ?_
        refine tr_split (t := 10) rfl (fun g35 => ?_) (fun g35 => ?_)
        · replace H := H.1 g35
          refine tr_s rfl rfl ?_
          refine tr_s rfl rfl ?_
          refine tr_s rfl rfl ?_
          refine tr_p (y_pick_t rfl rfl) rfl rfl ?_
          refine tr_nil ?_
          refine tr_thenN ?_
          exact tr_join [(0, x0.enc), (1, x1.enc), (5, x5.enc), (14, (.bool true))] ⟨rfl, rfl, rfl, rfl, trivial⟩ ⟨_, _, _, _, rfl, H⟩
        · replace H := H.2 g35
          refine tr_p (y_move rfl) rfl rfl ?_
          refine tr_p (y_len (ts := #[]) Try.runUnderlying23 (o := x1.ptr) (n := x1.len) (cap := x1.cap) rfl) rfl rfl ?_
          refine tr_p (y_gtr rfl rfl) rfl rfl ?_
          refine tr_p (y_pick_f rfl rfl) rfl rfl ?_
          refine tr_nil ?_
          refine tr_thenN ?_
          exact tr_join [(0, x0.enc), (1, x1.enc), (5, x5.enc), (14, (.bool (decide ((x1.len : Int) > 0))))] ⟨rfl, rfl, rfl, rfl, trivial⟩ ⟨_, _, _, _, rfl, H⟩

/-- spate/merge.Lists[int] -/
def F.merge_Lists_int.fu : Nat → Sl → H → (Sl → H → Prop) → Prop
  | 0, _, _, _ => False
  | m0 + 1, p0, h, Q =>
    ((((p0.len : Int) == 0)) = true →
    Q (⟨none, 0, 0⟩ : Sl) h) ∧
    ((((p0.len : Int) == 0)) = false →
    ((((p0.len : Int) == 1)) = true →
    idxA p0 0 1 fun a3 =>
    ldL h a3 fun y5 =>
    F.merge_two_int y5 (⟨none, 0, 0⟩ : Sl) h fun r8 h7 =>
    Q r8 h7) ∧
    ((((p0.len : Int) == 1)) = false →
    (2 : Int) ≠ 0 ∧
    cutL p0 0 (IntKind.wrap .i64 (Int.tdiv (p0.len : Int) 2)) 1 fun s11 =>
    cutL p0 (IntKind.wrap .i64 (Int.tdiv (p0.len : Int) 2)) (p0.len : Int) 1 fun s13 =>
    (F.merge_Lists_int.fu m0) s11 h fun r15 h14 =>
    (F.merge_Lists_int.fu m0) s13 h14 fun r17 h16 =>
    F.merge_two_int r15 r17 h16 fun r19 h18 =>
    Q r19 h18))
theorem F.merge_Lists_int.fu_ok : ∀ (m0 : Nat) {p0 : Sl} {h : H} {Q : Sl → H → Prop}, F.merge_Lists_int.fu m0 p0 h Q → Fn PP 18 ([p0.enc] : List Value).toArray h fun r h' => ∃ r0, r = r0.enc ∧ Q r0 h' := by
  intro m0
  induction m0 with
  | zero => intro p0 h Q H; unfold F.merge_Lists_int.fu at H; exact H.elim
  | succ m0 IH =>
  intro p0 h Q H
  unfold F.merge_Lists_int.fu at H
  refine fn_of Try.func18 Try.ntmps18 rfl rfl fun w0 => ?_
  refine tr_sub [(0, p0.enc)] ⟨rfl, trivial⟩ ?_
  refine tr_seq ?_
  refine tr_region ?_
  refine tr_p (y_assign rfl) rfl rfl ?_
  refine tr_nil ?_
  refine tr_thenN ?_
  refine tr_seq ?_
  refine tr_seq ?_
  refine tr_region ?_
  refine tr_p (y_move rfl) rfl rfl ?_
  refine tr_p (y_len (ts := #[]) Try.runUnderlying25 (o := p0.ptr) (n := p0.len) (cap := p0.cap) rfl) rfl rfl ?_
  refine tr_nil ?_
  refine tr_thenN ?_
  refine tr_block ?_
  refine tr_seq ?_
  refine tr_region ?_
  refine tr_p (y_eql rfl rfl) rfl rfl ?_
  refine tr_p (y_assign rfl) rfl rfl ?_
  refine tr_nil ?_
  refine tr_thenN ?_
  refine tr_cond rfl (fun g1 => ?_) (fun g1 => ?_)
  · replace H := H.1 g1
    refine tr_seq ?_
    refine tr_region ?_
    refine tr_p (y_assign rfl) rfl rfl ?_
    refine tr_nil ?_
    refine tr_thenN ?_
    refine tr_ret ?_
    refine tr_blockR ?_
    refine tr_thenR ?_
    exact tr_ret1 rfl rfl ⟨_, rfl, H⟩
  · replace H := H.2 g1
    refine tr_seq ?_
    refine tr_region ?_
    refine tr_p (y_eql rfl rfl) rfl rfl ?_
    refine tr_p (y_assign rfl) rfl rfl ?_
    refine tr_nil ?_
    refine tr_thenN ?_
    refine tr_cond rfl (fun g2 => ?_) (fun g2 => ?_)
    · replace H := H.1 g2
      refine tr_seq ?_
      refine tr_region ?_
      refine tr_p (y_move rfl) rfl rfl ?_
      obtain ⟨a3, e4, H⟩ := H
      refine tr_p (f_idx (s := p0) Try.runUnderlying25 Try.sizeOf23 rfl rfl e4) rfl rfl ?_
      obtain ⟨y5, k6, H⟩ := H
      refine tr_h (y_ld Try.isAgg23 rfl) k6 rfl rfl ?_
      refine tr_e (e_call Try.call38 rfl (F.merge_two_int_ok H)) rfl rfl ?_
      rintro _ h7 ⟨r8, rfl, H⟩
      refine tr_p (y_assign rfl) rfl rfl ?_
      refine tr_nil ?_
      refine tr_thenN ?_
      refine tr_ret ?_
      refine tr_blockR ?_
      refine tr_thenR ?_
      exact tr_ret1 rfl rfl ⟨_, rfl, H⟩
    · replace H := H.2 g2
      refine tr_skip ?_
      refine tr_blockN ?_
      refine tr_thenN ?_
      refine tr_seq ?_
      refine tr_region ?_
      refine tr_p (y_move rfl) rfl rfl ?_
      refine tr_p (y_len (ts := #[]) Try.runUnderlying25 (o := p0.ptr) (n := p0.len) (cap := p0.cap) rfl) rfl rfl ?_
      obtain ⟨e9, H⟩ := H
      refine tr_p (y_quo rfl rfl e9) rfl rfl ?_
      refine tr_p (y_assign rfl) rfl rfl ?_
      refine tr_nil ?_
      refine tr_thenN ?_
      refine tr_seq ?_
      refine tr_draw mixed [0, 0, 3, 7, 0, 0, 48, 127, 255, 511] (by kernel_rfl) ?_
      refine g_p 0 1 rfl (by kernel_rfl) (y_move rfl) rfl rfl ?_
      refine g_p 1 3 rfl (by kernel_rfl) (y_move rfl) rfl rfl ?_
      obtain ⟨s11, e10, H⟩ := H
      refine g_p 2 7 rfl (by kernel_rfl) (f_cutL (s := p0) none (some (.i64, (IntKind.wrap .i64 (Int.tdiv (p0.len : Int) 2)))) Try.runUnderlying25 Try.sizeOf23 rfl rfl rfl e10) rfl rfl ?_
      refine g_p 4 23 rfl (by kernel_rfl) (y_move rfl) rfl rfl ?_
      refine g_p 5 55 rfl (by kernel_rfl) (y_move rfl) rfl rfl ?_
      obtain ⟨s13, e12, H⟩ := H
      refine g_p 6 119 rfl (by kernel_rfl) (f_cutL (s := p0) (some (.i64, (IntKind.wrap .i64 (Int.tdiv (p0.len : Int) 2)))) none Try.runUnderlying25 Try.sizeOf23 rfl rfl rfl e12) rfl rfl ?_
      refine g_e 3 127 [] (by kernel_rfl) rfl (by kernel_rfl) (e_call Try.call18 rfl (IH H)) rfl rfl ?_
      rintro _ h14 ⟨r15, rfl, H⟩
      refine ⟨trivial, ?_⟩
      refine g_e 7 255 [] (by kernel_rfl) rfl (by kernel_rfl) (e_call Try.call18 rfl (IH H)) rfl rfl ?_
      rintro _ h16 ⟨r17, rfl, H⟩
      refine ⟨trivial, ?_⟩
      refine g_e 8 511 [] (by kernel_rfl) rfl (by kernel_rfl) (e_call Try.call38 rfl (F.merge_two_int_ok H)) rfl rfl ?_
      rintro _ h18 ⟨r19, rfl, H⟩
      refine ⟨trivial, ?_⟩
      refine g_p 9 1023 rfl (by kernel_rfl) (y_assign rfl) rfl rfl ?_
      refine g_d (by kernel_rfl) ?_
      refine tr_thenN ?_
      refine tr_ret ?_
      exact tr_ret1 rfl rfl ⟨_, rfl, H⟩
def F.merge_Lists_int (p0 : Sl) (h : H) (Q : Sl → H → Prop) : Prop := ∃ m0, F.merge_Lists_int.fu m0 p0 h Q
theorem F.merge_Lists_int_ok {p0 : Sl} {h : H} {Q : Sl → H → Prop} (H : F.merge_Lists_int p0 h Q) : Fn PP 18 ([p0.enc] : List Value).toArray h fun r h' => ∃ r0, r = r0.enc ∧ Q r0 h' := by
  obtain ⟨m0, H⟩ := H
  exact F.merge_Lists_int.fu_ok m0 H

/-- spate/spatelaw8.known -/
def F.spatelaw8_known  (h : H) (Q : Bool → H → Prop) : Prop :=
  F.merge_Key (⟨0, (⟨#[97]⟩ : ByteArray), 0⟩ : S_api_Cell) h fun r2 r3 h1 =>
  F.merge_Cell (⟨#[0, 97, 0, 1, 128, 0, 0, 0, 0, 0, 0, 0]⟩ : ByteArray) h1 fun r5 r6 h4 =>
  new h4 (((⟨0, (⟨#[]⟩ : ByteArray), 0⟩ : S_api_Cell) : S_api_Cell).cells.toArray) ty_34 fun a8 h7 =>
  stH h7 a8 r5.cells fun h9 =>
  newL h9 #[(.int .i64 1), (.int .i64 3), (.int .i64 3)] ty_3 3 fun s11 h10 =>
  newL h10 #[(.int .i64 2), (.int .i64 3)] ty_3 2 fun s13 h12 =>
  newL h12 #[s11.enc, s13.enc] ty_23 2 fun s15 h14 =>
  F.merge_Lists_int s15 h14 fun r17 h16 =>
  (((r3 == 0)) = true →
  (((r6 == 0)) = true →
  ((r2.toList == (⟨#[0, 97, 0, 1, 128, 0, 0, 0, 0, 0, 0, 0]⟩ : ByteArray).toList) = true →
  ld_S_api_Cell h16 a8 fun y21 =>
  (((y21.View == (⟨0, (⟨#[97]⟩ : ByteArray), 0⟩ : S_api_Cell).View) && ((y21.Key.toList == (⟨0, (⟨#[97]⟩ : ByteArray), 0⟩ : S_api_Cell).Key.toList) && ((y21.Start == (⟨0, (⟨#[97]⟩ : ByteArray), 0⟩ : S_api_Cell).Start) && true))) = true →
  ((((r17.len : Int) == 3)) = true →
  idxA r17 0 1 fun a25 =>
  ldI .i64 h16 a25 fun y27 =>
  (((y27 == 1)) = true →
  idxA r17 1 1 fun a30 =>
  ldI .i64 h16 a30 fun y32 =>
  (((y32 == 2)) = true →
  idxA r17 2 1 fun a35 =>
  ldI .i64 h16 a35 fun y37 =>
  Q ((y37 == 3)) h16) ∧
  (((y32 == 2)) = false →
  Q false h16)) ∧
  (((y27 == 1)) = false →
  Q false h16)) ∧
  ((((r17.len : Int) == 3)) = false →
  Q false h16)) ∧
  (((y21.View == (⟨0, (⟨#[97]⟩ : ByteArray), 0⟩ : S_api_Cell).View) && ((y21.Key.toList == (⟨0, (⟨#[97]⟩ : ByteArray), 0⟩ : S_api_Cell).Key.toList) && ((y21.Start == (⟨0, (⟨#[97]⟩ : ByteArray), 0⟩ : S_api_Cell).Start) && true))) = false →
  Q false h16)) ∧
  ((r2.toList == (⟨#[0, 97, 0, 1, 128, 0, 0, 0, 0, 0, 0, 0]⟩ : ByteArray).toList) = false →
  Q false h16)) ∧
  (((r6 == 0)) = false →
  Q false h16)) ∧
  (((r3 == 0)) = false →
  Q false h16)
theorem F.spatelaw8_known_ok  {h : H} {Q : Bool → H → Prop} (H : F.spatelaw8_known  h Q) : Fn PP 15 ([] : List Value).toArray h fun r h' => ∃ r0, r = (.bool r0) ∧ Q r0 h' := by
  unfold F.spatelaw8_known at H
  refine fn_of Try.func15 Try.ntmps15 rfl rfl fun w0 => ?_
  refine tr_sub [] trivial ?_
  refine tr_seq ?_
  refine tr_region ?_
  refine tr_p (y_assign rfl) rfl rfl ?_
  refine tr_nil ?_
  refine tr_thenN ?_
  refine tr_seq ?_
  refine tr_region ?_
  refine tr_p (f_build rfl (bd_34_1 (⟨#[97]⟩ : ByteArray))) rfl rfl ?_
  refine tr_e (e_call Try.call23 rfl (F.merge_Key_ok H)) rfl rfl ?_
  rintro _ h1 ⟨r2, r3, rfl, H⟩
  refine tr_p (y_move rfl) rfl rfl ?_
  refine tr_p (y_ext rfl rfl) rfl rfl ?_
  refine tr_p (y_ext rfl rfl) rfl rfl ?_
  refine tr_p (y_assign rfl) rfl rfl ?_
  refine tr_p (y_assign rfl) rfl rfl ?_
  refine tr_nil ?_
  refine tr_thenN ?_
  refine tr_seq ?_
  refine tr_region ?_
  refine tr_e (e_call Try.call22 rfl (F.merge_Cell_ok H)) rfl rfl ?_
  rintro _ h4 ⟨r5, r6, rfl, H⟩
  refine tr_p (y_move rfl) rfl rfl ?_
  refine tr_p (y_ext rfl rfl) rfl rfl ?_
  refine tr_p (y_ext rfl rfl) rfl rfl ?_
  refine tr_e (f_alloc (cs := ((⟨0, (⟨#[]⟩ : ByteArray), 0⟩ : S_api_Cell) : S_api_Cell).cells.toArray) Try.zeroValue34 rfl H) rfl rfl ?_
  rintro _ h7 ⟨a8, rfl, H⟩
  refine tr_e (f_store (vs := r5.cells) Try.sizeOf34 rfl rfl cellsOfStruct rfl (by intro v hv; exact ones_S_api_Cell _ v hv) H) rfl rfl ?_
  rintro _ h9 ⟨rfl, H⟩
  refine tr_p (y_assign rfl) rfl rfl ?_
  refine tr_nil ?_
  refine tr_thenN ?_
  refine tr_seq ?_
  refine tr_region ?_
  refine tr_e (f_buildL (cs := #[(.int .i64 1), (.int .i64 3), (.int .i64 3)]) rfl rfl (bl_23_3_0_1_2 1 3 3) H) rfl rfl ?_
  rintro _ h10 ⟨s11, rfl, H⟩
  refine tr_e (f_buildL (cs := #[(.int .i64 2), (.int .i64 3)]) rfl rfl (bl_23_2_0_1 2 3) H) rfl rfl ?_
  rintro _ h12 ⟨s13, rfl, H⟩
  refine tr_e (f_buildL (cs := #[s11.enc, s13.enc]) rfl rfl (bl_25_2_0_1 s11 s13) H) rfl rfl ?_
  rintro _ h14 ⟨s15, rfl, H⟩
  refine tr_e (e_call Try.call18 rfl (F.merge_Lists_int_ok H)) rfl rfl ?_
  rintro _ h16 ⟨r17, rfl, H⟩
  refine tr_p (y_assign rfl) rfl rfl ?_
  refine tr_nil ?_
  refine tr_thenN ?_
  refine tr_seq ?_
  refine tr_region ?_
  refine tr_p (y_move rfl) rfl rfl ?_
  refine tr_p (y_eql rfl rfl) rfl rfl ?_
  refine tr_p (y_move rfl) rfl rfl ?_
  refine tr_split (t := 21) rfl (fun g18 => ?_) (fun g18 => ?_)
  · replace H := H.1 g18
    refine tr_p (y_move rfl) rfl rfl ?_
    refine tr_p (y_eql rfl rfl) rfl rfl ?_
    refine tr_p (y_pick_t rfl rfl) rfl rfl ?_
    refine tr_p (y_move rfl) rfl rfl ?_
    refine tr_split (t := 25) rfl (fun g19 => ?_) (fun g19 => ?_)
    · replace H := H.1 g19
      refine tr_p (y_move rfl) rfl rfl ?_
      refine tr_p (y_seql rfl rfl) rfl rfl ?_
      refine tr_p (y_pick_t rfl rfl) rfl rfl ?_
      refine tr_p (y_move rfl) rfl rfl ?_
      refine tr_split (t := 29) rfl (fun g20 => ?_) (fun g20 => ?_)
      · replace H := H.1 g20
        obtain ⟨y21, k22, H⟩ := H
        refine tr_h (y_ldS Try.isAgg34 Try.sizeOf34 rfl rfl) k22 rfl rfl ?_
        refine tr_p (f_build rfl (bd_34_1 (⟨#[97]⟩ : ByteArray))) rfl rfl ?_
        refine tr_p (st_eql (b := ((y21.View == (⟨0, (⟨#[97]⟩ : ByteArray), 0⟩ : S_api_Cell).View) && ((y21.Key.toList == (⟨0, (⟨#[97]⟩ : ByteArray), 0⟩ : S_api_Cell).Key.toList) && ((y21.Start == (⟨0, (⟨#[97]⟩ : ByteArray), 0⟩ : S_api_Cell).Start) && true)))) eqg_34 (fun w => eqst_34 y21 (⟨0, (⟨#[97]⟩ : ByteArray), 0⟩ : S_api_Cell) 9998 w) rfl rfl) rfl rfl ?_
        refine tr_p (y_pick_t rfl rfl) rfl rfl ?_
        refine tr_p (y_move rfl) rfl rfl ?_
        refine tr_split (t := 34) rfl (fun g23 => ?_) (fun g23 => ?_)
        · replace H := H.1 g23
          refine tr_p (y_move rfl) rfl rfl ?_
          refine tr_p (y_len (ts := #[]) Try.runUnderlying23 (o := r17.ptr) (n := r17.len) (cap := r17.cap) rfl) rfl rfl ?_
          refine tr_p (y_eql rfl rfl) rfl rfl ?_
          refine tr_p (y_pick_t rfl rfl) rfl rfl ?_
          refine tr_p (y_move rfl) rfl rfl ?_
          refine tr_split (t := 39) rfl (fun g24 => ?_) (fun g24 => ?_)
          · replace H := H.1 g24
            refine tr_p (y_move rfl) rfl rfl ?_
            obtain ⟨a25, e26, H⟩ := H
            refine tr_p (f_idx (s := r17) Try.runUnderlying23 Try.sizeOf3 rfl rfl e26) rfl rfl ?_
            obtain ⟨y27, k28, H⟩ := H
            refine tr_h (y_ld Try.isAgg3 rfl) k28 rfl rfl ?_
            refine tr_p (y_eql rfl rfl) rfl rfl ?_
            refine tr_p (y_pick_t rfl rfl) rfl rfl ?_
            refine tr_p (y_move rfl) rfl rfl ?_
            refine tr_split (t := 45) rfl (fun g29 => ?_) (fun g29 => ?_)
            · replace H := H.1 g29
              refine tr_p (y_move rfl) rfl rfl ?_
              obtain ⟨a30, e31, H⟩ := H
              refine tr_p (f_idx (s := r17) Try.runUnderlying23 Try.sizeOf3 rfl rfl e31) rfl rfl ?_
              obtain ⟨y32, k33, H⟩ := H
              refine tr_h (y_ld Try.isAgg3 rfl) k33 rfl rfl ?_
              refine tr_p (y_eql rfl rfl) rfl rfl ?_
              refine tr_p (y_pick_t rfl rfl) rfl rfl ?_
              refine tr_p (y_move rfl) rfl rfl ?_
              refine tr_split (t := 51) rfl (fun g34 => ?_) (fun g34 => ?_)
              · replace H := H.1 g34
                refine tr_p (y_move rfl) rfl rfl ?_
                obtain ⟨a35, e36, H⟩ := H
                refine tr_p (f_idx (s := r17) Try.runUnderlying23 Try.sizeOf3 rfl rfl e36) rfl rfl ?_
                obtain ⟨y37, k38, H⟩ := H
                refine tr_h (y_ld Try.isAgg3 rfl) k38 rfl rfl ?_
                refine tr_p (y_eql rfl rfl) rfl rfl ?_
                refine tr_p (y_pick_t rfl rfl) rfl rfl ?_
                refine tr_p (y_assign rfl) rfl rfl ?_
                refine tr_nil ?_
                refine tr_thenN ?_
                refine tr_ret ?_
                exact tr_ret1 rfl rfl ⟨_, rfl, H⟩
              · replace H := H.2 g34
                refine tr_s rfl rfl ?_
                refine tr_s rfl rfl ?_
                refine tr_s rfl rfl ?_
                refine tr_s rfl rfl ?_
                refine tr_p (y_pick_f rfl rfl) rfl rfl ?_
                refine tr_p (y_assign rfl) rfl rfl ?_
                refine tr_nil ?_
                refine tr_thenN ?_
                refine tr_ret ?_
                exact tr_ret1 rfl rfl ⟨_, rfl, H⟩
            · replace H := H.2 g29
              refine tr_s rfl rfl ?_
              refine tr_s rfl rfl ?_
              refine tr_s rfl rfl ?_
              refine tr_s rfl rfl ?_
              refine tr_p (y_pick_f rfl rfl) rfl rfl ?_
              refine tr_p (y_move rfl) rfl rfl ?_
              refine tr_s rfl rfl ?_
              refine tr_s rfl rfl ?_
              refine tr_s rfl rfl ?_
              refine tr_s rfl rfl ?_
              refine tr_p (y_pick_f rfl rfl) rfl rfl ?_
              refine tr_p (y_assign rfl) rfl rfl ?_
              refine tr_nil ?_
              refine tr_thenN ?_
              refine tr_ret ?_
              exact tr_ret1 rfl rfl ⟨_, rfl, H⟩
          · replace H := H.2 g24
            refine tr_s rfl rfl ?_
            refine tr_s rfl rfl ?_
            refine tr_s rfl rfl ?_
            refine tr_s rfl rfl ?_
            refine tr_p (y_pick_f rfl rfl) rfl rfl ?_
            refine tr_p (y_move rfl) rfl rfl ?_
            refine tr_s rfl rfl ?_
            refine tr_s rfl rfl ?_
            refine tr_s rfl rfl ?_
            refine tr_s rfl rfl ?_
            refine tr_p (y_pick_f rfl rfl) rfl rfl ?_
            refine tr_p (y_move rfl) rfl rfl ?_
            refine tr_s rfl rfl ?_
            refine tr_s rfl rfl ?_
            refine tr_s rfl rfl ?_
            refine tr_s rfl rfl ?_
            refine tr_p (y_pick_f rfl rfl) rfl rfl ?_
            refine tr_p (y_assign rfl) rfl rfl ?_
            refine tr_nil ?_
            refine tr_thenN ?_
            refine tr_ret ?_
            exact tr_ret1 rfl rfl ⟨_, rfl, H⟩
        · replace H := H.2 g23
          refine tr_s rfl rfl ?_
          refine tr_s rfl rfl ?_
          refine tr_s rfl rfl ?_
          refine tr_p (y_pick_f rfl rfl) rfl rfl ?_
          refine tr_p (y_move rfl) rfl rfl ?_
          refine tr_s rfl rfl ?_
          refine tr_s rfl rfl ?_
          refine tr_s rfl rfl ?_
          refine tr_s rfl rfl ?_
          refine tr_p (y_pick_f rfl rfl) rfl rfl ?_
          refine tr_p (y_move rfl) rfl rfl ?_
          refine tr_s rfl rfl ?_
          refine tr_s rfl rfl ?_
          refine tr_s rfl rfl ?_
          refine tr_s rfl rfl ?_
          refine tr_p (y_pick_f rfl rfl) rfl rfl ?_
          refine tr_p (y_move rfl) rfl rfl ?_
          refine tr_s rfl rfl ?_
          refine tr_s rfl rfl ?_
          refine tr_s rfl rfl ?_
          refine tr_s rfl rfl ?_
          refine tr_p (y_pick_f rfl rfl) rfl rfl ?_
          refine tr_p (y_assign rfl) rfl rfl ?_
          refine tr_nil ?_
          refine tr_thenN ?_
          refine tr_ret ?_
          exact tr_ret1 rfl rfl ⟨_, rfl, H⟩
      · replace H := H.2 g20
        refine tr_s rfl rfl ?_
        refine tr_s rfl rfl ?_
        refine tr_s rfl rfl ?_
        refine tr_p (y_pick_f rfl rfl) rfl rfl ?_
        refine tr_p (y_move rfl) rfl rfl ?_
        refine tr_s rfl rfl ?_
        refine tr_s rfl rfl ?_
        refine tr_s rfl rfl ?_
        refine tr_p (y_pick_f rfl rfl) rfl rfl ?_
        refine tr_p (y_move rfl) rfl rfl ?_
        refine tr_s rfl rfl ?_
        refine tr_s rfl rfl ?_
        refine tr_s rfl rfl ?_
        refine tr_s rfl rfl ?_
        refine tr_p (y_pick_f rfl rfl) rfl rfl ?_
        refine tr_p (y_move rfl) rfl rfl ?_
        refine tr_s rfl rfl ?_
        refine tr_s rfl rfl ?_
        refine tr_s rfl rfl ?_
        refine tr_s rfl rfl ?_
        refine tr_p (y_pick_f rfl rfl) rfl rfl ?_
        refine tr_p (y_move rfl) rfl rfl ?_
        refine tr_s rfl rfl ?_
        refine tr_s rfl rfl ?_
        refine tr_s rfl rfl ?_
        refine tr_s rfl rfl ?_
        refine tr_p (y_pick_f rfl rfl) rfl rfl ?_
        refine tr_p (y_assign rfl) rfl rfl ?_
        refine tr_nil ?_
        refine tr_thenN ?_
        refine tr_ret ?_
        exact tr_ret1 rfl rfl ⟨_, rfl, H⟩
    · replace H := H.2 g19
      refine tr_s rfl rfl ?_
      refine tr_s rfl rfl ?_
      refine tr_p (y_pick_f rfl rfl) rfl rfl ?_
      refine tr_p (y_move rfl) rfl rfl ?_
      refine tr_s rfl rfl ?_
      refine tr_s rfl rfl ?_
      refine tr_s rfl rfl ?_
      refine tr_p (y_pick_f rfl rfl) rfl rfl ?_
      refine tr_p (y_move rfl) rfl rfl ?_
      refine tr_s rfl rfl ?_
      refine tr_s rfl rfl ?_
      refine tr_s rfl rfl ?_
      refine tr_p (y_pick_f rfl rfl) rfl rfl ?_
      refine tr_p (y_move rfl) rfl rfl ?_
      refine tr_s rfl rfl ?_
      refine tr_s rfl rfl ?_
      refine tr_s rfl rfl ?_
      refine tr_s rfl rfl ?_
      refine tr_p (y_pick_f rfl rfl) rfl rfl ?_
      refine tr_p (y_move rfl) rfl rfl ?_
      refine tr_s rfl rfl ?_
      refine tr_s rfl rfl ?_
      refine tr_s rfl rfl ?_
      refine tr_s rfl rfl ?_
      refine tr_p (y_pick_f rfl rfl) rfl rfl ?_
      refine tr_p (y_move rfl) rfl rfl ?_
      refine tr_s rfl rfl ?_
      refine tr_s rfl rfl ?_
      refine tr_s rfl rfl ?_
      refine tr_s rfl rfl ?_
      refine tr_p (y_pick_f rfl rfl) rfl rfl ?_
      refine tr_p (y_assign rfl) rfl rfl ?_
      refine tr_nil ?_
      refine tr_thenN ?_
      refine tr_ret ?_
      exact tr_ret1 rfl rfl ⟨_, rfl, H⟩
  · replace H := H.2 g18
    refine tr_s rfl rfl ?_
    refine tr_s rfl rfl ?_
    refine tr_p (y_pick_f rfl rfl) rfl rfl ?_
    refine tr_p (y_move rfl) rfl rfl ?_
    refine tr_s rfl rfl ?_
    refine tr_s rfl rfl ?_
    refine tr_p (y_pick_f rfl rfl) rfl rfl ?_
    refine tr_p (y_move rfl) rfl rfl ?_
    refine tr_s rfl rfl ?_
    refine tr_s rfl rfl ?_
    refine tr_s rfl rfl ?_
    refine tr_p (y_pick_f rfl rfl) rfl rfl ?_
    refine tr_p (y_move rfl) rfl rfl ?_
    refine tr_s rfl rfl ?_
    refine tr_s rfl rfl ?_
    refine tr_s rfl rfl ?_
    refine tr_p (y_pick_f rfl rfl) rfl rfl ?_
    refine tr_p (y_move rfl) rfl rfl ?_
    refine tr_s rfl rfl ?_
    refine tr_s rfl rfl ?_
    refine tr_s rfl rfl ?_
    refine tr_s rfl rfl ?_
    refine tr_p (y_pick_f rfl rfl) rfl rfl ?_
    refine tr_p (y_move rfl) rfl rfl ?_
    refine tr_s rfl rfl ?_
    refine tr_s rfl rfl ?_
    refine tr_s rfl rfl ?_
    refine tr_s rfl rfl ?_
    refine tr_p (y_pick_f rfl rfl) rfl rfl ?_
    refine tr_p (y_move rfl) rfl rfl ?_
    refine tr_s rfl rfl ?_
    refine tr_s rfl rfl ?_
    refine tr_s rfl rfl ?_
    refine tr_s rfl rfl ?_
    refine tr_p (y_pick_f rfl rfl) rfl rfl ?_
    refine tr_p (y_assign rfl) rfl rfl ?_
    refine tr_nil ?_
    refine tr_thenN ?_
    refine tr_ret ?_
    exact tr_ret1 rfl rfl ⟨_, rfl, H⟩

def F.spatelaw8_rising.j4 (Q : Sl → H → Prop) (C1 : Sl → Sl → Int → H → Prop) (C2 : Sl → Sl → Int → Int → H → Prop) (x0 : Sl) (x3 : Sl) (x4 : Int) (x5 : Int) (h : H) : Prop :=
  C2 x0 x3 x4 (IntKind.wrap .i64 (x5 + 1)) h
def F.spatelaw8_rising.j5 (Q : Sl → H → Prop) (C1 : Sl → Sl → Int → H → Prop) (C2 : Sl → Sl → Int → Int → H → Prop) (x0 : Sl) (x3 : Sl) (x4 : Int) (x5 : Int) (x31 : Bool) (h : H) : Prop :=
  (x31 = true →
  F.spatelaw8_rising.j4 Q C1 C2 x0 x3 x4 x5 h) ∧
  (x31 = false →
  cutL x3 0 x5 1 fun s3 =>
  runL PP (Builtin.append_ #[23, 23] 23 #[(⟨none, 0, 0⟩ : Sl).enc, s3.enc]) h fun s5 h4 =>
  idxA x0 x4 1 fun a6 =>
  ldI .i64 h4 a6 fun y8 =>
  newL h4 #[(.int .i64 y8)] ty_3 1 fun s11 h10 =>
  runL PP (Builtin.append_ #[23, 23] 23 #[s5.enc, s11.enc]) h10 fun s13 h12 =>
  cutL x3 x5 (x3.len : Int) 1 fun s15 =>
  runL PP (Builtin.append_ #[23, 23] 23 #[s13.enc, s15.enc]) h12 fun s17 h16 =>
  C1 x0 s17 (IntKind.wrap .i64 (x4 + 1)) h16)
def F.spatelaw8_rising.l3 (Q : Sl → H → Prop) (C1 : Sl → Sl → Int → H → Prop) : Nat → Sl → Sl → Int → Int → H → Prop
  | 0, _, _, _, _, _ => False
  | q3 + 1, x0, x3, x4, x5, h =>
    ((decide (x5 < (x3.len : Int))) = true →
    idxA x3 x5 1 fun a19 =>
    ldI .i64 h a19 fun y21 =>
    idxA x0 x4 1 fun a23 =>
    ldI .i64 h a23 fun y25 =>
    F.spatelaw8_rising.j5 Q C1 (F.spatelaw8_rising.l3 Q C1 q3) x0 x3 x4 x5 (decide (y21 ≤ y25)) h) ∧
    ((decide (x5 < (x3.len : Int))) = false →
    F.spatelaw8_rising.j5 Q C1 (F.spatelaw8_rising.l3 Q C1 q3) x0 x3 x4 x5 false h)
def F.spatelaw8_rising.j2 (Q : Sl → H → Prop) (C1 : Sl → Sl → Int → H → Prop) (x0 : Sl) (x3 : Sl) (x4 : Int) (h : H) : Prop :=
  ∃ m, F.spatelaw8_rising.l3 Q C1 m x0 x3 x4 0 h
def F.spatelaw8_rising.j6 (Q : Sl → H → Prop) (C1 : Sl → Sl → Int → H → Prop) (x0 : Sl) (x3 : Sl) (x4 : Int) (x14 : Bool) (h : H) : Prop :=
  (x14 = true →
  F.spatelaw8_rising.j2 Q C1 x0 x3 x4 h) ∧
  (x14 = false →
  Q x3 h)
def F.spatelaw8_rising.l1 (Q : Sl → H → Prop) : Nat → Sl → Sl → Int → H → Prop
  | 0, _, _, _, _ => False
  | q1 + 1, x0, x3, x4, h =>
    ((decide (x4 < (x0.len : Int))) = true →
    F.spatelaw8_rising.j6 Q (F.spatelaw8_rising.l1 Q q1) x0 x3 x4 (decide (x4 < 200)) h) ∧
    ((decide (x4 < (x0.len : Int))) = false →
    F.spatelaw8_rising.j6 Q (F.spatelaw8_rising.l1 Q q1) x0 x3 x4 false h)
/-- spate/spatelaw8.rising -/
def F.spatelaw8_rising (p0 : Sl) (h : H) (Q : Sl → H → Prop) : Prop :=
  ∃ m, F.spatelaw8_rising.l1 Q m p0 (⟨none, 0, 0⟩ : Sl) 0 h
theorem F.spatelaw8_rising_ok {p0 : Sl} {h : H} {Q : Sl → H → Prop} (H : F.spatelaw8_rising p0 h Q) : Fn PP 16 ([p0.enc] : List Value).toArray h fun r h' => ∃ r0, r = r0.enc ∧ Q r0 h' := by
  unfold F.spatelaw8_rising at H
  refine fn_of Try.func16 Try.ntmps16 rfl rfl fun w0 => ?_
  refine tr_sub [(0, p0.enc)] ⟨rfl, trivial⟩ ?_
  refine tr_seq ?_
  refine tr_region ?_
  refine tr_p (y_assign rfl) rfl rfl ?_
  refine tr_nil ?_
  refine tr_thenN ?_
  refine tr_seq ?_
  refine tr_region ?_
  refine tr_p (y_assign rfl) rfl rfl ?_
  refine tr_nil ?_
  refine tr_thenN ?_
  refine tr_seq ?_
  refine tr_seq ?_
  refine tr_region ?_
  refine tr_p (y_assign rfl) rfl rfl ?_
  refine tr_nil ?_
  refine tr_thenN ?_
  refine tr_block ?_
  obtain ⟨m30, H⟩ := H
  refine tr_sub [(0, p0.enc), (3, (⟨none, 0, 0⟩ : Sl).enc), (4, (.int .i64 0))] ⟨rfl, rfl, rfl, trivial⟩ ?_
  refine tr_loop_j (fun m L' h => ∃ (x0 : Sl) (x3 : Sl) (x4 : Int), L' = [(0, x0.enc), (3, x3.enc), (4, (.int .i64 x4))] ∧ F.spatelaw8_rising.l1 Q m x0 x3 x4 h) ?_ ?_ m30 ⟨_, _, _, rfl, H⟩
  · rintro L' h ⟨_, _, _, _, H⟩; exact H
  · rintro q1 L' h ⟨x0, x3, x4, rfl, H⟩
    unfold F.spatelaw8_rising.l1 at H
    refine tr_seq_j (fun L' h => ∃ (x0 : Sl) (x3 : Sl) (x4 : Int), L' = [(0, x0.enc), (3, x3.enc), (4, (.int .i64 x4))] ∧ F.spatelaw8_rising.j2 Q (F.spatelaw8_rising.l1 Q q1) x0 x3 x4 h) ?_ ?_
    · rintro L' h ⟨x0, x3, x4, rfl, H⟩
      unfold F.spatelaw8_rising.j2 at H
      refine tr_seq ?_
      refine tr_block ?_
      refine tr_seq ?_
      refine tr_region ?_
      refine tr_p (y_assign rfl) rfl rfl ?_
      refine tr_nil ?_
      refine tr_thenN ?_
      refine tr_seq ?_
      refine tr_block ?_
      obtain ⟨m27, H⟩ := H
      refine tr_sub [(0, x0.enc), (3, x3.enc), (4, (.int .i64 x4)), (5, (.int .i64 0))] ⟨rfl, rfl, rfl, rfl, trivial⟩ ?_
      refine tr_loop_j (fun m L' h => ∃ (x0 : Sl) (x3 : Sl) (x4 : Int) (x5 : Int), L' = [(0, x0.enc), (3, x3.enc), (4, (.int .i64 x4)), (5, (.int .i64 x5))] ∧ F.spatelaw8_rising.l3 Q (F.spatelaw8_rising.l1 Q q1) m x0 x3 x4 x5 h) ?_ ?_ m27 ⟨_, _, _, _, rfl, H⟩
      · rintro L' h ⟨_, _, _, _, _, H⟩; exact H
      · rintro q3 L' h ⟨x0, x3, x4, x5, rfl, H⟩
        unfold F.spatelaw8_rising.l3 at H
        refine tr_seq_j (fun L' h => ∃ (x0 : Sl) (x3 : Sl) (x4 : Int) (x5 : Int), L' = [(0, x0.enc), (3, x3.enc), (4, (.int .i64 x4)), (5, (.int .i64 x5))] ∧ F.spatelaw8_rising.j4 Q (F.spatelaw8_rising.l1 Q q1) (F.spatelaw8_rising.l3 Q (F.spatelaw8_rising.l1 Q q1) q3) x0 x3 x4 x5 h) ?_ ?_
        · rintro L' h ⟨x0, x3, x4, x5, rfl, H⟩
          unfold F.spatelaw8_rising.j4 at H
          refine tr_block ?_
          refine tr_region ?_
          refine tr_p (y_move rfl) rfl rfl ?_
          refine tr_p (y_add rfl rfl) rfl rfl ?_
          refine tr_p (y_assign rfl) rfl rfl ?_
          refine tr_nil ?_
          refine tr_blockN ?_
          refine tr_thenN ?_
          exact tr_join [(0, x0.enc), (3, x3.enc), (4, (.int .i64 x4)), (5, (.int .i64 (IntKind.wrap .i64 (x5 + 1))))] ⟨rfl, rfl, rfl, rfl, trivial⟩ ⟨_, _, _, _, rfl, H⟩
        · refine tr_seq_j (fun L' h => ∃ (x0 : Sl) (x3 : Sl) (x4 : Int) (x5 : Int) (x31 : Bool), L' = [(0, x0.enc), (3, x3.enc), (4, (.int .i64 x4)), (5, (.int .i64 x5)), (31, (.bool x31))] ∧ F.spatelaw8_rising.j5 Q (F.spatelaw8_rising.l1 Q q1) (F.spatelaw8_rising.l3 Q (F.spatelaw8_rising.l1 Q q1) q3) x0 x3 x4 x5 x31 h) ?_ ?_
          · rintro L' h ⟨x0, x3, x4, x5, x31, rfl, H⟩
            unfold F.spatelaw8_rising.j5 at H
            refine tr_cond rfl (fun g1 => ?_) (fun g1 => ?_)
            · replace H := H.1 g1
              refine tr_skip ?_
              refine tr_thenN ?_
              exact tr_join [(0, x0.enc), (3, x3.enc), (4, (.int .i64 x4)), (5, (.int .i64 x5))] ⟨rfl, rfl, rfl, rfl, trivial⟩ ⟨_, _, _, _, rfl, H⟩
            · replace H := H.2 g1
              refine tr_exit ?_
              refine tr_thenE ?_
              refine tr_thenE ?_
              refine tr_hit ?_
              refine tr_thenN ?_
              refine tr_seq ?_
              refine tr_region ?_
              refine tr_p (y_assign rfl) rfl rfl ?_
              refine tr_nil ?_
              refine tr_thenN ?_
              refine tr_seq ?_
              refine tr_region ?_
              refine tr_p (y_move rfl) rfl rfl ?_
              refine tr_p (y_move rfl) rfl rfl ?_
              refine tr_p (y_move rfl) rfl rfl ?_
              obtain ⟨s3, e2, H⟩ := H
              refine tr_p (f_cutL (s := x3) none (some (.i64, x5)) Try.runUnderlying23 Try.sizeOf3 rfl rfl rfl e2) rfl rfl ?_
              refine tr_e (f_app rfl H) rfl rfl ?_
              rintro _ h4 ⟨s5, rfl, H⟩
              refine tr_p (y_assign rfl) rfl rfl ?_
              refine tr_nil ?_
              refine tr_thenN ?_
              refine tr_seq ?_
              refine tr_region ?_
              refine tr_p (y_move rfl) rfl rfl ?_
              refine tr_p (y_move rfl) rfl rfl ?_
              refine tr_p (y_move rfl) rfl rfl ?_
              obtain ⟨a6, e7, H⟩ := H
              refine tr_p (f_idx (s := x0) Try.runUnderlying23 Try.sizeOf3 rfl rfl e7) rfl rfl ?_
              obtain ⟨y8, k9, H⟩ := H
              refine tr_h (y_ld Try.isAgg3 rfl) k9 rfl rfl ?_
              refine tr_e (f_buildL (cs := #[(.int .i64 y8)]) rfl rfl (bl_23_1_0 y8) H) rfl rfl ?_
              rintro _ h10 ⟨s11, rfl, H⟩
              refine tr_e (f_app rfl H) rfl rfl ?_
              rintro _ h12 ⟨s13, rfl, H⟩
              refine tr_p (y_assign rfl) rfl rfl ?_
              refine tr_nil ?_
              refine tr_thenN ?_
              refine tr_region ?_
              refine tr_p (y_move rfl) rfl rfl ?_
              refine tr_p (y_move rfl) rfl rfl ?_
              refine tr_p (y_move rfl) rfl rfl ?_
              obtain ⟨s15, e14, H⟩ := H
              refine tr_p (f_cutL (s := x3) (some (.i64, x5)) none Try.runUnderlying23 Try.sizeOf3 rfl rfl rfl e14) rfl rfl ?_
              refine tr_e (f_app rfl H) rfl rfl ?_
              rintro _ h16 ⟨s17, rfl, H⟩
              refine tr_p (y_assign rfl) rfl rfl ?_
              refine tr_nil ?_
              refine tr_blockN ?_
              refine tr_thenN ?_
              refine tr_region ?_
              refine tr_p (y_move rfl) rfl rfl ?_
              refine tr_p (y_add rfl rfl) rfl rfl ?_
              refine tr_p (y_assign rfl) rfl rfl ?_
              refine tr_nil ?_
              refine tr_thenN ?_
              exact tr_join [(0, x0.enc), (3, s17.enc), (4, (.int .i64 (IntKind.wrap .i64 (x4 + 1))))] ⟨rfl, rfl, rfl, trivial⟩ ⟨_, _, _, rfl, H⟩
          · refine tr_draw mixed [0, 0, 2, 7, 15, 31, 31, 127, 255, 31, 31, 1567, 3615, 8191, 16383] (by kernel_rfl) ?_
            refine g_p 0 1 rfl (by kernel_rfl) (y_move rfl) rfl rfl ?_
            refine g_p 1 3 rfl (by kernel_rfl) (y_move rfl) rfl rfl ?_
            refine g_p 2 7 rfl (by kernel_rfl) (y_len (ts := #[]) Try.runUnderlying23 (o := x3.ptr) (n := x3.len) (cap := x3.cap) rfl) rfl rfl ?_
            refine g_p 3 15 rfl (by kernel_rfl) (y_lss rfl rfl) rfl rfl ?_
            refine g_p 4 31 rfl (by kernel_rfl) (y_move rfl) rfl rfl ?_
            refine g_split (t := 21) rfl (fun g18 => ?_) (fun g18 => ?_)
            · replace H := H.1 g18
              refine g_p 5 63 rfl (by kernel_rfl) (y_move rfl) rfl rfl ?_
              refine g_p 6 127 rfl (by kernel_rfl) (y_move rfl) rfl rfl ?_
              obtain ⟨a19, e20, H⟩ := H
              refine g_p 7 255 rfl (by kernel_rfl) (f_idx (s := x3) Try.runUnderlying23 Try.sizeOf3 rfl rfl e20) rfl rfl ?_
              obtain ⟨y21, k22, H⟩ := H
              refine g_h 8 511 rfl (by kernel_rfl) (y_ld Try.isAgg3 rfl) k22 rfl rfl ?_
              refine g_p 9 1023 rfl (by kernel_rfl) (y_move rfl) rfl rfl ?_
              refine g_p 10 2047 rfl (by kernel_rfl) (y_move rfl) rfl rfl ?_
              obtain ⟨a23, e24, H⟩ := H
              refine g_p 11 4095 rfl (by kernel_rfl) (f_idx (s := x0) Try.runUnderlying23 Try.sizeOf3 rfl rfl e24) rfl rfl ?_
              obtain ⟨y25, k26, H⟩ := H
              refine g_h 12 8191 rfl (by kernel_rfl) (y_ld Try.isAgg3 rfl) k26 rfl rfl ?_
              refine g_p 13 16383 rfl (by kernel_rfl) (y_leq rfl rfl) rfl rfl ?_
              refine g_p 14 32767 rfl (by kernel_rfl) (y_pick_t rfl rfl) rfl rfl ?_
              refine g_d (by kernel_rfl) ?_
              refine tr_thenN ?_
              exact tr_join [(0, x0.enc), (3, x3.enc), (4, (.int .i64 x4)), (5, (.int .i64 x5)), (31, (.bool (decide (y21 ≤ y25))))] ⟨rfl, rfl, rfl, rfl, rfl, trivial⟩ ⟨_, _, _, _, _, rfl, H⟩
            · replace H := H.2 g18
              refine g_s 5 63 rfl (by kernel_rfl) rfl rfl ?_
              refine g_s 6 127 rfl (by kernel_rfl) rfl rfl ?_
              refine g_s 7 255 rfl (by kernel_rfl) rfl rfl ?_
              refine g_s 8 511 rfl (by kernel_rfl) rfl rfl ?_
              refine g_s 9 1023 rfl (by kernel_rfl) rfl rfl ?_
              refine g_s 10 2047 rfl (by kernel_rfl) rfl rfl ?_
              refine g_s 11 4095 rfl (by kernel_rfl) rfl rfl ?_
              refine g_s 12 8191 rfl (by kernel_rfl) rfl rfl ?_
              refine g_s 13 16383 rfl (by kernel_rfl) rfl rfl ?_
              refine g_p 14 32767 rfl (by kernel_rfl) (y_pick_f rfl rfl) rfl rfl ?_
              refine g_d (by kernel_rfl) ?_
              refine tr_thenN ?_
              exact tr_join [(0, x0.enc), (3, x3.enc), (4, (.int .i64 x4)), (5, (.int .i64 x5)), (31, (.bool false))] ⟨rfl, rfl, rfl, rfl, rfl, trivial⟩ ⟨_, _, _, _, _, rfl, H⟩
    · refine tr_seq_j (fun L' h => ∃ (x0 : Sl) (x3 : Sl) (x4 : Int) (x14 : Bool), L' = [(0, x0.enc), (3, x3.enc), (4, (.int .i64 x4)), (14, (.bool x14))] ∧ F.spatelaw8_rising.j6 Q (F.spatelaw8_rising.l1 Q q1) x0 x3 x4 x14 h) ?_ ?_
      · rintro L' h ⟨x0, x3, x4, x14, rfl, H⟩
        unfold F.spatelaw8_rising.j6 at H
        refine tr_cond rfl (fun g28 => ?_) (fun g28 => ?_)
        · replace H := H.1 g28
          refine tr_skip ?_
          refine tr_thenN ?_
          exact tr_join [(0, x0.enc), (3, x3.enc), (4, (.int .i64 x4))] ⟨rfl, rfl, rfl, trivial⟩ ⟨_, _, _, rfl, H⟩
        · replace H := H.2 g28
          refine tr_exit ?_
          refine tr_thenE ?_
          refine tr_thenE ?_
          refine tr_hit ?_
          refine tr_thenN ?_
          refine tr_seq ?_
          refine tr_region ?_
          refine tr_p (y_move rfl) rfl rfl ?_
          refine tr_p (y_assign rfl) rfl rfl ?_
          refine tr_nil ?_
          refine tr_thenN ?_
          refine tr_ret ?_
          exact tr_ret1 rfl rfl ⟨_, rfl, H⟩
      · refine tr_region ?_
        refine tr_p (y_move rfl) rfl rfl ?_
        refine tr_p (y_move rfl) rfl rfl ?_
        refine tr_p (y_len (ts := #[]) Try.runUnderlying23 (o := x0.ptr) (n := x0.len) (cap := x0.cap) rfl) rfl rfl ?_
        refine tr_p (y_lss rfl rfl) rfl rfl ?_
        refine tr_p (y_move rfl) rfl rfl ?_
        refine tr_split (t := 11) rfl (fun g29 => ?_) (fun g29 => ?_)
        · replace H := H.1 g29
          refine tr_p (y_move rfl) rfl rfl ?_
          refine tr_p (y_lss rfl rfl) rfl rfl ?_
          refine tr_p (y_pick_t rfl rfl) rfl rfl ?_
          refine tr_nil ?_
          refine tr_thenN ?_
          exact tr_join [(0, x0.enc), (3, x3.enc), (4, (.int .i64 x4)), (14, (.bool (decide (x4 < 200))))] ⟨rfl, rfl, rfl, rfl, trivial⟩ ⟨_, _, _, _, rfl, H⟩
        · replace H := H.2 g29
          refine tr_s rfl rfl ?_
          refine tr_s rfl rfl ?_
          refine tr_p (y_pick_f rfl rfl) rfl rfl ?_
          refine tr_nil ?_
          refine tr_thenN ?_
          exact tr_join [(0, x0.enc), (3, x3.enc), (4, (.int .i64 x4)), (14, (.bool false))] ⟨rfl, rfl, rfl, rfl, trivial⟩ ⟨_, _, _, _, rfl, H⟩

def F.spateref8_Lists.j3 (Q : Sl → H → Prop) (C1 : Sl → Sl → Sl → H → Prop) (C2 : Sl → Sl → Sl → Int → Int → H → Prop) (x0 : Sl) (x3 : Sl) (x4 : Sl) (x5 : Int) (x6 : Int) (h : H) : Prop :=
  C2 x0 x3 x4 x5 (IntKind.wrap .i64 (x6 + 1)) h
def F.spateref8_Lists.j4 (Q : Sl → H → Prop) (C1 : Sl → Sl → Sl → H → Prop) (C2 : Sl → Sl → Sl → Int → Int → H → Prop) (x0 : Sl) (x3 : Sl) (x4 : Sl) (x5 : Int) (x6 : Int) (x53 : Bool) (h : H) : Prop :=
  (x53 = true →
  F.spateref8_Lists.j3 Q C1 C2 x0 x3 x4 x6 x6 h) ∧
  (x53 = false →
  F.spateref8_Lists.j3 Q C1 C2 x0 x3 x4 x5 x6 h)
def F.spateref8_Lists.j5 (Q : Sl → H → Prop) (C1 : Sl → Sl → Sl → H → Prop) (x0 : Sl) (x3 : Sl) (x4 : Sl) (x5 : Int) (h : H) : Prop :=
  idxA x4 x5 1 fun a52 =>
  ldI .i64 h a52 fun y54 =>
  idxA x4 x5 1 fun a56 =>
  stH h a56 [(.int .i64 (IntKind.wrap .i64 (y54 + 1)))] fun h58 =>
  C1 x0 x3 x4 h58
def F.spateref8_Lists.j6 (Q : Sl → H → Prop) (C1 : Sl → Sl → Sl → H → Prop) (x0 : Sl) (x3 : Sl) (x4 : Sl) (x5 : Int) (x7 : Int) (x80 : Bool) (h : H) : Prop :=
  (x80 = true →
  newL h #[(.int .i64 x7)] ty_3 1 fun s61 h60 =>
  runL PP (Builtin.append_ #[23, 23] 23 #[x3.enc, s61.enc]) h60 fun s63 h62 =>
  F.spateref8_Lists.j5 Q C1 x0 s63 x4 x5 h62) ∧
  (x80 = false →
  F.spateref8_Lists.j5 Q C1 x0 x3 x4 x5 h)
def F.spateref8_Lists.l2 (Q : Sl → H → Prop) (C1 : Sl → Sl → Sl → H → Prop) : Nat → Sl → Sl → Sl → Int → Int → H → Prop
  | 0, _, _, _, _, _, _ => False
  | q2 + 1, x0, x3, x4, x5, x6, h =>
    ((decide (x6 < (x0.len : Int))) = true →
    idxA x4 x6 1 fun a5 =>
    ldI .i64 h a5 fun y7 =>
    idxA x0 x6 1 fun a9 =>
    ldL h a9 fun y11 =>
    ((decide (y7 < (y11.len : Int))) = true →
    ((decide (x5 < 0)) = true →
    F.spateref8_Lists.j4 Q C1 (F.spateref8_Lists.l2 Q C1 q2) x0 x3 x4 x5 x6 true h) ∧
    ((decide (x5 < 0)) = false →
    idxA x0 x6 1 fun a15 =>
    ldL h a15 fun y17 =>
    idxA x4 x6 1 fun a19 =>
    ldI .i64 h a19 fun y21 =>
    idxA y17 y21 1 fun a23 =>
    ldI .i64 h a23 fun y25 =>
    idxA x0 x5 1 fun a27 =>
    ldL h a27 fun y29 =>
    idxA x4 x5 1 fun a31 =>
    ldI .i64 h a31 fun y33 =>
    idxA y29 y33 1 fun a35 =>
    ldI .i64 h a35 fun y37 =>
    F.spateref8_Lists.j4 Q C1 (F.spateref8_Lists.l2 Q C1 q2) x0 x3 x4 x5 x6 (decide (y25 < y37)) h)) ∧
    ((decide (y7 < (y11.len : Int))) = false →
    F.spateref8_Lists.j4 Q C1 (F.spateref8_Lists.l2 Q C1 q2) x0 x3 x4 x5 x6 false h)) ∧
    ((decide (x6 < (x0.len : Int))) = false →
    ((decide (x5 < 0)) = true →
    Q x3 h) ∧
    ((decide (x5 < 0)) = false →
    idxA x0 x5 1 fun a40 =>
    ldL h a40 fun y42 =>
    idxA x4 x5 1 fun a44 =>
    ldI .i64 h a44 fun y46 =>
    idxA y42 y46 1 fun a48 =>
    ldI .i64 h a48 fun y50 =>
    ((((x3.len : Int) == 0)) = true →
    F.spateref8_Lists.j6 Q C1 x0 x3 x4 x5 y50 true h) ∧
    ((((x3.len : Int) == 0)) = false →
    idxA x3 (IntKind.wrap .i64 ((x3.len : Int) - 1)) 1 fun a65 =>
    ldI .i64 h a65 fun y67 =>
    F.spateref8_Lists.j6 Q C1 x0 x3 x4 x5 y50 ((y67 != y50)) h)))
def F.spateref8_Lists.l1 (Q : Sl → H → Prop) : Nat → Sl → Sl → Sl → H → Prop
  | 0, _, _, _, _ => False
  | q1 + 1, x0, x3, x4, h =>
    ∃ m, F.spateref8_Lists.l2 Q (F.spateref8_Lists.l1 Q q1) m x0 x3 x4 (-1) 0 h
/-- spate/spateref8.Lists -/
def F.spateref8_Lists (p0 : Sl) (h : H) (Q : Sl → H → Prop) : Prop :=
  runL PP (Instr.makeSlice 23 (.int .i64 (p0.len : Int)) (.int .i64 (p0.len : Int))) h fun s2 h1 =>
  ∃ m, F.spateref8_Lists.l1 Q m p0 (⟨none, 0, 0⟩ : Sl) s2 h1
theorem F.spateref8_Lists_ok {p0 : Sl} {h : H} {Q : Sl → H → Prop} (H : F.spateref8_Lists p0 h Q) : Fn PP 17 ([p0.enc] : List Value).toArray h fun r h' => ∃ r0, r = r0.enc ∧ Q r0 h' := by
  unfold F.spateref8_Lists at H
  refine fn_of Try.func17 Try.ntmps17 rfl rfl fun w0 => ?_
  refine tr_sub [(0, p0.enc)] ⟨rfl, trivial⟩ ?_
  refine tr_seq ?_
  refine tr_region ?_
  refine tr_p (y_assign rfl) rfl rfl ?_
  refine tr_nil ?_
  refine tr_thenN ?_
  refine tr_seq ?_
  refine tr_region ?_
  refine tr_p (y_assign rfl) rfl rfl ?_
  refine tr_nil ?_
  refine tr_thenN ?_
  refine tr_seq ?_
  refine tr_region ?_
  refine tr_p (y_move rfl) rfl rfl ?_
  refine tr_p (y_len (ts := #[]) Try.runUnderlying25 (o := p0.ptr) (n := p0.len) (cap := p0.cap) rfl) rfl rfl ?_
  refine tr_e (f_make rfl rfl H) rfl rfl ?_
  rintro _ h1 ⟨s2, rfl, H⟩
  refine tr_p (y_assign rfl) rfl rfl ?_
  refine tr_nil ?_
  refine tr_thenN ?_
  refine tr_block ?_
  obtain ⟨m70, H⟩ := H
  refine tr_sub [(0, p0.enc), (3, (⟨none, 0, 0⟩ : Sl).enc), (4, s2.enc)] ⟨rfl, rfl, rfl, trivial⟩ ?_
  refine tr_loop_j (fun m L' h => ∃ (x0 : Sl) (x3 : Sl) (x4 : Sl), L' = [(0, x0.enc), (3, x3.enc), (4, x4.enc)] ∧ F.spateref8_Lists.l1 Q m x0 x3 x4 h) ?_ ?_ m70 ⟨_, _, _, rfl, H⟩
  · rintro L' h ⟨_, _, _, _, H⟩; exact H
  · rintro q1 L' h ⟨x0, x3, x4, rfl, H⟩
    unfold F.spateref8_Lists.l1 at H
    refine tr_block ?_
    refine tr_seq ?_
    refine tr_region ?_
    refine tr_p (y_assign rfl) rfl rfl ?_
    refine tr_nil ?_
    refine tr_thenN ?_
    refine tr_seq ?_
    refine tr_seq ?_
    refine tr_region ?_
    refine tr_p (y_assign rfl) rfl rfl ?_
    refine tr_nil ?_
    refine tr_thenN ?_
    refine tr_block ?_
    obtain ⟨m69, H⟩ := H
    refine tr_sub [(0, x0.enc), (3, x3.enc), (4, x4.enc), (5, (.int .i64 (-1))), (6, (.int .i64 0))] ⟨rfl, rfl, rfl, rfl, rfl, trivial⟩ ?_
    refine tr_loop_j (fun m L' h => ∃ (x0 : Sl) (x3 : Sl) (x4 : Sl) (x5 : Int) (x6 : Int), L' = [(0, x0.enc), (3, x3.enc), (4, x4.enc), (5, (.int .i64 x5)), (6, (.int .i64 x6))] ∧ F.spateref8_Lists.l2 Q (F.spateref8_Lists.l1 Q q1) m x0 x3 x4 x5 x6 h) ?_ ?_ m69 ⟨_, _, _, _, _, rfl, H⟩
    · rintro L' h ⟨_, _, _, _, _, _, H⟩; exact H
    · rintro q2 L' h ⟨x0, x3, x4, x5, x6, rfl, H⟩
      unfold F.spateref8_Lists.l2 at H
      refine tr_seq ?_
      refine tr_seq ?_
      refine tr_region ?_
      refine tr_p (y_move rfl) rfl rfl ?_
      refine tr_p (y_move rfl) rfl rfl ?_
      refine tr_p (y_len (ts := #[]) Try.runUnderlying25 (o := x0.ptr) (n := x0.len) (cap := x0.cap) rfl) rfl rfl ?_
      refine tr_p (y_lss rfl rfl) rfl rfl ?_
      refine tr_nil ?_
      refine tr_thenN ?_
      refine tr_cond rfl (fun g3 => ?_) (fun g3 => ?_)
      · replace H := H.1 g3
        refine tr_skip ?_
        refine tr_thenN ?_
        refine tr_seq_j (fun L' h => ∃ (x0 : Sl) (x3 : Sl) (x4 : Sl) (x5 : Int) (x6 : Int), L' = [(0, x0.enc), (3, x3.enc), (4, x4.enc), (5, (.int .i64 x5)), (6, (.int .i64 x6))] ∧ F.spateref8_Lists.j3 Q (F.spateref8_Lists.l1 Q q1) (F.spateref8_Lists.l2 Q (F.spateref8_Lists.l1 Q q1) q2) x0 x3 x4 x5 x6 h) ?_ ?_
        · rintro L' h ⟨x0, x3, x4, x5, x6, rfl, H⟩
          unfold F.spateref8_Lists.j3 at H
          refine tr_region ?_
          refine tr_p (y_move rfl) rfl rfl ?_
          refine tr_p (y_add rfl rfl) rfl rfl ?_
          refine tr_p (y_assign rfl) rfl rfl ?_
          refine tr_nil ?_
          refine tr_thenN ?_
          exact tr_join [(0, x0.enc), (3, x3.enc), (4, x4.enc), (5, (.int .i64 x5)), (6, (.int .i64 (IntKind.wrap .i64 (x6 + 1))))] ⟨rfl, rfl, rfl, rfl, rfl, trivial⟩ ⟨_, _, _, _, _, rfl, H⟩
        · refine tr_block ?_
          refine tr_seq_j (fun L' h => ∃ (x0 : Sl) (x3 : Sl) (x4 : Sl) (x5 : Int) (x6 : Int) (x53 : Bool), L' = [(0, x0.enc), (3, x3.enc), (4, x4.enc), (5, (.int .i64 x5)), (6, (.int .i64 x6)), (53, (.bool x53))] ∧ F.spateref8_Lists.j4 Q (F.spateref8_Lists.l1 Q q1) (F.spateref8_Lists.l2 Q (F.spateref8_Lists.l1 Q q1) q2) x0 x3 x4 x5 x6 x53 h) ?_ ?_
          · rintro L' h ⟨x0, x3, x4, x5, x6, x53, rfl, H⟩
            unfold F.spateref8_Lists.j4 at H
            refine tr_cond rfl (fun g4 => ?_) (fun g4 => ?_)
            · replace H := H.1 g4
              refine tr_region ?_
              refine tr_p (y_move rfl) rfl rfl ?_
              refine tr_p (y_assign rfl) rfl rfl ?_
              refine tr_nil ?_
              refine tr_blockN ?_
              refine tr_thenN ?_
              exact tr_join [(0, x0.enc), (3, x3.enc), (4, x4.enc), (5, (.int .i64 x6)), (6, (.int .i64 x6))] ⟨rfl, rfl, rfl, rfl, rfl, trivial⟩ ⟨_, _, _, _, _, rfl, H⟩
            · replace H := H.2 g4
              refine tr_skip ?_
              refine tr_blockN ?_
              refine tr_thenN ?_
              exact tr_join [(0, x0.enc), (3, x3.enc), (4, x4.enc), (5, (.int .i64 x5)), (6, (.int .i64 x6))] ⟨rfl, rfl, rfl, rfl, rfl, trivial⟩ ⟨_, _, _, _, _, rfl, H⟩
          · refine tr_draw mixed [0, 0, 3, 7, 0, 0, 48, 112, 240, 511, 1023, 2047, 4095, 8191, 16383, 16383, 65535, 131071, 16383, 16383, 802815, 1851391, 4194303, 8388607, 16383, 16383, 50348031, 117456895, 16383, 16383, 805322751, 1879064575, 4278206463, 8573173759, 17179869183, 34359738367, 68719476735] (by kernel_rfl) ?_
            refine g_p 0 1 rfl (by kernel_rfl) (y_move rfl) rfl rfl ?_
            refine g_p 1 3 rfl (by kernel_rfl) (y_move rfl) rfl rfl ?_
            obtain ⟨a5, e6, H⟩ := H
            refine g_p 2 7 rfl (by kernel_rfl) (f_idx (s := x4) Try.runUnderlying23 Try.sizeOf3 rfl rfl e6) rfl rfl ?_
            obtain ⟨y7, k8, H⟩ := H
            refine g_h 3 15 rfl (by kernel_rfl) (y_ld Try.isAgg3 rfl) k8 rfl rfl ?_
            refine g_p 4 31 rfl (by kernel_rfl) (y_move rfl) rfl rfl ?_
            refine g_p 5 63 rfl (by kernel_rfl) (y_move rfl) rfl rfl ?_
            obtain ⟨a9, e10, H⟩ := H
            refine g_p 6 127 rfl (by kernel_rfl) (f_idx (s := x0) Try.runUnderlying25 Try.sizeOf23 rfl rfl e10) rfl rfl ?_
            obtain ⟨y11, k12, H⟩ := H
            refine g_h 7 255 rfl (by kernel_rfl) (y_ld Try.isAgg23 rfl) k12 rfl rfl ?_
            refine g_p 8 511 rfl (by kernel_rfl) (y_len (ts := #[]) Try.runUnderlying23 (o := y11.ptr) (n := y11.len) (cap := y11.cap) rfl) rfl rfl ?_
            refine g_p 9 1023 rfl (by kernel_rfl) (y_lss rfl rfl) rfl rfl ?_
            refine g_p 10 2047 rfl (by kernel_rfl) (y_move rfl) rfl rfl ?_
            refine g_split (t := 27) rfl (fun g13 => ?_) (fun g13 => ?_)
            · replace H := H.1 g13
              refine g_p 11 4095 rfl (by kernel_rfl) (y_move rfl) rfl rfl ?_
              refine g_p 12 8191 rfl (by kernel_rfl) (y_lss rfl rfl) rfl rfl ?_
              refine g_p 13 16383 rfl (by kernel_rfl) (y_move rfl) rfl rfl ?_
              refine g_split (t := 30) rfl (fun g14 => ?_) (fun g14 => ?_)
              · replace H := H.1 g14
                refine g_s 14 32767 rfl (by kernel_rfl) rfl rfl ?_
                refine g_s 15 65535 rfl (by kernel_rfl) rfl rfl ?_
                refine g_s 16 131071 rfl (by kernel_rfl) rfl rfl ?_
                refine g_s 17 262143 rfl (by kernel_rfl) rfl rfl ?_
                refine g_s 18 524287 rfl (by kernel_rfl) rfl rfl ?_
                refine g_s 19 1048575 rfl (by kernel_rfl) rfl rfl ?_
                refine g_s 20 2097151 rfl (by kernel_rfl) rfl rfl ?_
                refine g_s 21 4194303 rfl (by kernel_rfl) rfl rfl ?_
                refine g_s 22 8388607 rfl (by kernel_rfl) rfl rfl ?_
                refine g_s 23 16777215 rfl (by kernel_rfl) rfl rfl ?_
                refine g_s 24 33554431 rfl (by kernel_rfl) rfl rfl ?_
                refine g_s 25 67108863 rfl (by kernel_rfl) rfl rfl ?_
                refine g_s 26 134217727 rfl (by kernel_rfl) rfl rfl ?_
                refine g_s 27 268435455 rfl (by kernel_rfl) rfl rfl ?_
                refine g_s 28 536870911 rfl (by kernel_rfl) rfl rfl ?_
                refine g_s 29 1073741823 rfl (by kernel_rfl) rfl rfl ?_
                refine g_s 30 2147483647 rfl (by kernel_rfl) rfl rfl ?_
                refine g_s 31 4294967295 rfl (by kernel_rfl) rfl rfl ?_
                refine g_s 32 8589934591 rfl (by kernel_rfl) rfl rfl ?_
                refine g_s 33 17179869183 rfl (by kernel_rfl) rfl rfl ?_
                refine g_s 34 34359738367 rfl (by kernel_rfl) rfl rfl ?_
                refine g_p 35 68719476735 rfl (by kernel_rfl) (y_pick_t rfl rfl) rfl rfl ?_
                refine g_p 36 137438953471 rfl (by kernel_rfl) (y_pick_t rfl rfl) rfl rfl ?_
                refine g_d (by kernel_rfl) ?_
                refine tr_thenN ?_
                exact tr_join [(0, x0.enc), (3, x3.enc), (4, x4.enc), (5, (.int .i64 x5)), (6, (.int .i64 x6)), (53, (.bool true))] ⟨rfl, rfl, rfl, rfl, rfl, rfl, trivial⟩ ⟨_, _, _, _, _, _, rfl, H⟩
              · replace H := H.2 g14
                refine g_p 14 32767 rfl (by kernel_rfl) (y_move rfl) rfl rfl ?_
                refine g_p 15 65535 rfl (by kernel_rfl) (y_move rfl) rfl rfl ?_
                obtain ⟨a15, e16, H⟩ := H
                refine g_p 16 131071 rfl (by kernel_rfl) (f_idx (s := x0) Try.runUnderlying25 Try.sizeOf23 rfl rfl e16) rfl rfl ?_
                obtain ⟨y17, k18, H⟩ := H
                refine g_h 17 262143 rfl (by kernel_rfl) (y_ld Try.isAgg23 rfl) k18 rfl rfl ?_
                refine g_p 18 524287 rfl (by kernel_rfl) (y_move rfl) rfl rfl ?_
                refine g_p 19 1048575 rfl (by kernel_rfl) (y_move rfl) rfl rfl ?_
                obtain ⟨a19, e20, H⟩ := H
                refine g_p 20 2097151 rfl (by kernel_rfl) (f_idx (s := x4) Try.runUnderlying23 Try.sizeOf3 rfl rfl e20) rfl rfl ?_
                obtain ⟨y21, k22, H⟩ := H
                refine g_h 21 4194303 rfl (by kernel_rfl) (y_ld Try.isAgg3 rfl) k22 rfl rfl ?_
                obtain ⟨a23, e24, H⟩ := H
                refine g_p 22 8388607 rfl (by kernel_rfl) (f_idx (s := y17) Try.runUnderlying23 Try.sizeOf3 rfl rfl e24) rfl rfl ?_
                obtain ⟨y25, k26, H⟩ := H
                refine g_h 23 16777215 rfl (by kernel_rfl) (y_ld Try.isAgg3 rfl) k26 rfl rfl ?_
                refine g_p 24 33554431 rfl (by kernel_rfl) (y_move rfl) rfl rfl ?_
                refine g_p 25 67108863 rfl (by kernel_rfl) (y_move rfl) rfl rfl ?_
                obtain ⟨a27, e28, H⟩ := H
                refine g_p 26 134217727 rfl (by kernel_rfl) (f_idx (s := x0) Try.runUnderlying25 Try.sizeOf23 rfl rfl e28) rfl rfl ?_
                obtain ⟨y29, k30, H⟩ := H
                refine g_h 27 268435455 rfl (by kernel_rfl) (y_ld Try.isAgg23 rfl) k30 rfl rfl ?_
                refine g_p 28 536870911 rfl (by kernel_rfl) (y_move rfl) rfl rfl ?_
                refine g_p 29 1073741823 rfl (by kernel_rfl) (y_move rfl) rfl rfl ?_
                obtain ⟨a31, e32, H⟩ := H
                refine g_p 30 2147483647 rfl (by kernel_rfl) (f_idx (s := x4) Try.runUnderlying23 Try.sizeOf3 rfl rfl e32) rfl rfl ?_
                obtain ⟨y33, k34, H⟩ := H
                refine g_h 31 4294967295 rfl (by kernel_rfl) (y_ld Try.isAgg3 rfl) k34 rfl rfl ?_
                obtain ⟨a35, e36, H⟩ := H
                refine g_p 32 8589934591 rfl (by kernel_rfl) (f_idx (s := y29) Try.runUnderlying23 Try.sizeOf3 rfl rfl e36) rfl rfl ?_
                obtain ⟨y37, k38, H⟩ := H
                refine g_h 33 17179869183 rfl (by kernel_rfl) (y_ld Try.isAgg3 rfl) k38 rfl rfl ?_
                refine g_p 34 34359738367 rfl (by kernel_rfl) (y_lss rfl rfl) rfl rfl ?_
                refine g_p 35 68719476735 rfl (by kernel_rfl) (y_pick_f rfl rfl) rfl rfl ?_
                refine g_p 36 137438953471 rfl (by kernel_rfl) (y_pick_t rfl rfl) rfl rfl ?_
                refine g_d (by kernel_rfl) ?_
                refine tr_thenN ?_
                exact tr_join [(0, x0.enc), (3, x3.enc), (4, x4.enc), (5, (.int .i64 x5)), (6, (.int .i64 x6)), (53, (.bool (decide (y25 < y37))))] ⟨rfl, rfl, rfl, rfl, rfl, rfl, trivial⟩ ⟨_, _, _, _, _, _, rfl, H⟩
            · replace H := H.2 g13
              refine g_s 11 4095 rfl (by kernel_rfl) rfl rfl ?_
              refine g_s 12 8191 rfl (by kernel_rfl) rfl rfl ?_
              refine g_s 13 16383 rfl (by kernel_rfl) rfl rfl ?_
              refine g_s 14 32767 rfl (by kernel_rfl) rfl rfl ?_
              refine g_s 15 65535 rfl (by kernel_rfl) rfl rfl ?_
              refine g_s 16 131071 rfl (by kernel_rfl) rfl rfl ?_
              refine g_s 17 262143 rfl (by kernel_rfl) rfl rfl ?_
              refine g_s 18 524287 rfl (by kernel_rfl) rfl rfl ?_
              refine g_s 19 1048575 rfl (by kernel_rfl) rfl rfl ?_
              refine g_s 20 2097151 rfl (by kernel_rfl) rfl rfl ?_
              refine g_s 21 4194303 rfl (by kernel_rfl) rfl rfl ?_
              refine g_s 22 8388607 rfl (by kernel_rfl) rfl rfl ?_
              refine g_s 23 16777215 rfl (by kernel_rfl) rfl rfl ?_
              refine g_s 24 33554431 rfl (by kernel_rfl) rfl rfl ?_
              refine g_s 25 67108863 rfl (by kernel_rfl) rfl rfl ?_
              refine g_s 26 134217727 rfl (by kernel_rfl) rfl rfl ?_
              refine g_s 27 268435455 rfl (by kernel_rfl) rfl rfl ?_
              refine g_s 28 536870911 rfl (by kernel_rfl) rfl rfl ?_
              refine g_s 29 1073741823 rfl (by kernel_rfl) rfl rfl ?_
              refine g_s 30 2147483647 rfl (by kernel_rfl) rfl rfl ?_
              refine g_s 31 4294967295 rfl (by kernel_rfl) rfl rfl ?_
              refine g_s 32 8589934591 rfl (by kernel_rfl) rfl rfl ?_
              refine g_s 33 17179869183 rfl (by kernel_rfl) rfl rfl ?_
              refine g_s 34 34359738367 rfl (by kernel_rfl) rfl rfl ?_
              refine g_s 35 68719476735 rfl (by kernel_rfl) rfl rfl ?_
              refine g_p 36 137438953471 rfl (by kernel_rfl) (y_pick_f rfl rfl) rfl rfl ?_
              refine g_d (by kernel_rfl) ?_
              refine tr_thenN ?_
              exact tr_join [(0, x0.enc), (3, x3.enc), (4, x4.enc), (5, (.int .i64 x5)), (6, (.int .i64 x6)), (53, (.bool false))] ⟨rfl, rfl, rfl, rfl, rfl, rfl, trivial⟩ ⟨_, _, _, _, _, _, rfl, H⟩
      · replace H := H.2 g3
        refine tr_exit ?_
        refine tr_thenE ?_
        refine tr_thenE ?_
        refine tr_hit ?_
        refine tr_thenN ?_
        refine tr_seq ?_
        refine tr_seq ?_
        refine tr_region ?_
        refine tr_p (y_move rfl) rfl rfl ?_
        refine tr_p (y_lss rfl rfl) rfl rfl ?_
        refine tr_nil ?_
        refine tr_thenN ?_
        refine tr_cond rfl (fun g39 => ?_) (fun g39 => ?_)
        · replace H := H.1 g39
          refine tr_seq ?_
          refine tr_region ?_
          refine tr_p (y_move rfl) rfl rfl ?_
          refine tr_p (y_assign rfl) rfl rfl ?_
          refine tr_nil ?_
          refine tr_thenN ?_
          refine tr_ret ?_
          refine tr_thenR ?_
          refine tr_blockR ?_
          refine tr_thenR ?_
          refine tr_blockR ?_
          exact tr_ret1 rfl rfl ⟨_, rfl, H⟩
        · replace H := H.2 g39
          refine tr_skip ?_
          refine tr_thenN ?_
          refine tr_seq ?_
          refine tr_draw mixed [0, 0, 3, 7, 0, 0, 48, 112, 255, 511, 1023] (by kernel_rfl) ?_
          refine g_p 0 1 rfl (by kernel_rfl) (y_move rfl) rfl rfl ?_
          refine g_p 1 3 rfl (by kernel_rfl) (y_move rfl) rfl rfl ?_
          obtain ⟨a40, e41, H⟩ := H
          refine g_p 2 7 rfl (by kernel_rfl) (f_idx (s := x0) Try.runUnderlying25 Try.sizeOf23 rfl rfl e41) rfl rfl ?_
          obtain ⟨y42, k43, H⟩ := H
          refine g_h 3 15 rfl (by kernel_rfl) (y_ld Try.isAgg23 rfl) k43 rfl rfl ?_
          refine g_p 4 31 rfl (by kernel_rfl) (y_move rfl) rfl rfl ?_
          refine g_p 5 63 rfl (by kernel_rfl) (y_move rfl) rfl rfl ?_
          obtain ⟨a44, e45, H⟩ := H
          refine g_p 6 127 rfl (by kernel_rfl) (f_idx (s := x4) Try.runUnderlying23 Try.sizeOf3 rfl rfl e45) rfl rfl ?_
          obtain ⟨y46, k47, H⟩ := H
          refine g_h 7 255 rfl (by kernel_rfl) (y_ld Try.isAgg3 rfl) k47 rfl rfl ?_
          obtain ⟨a48, e49, H⟩ := H
          refine g_p 8 511 rfl (by kernel_rfl) (f_idx (s := y42) Try.runUnderlying23 Try.sizeOf3 rfl rfl e49) rfl rfl ?_
          obtain ⟨y50, k51, H⟩ := H
          refine g_h 9 1023 rfl (by kernel_rfl) (y_ld Try.isAgg3 rfl) k51 rfl rfl ?_
          refine g_p 10 2047 rfl (by kernel_rfl) (y_assign rfl) rfl rfl ?_
          refine g_d (by kernel_rfl) ?_
          refine tr_thenN ?_
          refine tr_seq_j (fun L' h => ∃ (x0 : Sl) (x3 : Sl) (x4 : Sl) (x5 : Int), L' = [(0, x0.enc), (3, x3.enc), (4, x4.enc), (5, (.int .i64 x5))] ∧ F.spateref8_Lists.j5 Q (F.spateref8_Lists.l1 Q q1) x0 x3 x4 x5 h) ?_ ?_
          · rintro L' h ⟨x0, x3, x4, x5, rfl, H⟩
            unfold F.spateref8_Lists.j5 at H
            refine tr_region ?_
            refine tr_p (y_move rfl) rfl rfl ?_
            refine tr_p (y_move rfl) rfl rfl ?_
            obtain ⟨a52, e53, H⟩ := H
            refine tr_p (f_idx (s := x4) Try.runUnderlying23 Try.sizeOf3 rfl rfl e53) rfl rfl ?_
            obtain ⟨y54, k55, H⟩ := H
            refine tr_h (y_ld Try.isAgg3 rfl) k55 rfl rfl ?_
            refine tr_p (y_add rfl rfl) rfl rfl ?_
            obtain ⟨a56, e57, H⟩ := H
            refine tr_p (f_idx (s := x4) Try.runUnderlying23 Try.sizeOf3 rfl rfl e57) rfl rfl ?_
            refine tr_e (f_store (vs := [(.int .i64 (IntKind.wrap .i64 (y54 + 1)))]) Try.sizeOf3 rfl rfl rfl rfl (one1 rfl) H) rfl rfl ?_
            rintro _ h58 ⟨rfl, H⟩
            refine tr_nil ?_
            refine tr_blockN ?_
            refine tr_thenN ?_
            exact tr_join [(0, x0.enc), (3, x3.enc), (4, x4.enc)] ⟨rfl, rfl, rfl, trivial⟩ ⟨_, _, _, rfl, H⟩
          · refine tr_seq_j (fun L' h => ∃ (x0 : Sl) (x3 : Sl) (x4 : Sl) (x5 : Int) (x7 : Int) (x80 : Bool), L' = [(0, x0.enc), (3, x3.enc), (4, x4.enc), (5, (.int .i64 x5)), (7, (.int .i64 x7)), (80, (.bool x80))] ∧ F.spateref8_Lists.j6 Q (F.spateref8_Lists.l1 Q q1) x0 x3 x4 x5 x7 x80 h) ?_ ?_
            · rintro L' h ⟨x0, x3, x4, x5, x7, x80, rfl, H⟩
              unfold F.spateref8_Lists.j6 at H
              refine tr_cond rfl (fun g59 => ?_) (fun g59 => ?_)
              · replace H := H.1 g59
                refine tr_region ?_
                refine tr_p (y_move rfl) rfl rfl ?_
                refine tr_p (y_move rfl) rfl rfl ?_
                refine tr_e (f_buildL (cs := #[(.int .i64 x7)]) rfl rfl (bl_23_1_0 x7) H) rfl rfl ?_
                rintro _ h60 ⟨s61, rfl, H⟩
                refine tr_e (f_app rfl H) rfl rfl ?_
                rintro _ h62 ⟨s63, rfl, H⟩
                refine tr_p (y_assign rfl) rfl rfl ?_
                refine tr_nil ?_
                refine tr_thenN ?_
                exact tr_join [(0, x0.enc), (3, s63.enc), (4, x4.enc), (5, (.int .i64 x5))] ⟨rfl, rfl, rfl, rfl, trivial⟩ ⟨_, _, _, _, rfl, H⟩
              · replace H := H.2 g59
                refine tr_skip ?_
                refine tr_thenN ?_
                exact tr_join [(0, x0.enc), (3, x3.enc), (4, x4.enc), (5, (.int .i64 x5))] ⟨rfl, rfl, rfl, rfl, trivial⟩ ⟨_, _, _, _, rfl, H⟩
            · refine tr_region ?_
              refine tr_p (y_move rfl) rfl rfl ?_
              refine tr_p (y_len (ts := #[]) Try.runUnderlying23 (o := x3.ptr) (n := x3.len) (cap := x3.cap) rfl) rfl rfl ?_
              refine tr_p (y_eql rfl rfl) rfl rfl ?_
              refine tr_p (y_move rfl) rfl rfl ?_
              refine tr_split (t := 71) rfl (fun g64 => ?_) (fun g64 => ?_)
              · replace H := H.1 g64
                refine tr_s rfl rfl ?_
                refine tr_s rfl rfl ?_
                refine tr_s rfl rfl ?_
                refine tr_s rfl rfl ?_
                refine tr_s rfl rfl ?_
                refine tr_s rfl rfl ?_
                refine tr_s rfl rfl ?_
                refine tr_s rfl rfl ?_
                refine tr_p (y_pick_t rfl rfl) rfl rfl ?_
                refine tr_nil ?_
                refine tr_thenN ?_
                exact tr_join [(0, x0.enc), (3, x3.enc), (4, x4.enc), (5, (.int .i64 x5)), (7, (.int .i64 y50)), (80, (.bool true))] ⟨rfl, rfl, rfl, rfl, rfl, rfl, trivial⟩ ⟨_, _, _, _, _, _, rfl, H⟩
              · replace H := H.2 g64
                refine tr_p (y_move rfl) rfl rfl ?_
                refine tr_p (y_move rfl) rfl rfl ?_
                refine tr_p (y_len (ts := #[]) Try.runUnderlying23 (o := x3.ptr) (n := x3.len) (cap := x3.cap) rfl) rfl rfl ?_
                refine tr_p (y_sub rfl rfl) rfl rfl ?_
                obtain ⟨a65, e66, H⟩ := H
                refine tr_p (f_idx (s := x3) Try.runUnderlying23 Try.sizeOf3 rfl rfl e66) rfl rfl ?_
                obtain ⟨y67, k68, H⟩ := H
                refine tr_h (y_ld Try.isAgg3 rfl) k68 rfl rfl ?_
                refine tr_p (y_move rfl) rfl rfl ?_
                refine tr_p (y_neq rfl rfl) rfl rfl ?_
                refine tr_p (y_pick_f rfl rfl) rfl rfl ?_
                refine tr_nil ?_
                refine tr_thenN ?_
                exact tr_join [(0, x0.enc), (3, x3.enc), (4, x4.enc), (5, (.int .i64 x5)), (7, (.int .i64 y50)), (80, (.bool ((y67 != y50))))] ⟨rfl, rfl, rfl, rfl, rfl, rfl, trivial⟩ ⟨_, _, _, _, _, _, rfl, H⟩

def F.spatelaw8_words.l2 (Q : Sl → H → Prop) (C1 : Sl → Sl → Int → H → Prop) : Nat → Sl → Sl → Int → Int → Sl → Int → H → Prop
  | 0, _, _, _, _, _, _, _ => False
  | q2 + 1, x0, x3, x4, x5, x6, x7, h =>
    ((decide (x7 < 8)) = true →
    0 ≤ ((IntKind.wrap .i64 (56 - (IntKind.wrap .i64 (8 * x7)))) : Int) ∧
    idxA x6 x7 1 fun a10 =>
    stH h a10 [(.int .u8 (IntKind.wrap .u8 (Int.fdiv x5 (2 ^ (min ((IntKind.wrap .i64 (56 - (IntKind.wrap .i64 (8 * x7)))) : Int).toNat (IntKind.bits .u64)) : Int))))] fun h12 =>
    (F.spatelaw8_words.l2 Q C1 q2) x0 x3 x4 x5 x6 (IntKind.wrap .i64 (x7 + 1)) h12) ∧
    ((decide (x7 < 8)) = false →
    runT PP (convert 47 9 x6.enc) h fun s14 h13 =>
    newL h13 #[(.string s14)] ty_9 1 fun s16 h15 =>
    runL PP (Builtin.append_ #[29, 29] 29 #[x3.enc, s16.enc]) h15 fun s18 h17 =>
    C1 x0 s18 (IntKind.wrap .i64 (x4 + 1)) h17)
def F.spatelaw8_words.l1 (Q : Sl → H → Prop) : Nat → Sl → Sl → Int → H → Prop
  | 0, _, _, _, _ => False
  | q1 + 1, x0, x3, x4, h =>
    ((decide (x4 < (x0.len : Int))) = true →
    idxA x0 x4 1 fun a2 =>
    ldI .i64 h a2 fun y4 =>
    runL PP (Instr.makeSlice 47 (.int .i64 8) (.int .i64 8)) h fun s7 h6 =>
    ∃ m, F.spatelaw8_words.l2 Q (F.spatelaw8_words.l1 Q q1) m x0 x3 x4 (IntKind.wrap .u64 ((IntKind.wrap .u64 y4) + 9223372036854775808)) s7 0 h6) ∧
    ((decide (x4 < (x0.len : Int))) = false →
    Q x3 h)
/-- spate/spatelaw8.words -/
def F.spatelaw8_words (p0 : Sl) (h : H) (Q : Sl → H → Prop) : Prop :=
  ∃ m, F.spatelaw8_words.l1 Q m p0 (⟨none, 0, 0⟩ : Sl) 0 h
theorem F.spatelaw8_words_ok {p0 : Sl} {h : H} {Q : Sl → H → Prop} (H : F.spatelaw8_words p0 h Q) : Fn PP 21 ([p0.enc] : List Value).toArray h fun r h' => ∃ r0, r = r0.enc ∧ Q r0 h' := by
  unfold F.spatelaw8_words at H
  refine fn_of Try.func21 Try.ntmps21 rfl rfl fun w0 => ?_
  refine tr_sub [(0, p0.enc)] ⟨rfl, trivial⟩ ?_
  refine tr_seq ?_
  refine tr_region ?_
  refine tr_p (y_assign rfl) rfl rfl ?_
  refine tr_nil ?_
  refine tr_thenN ?_
  refine tr_seq ?_
  refine tr_region ?_
  refine tr_p (y_assign rfl) rfl rfl ?_
  refine tr_nil ?_
  refine tr_thenN ?_
  refine tr_seq ?_
  refine tr_seq ?_
  refine tr_region ?_
  refine tr_p (y_assign rfl) rfl rfl ?_
  refine tr_nil ?_
  refine tr_thenN ?_
  refine tr_block ?_
  obtain ⟨m20, H⟩ := H
  refine tr_sub [(0, p0.enc), (3, (⟨none, 0, 0⟩ : Sl).enc), (4, (.int .i64 0))] ⟨rfl, rfl, rfl, trivial⟩ ?_
  refine tr_loop_j (fun m L' h => ∃ (x0 : Sl) (x3 : Sl) (x4 : Int), L' = [(0, x0.enc), (3, x3.enc), (4, (.int .i64 x4))] ∧ F.spatelaw8_words.l1 Q m x0 x3 x4 h) ?_ ?_ m20 ⟨_, _, _, rfl, H⟩
  · rintro L' h ⟨_, _, _, _, H⟩; exact H
  · rintro q1 L' h ⟨x0, x3, x4, rfl, H⟩
    unfold F.spatelaw8_words.l1 at H
    refine tr_seq ?_
    refine tr_seq ?_
    refine tr_region ?_
    refine tr_p (y_move rfl) rfl rfl ?_
    refine tr_p (y_move rfl) rfl rfl ?_
    refine tr_p (y_len (ts := #[]) Try.runUnderlying23 (o := x0.ptr) (n := x0.len) (cap := x0.cap) rfl) rfl rfl ?_
    refine tr_p (y_lss rfl rfl) rfl rfl ?_
    refine tr_nil ?_
    refine tr_thenN ?_
    refine tr_cond rfl (fun g1 => ?_) (fun g1 => ?_)
    · replace H := H.1 g1
      refine tr_skip ?_
      refine tr_thenN ?_
      refine tr_seq ?_
      refine tr_block ?_
      refine tr_seq ?_
      refine tr_region ?_
      refine tr_p (y_move rfl) rfl rfl ?_
      refine tr_p (y_move rfl) rfl rfl ?_
      obtain ⟨a2, e3, H⟩ := H
      refine tr_p (f_idx (s := x0) Try.runUnderlying23 Try.sizeOf3 rfl rfl e3) rfl rfl ?_
      obtain ⟨y4, k5, H⟩ := H
      refine tr_h (y_ld Try.isAgg3 rfl) k5 rfl rfl ?_
      refine tr_p (y_cvt Try.runUnderlying3 Try.runUnderlying76 rfl) rfl rfl ?_
      refine tr_p (y_add rfl rfl) rfl rfl ?_
      refine tr_p (y_assign rfl) rfl rfl ?_
      refine tr_nil ?_
      refine tr_thenN ?_
      refine tr_seq ?_
      refine tr_region ?_
      refine tr_e (f_make rfl rfl H) rfl rfl ?_
      rintro _ h6 ⟨s7, rfl, H⟩
      refine tr_p (y_assign rfl) rfl rfl ?_
      refine tr_nil ?_
      refine tr_thenN ?_
      refine tr_seq ?_
      refine tr_seq ?_
      refine tr_region ?_
      refine tr_p (y_assign rfl) rfl rfl ?_
      refine tr_nil ?_
      refine tr_thenN ?_
      refine tr_block ?_
      obtain ⟨m19, H⟩ := H
      refine tr_sub [(0, x0.enc), (3, x3.enc), (4, (.int .i64 x4)), (5, (.int .u64 (IntKind.wrap .u64 ((IntKind.wrap .u64 y4) + 9223372036854775808)))), (6, s7.enc), (7, (.int .i64 0))] ⟨rfl, rfl, rfl, rfl, rfl, rfl, trivial⟩ ?_
      refine tr_loop_j (fun m L' h => ∃ (x0 : Sl) (x3 : Sl) (x4 : Int) (x5 : Int) (x6 : Sl) (x7 : Int), L' = [(0, x0.enc), (3, x3.enc), (4, (.int .i64 x4)), (5, (.int .u64 x5)), (6, x6.enc), (7, (.int .i64 x7))] ∧ F.spatelaw8_words.l2 Q (F.spatelaw8_words.l1 Q q1) m x0 x3 x4 x5 x6 x7 h) ?_ ?_ m19 ⟨_, _, _, _, _, _, rfl, H⟩
      · rintro L' h ⟨_, _, _, _, _, _, _, H⟩; exact H
      · rintro q2 L' h ⟨x0, x3, x4, x5, x6, x7, rfl, H⟩
        unfold F.spatelaw8_words.l2 at H
        refine tr_seq ?_
        refine tr_seq ?_
        refine tr_region ?_
        refine tr_p (y_move rfl) rfl rfl ?_
        refine tr_p (y_lss rfl rfl) rfl rfl ?_
        refine tr_nil ?_
        refine tr_thenN ?_
        refine tr_cond rfl (fun g8 => ?_) (fun g8 => ?_)
        · replace H := H.1 g8
          refine tr_skip ?_
          refine tr_thenN ?_
          refine tr_seq ?_
          refine tr_block ?_
          refine tr_region ?_
          refine tr_p (y_move rfl) rfl rfl ?_
          refine tr_p (y_move rfl) rfl rfl ?_
          refine tr_p (y_move rfl) rfl rfl ?_
          refine tr_p (y_move rfl) rfl rfl ?_
          refine tr_p (y_mul rfl rfl) rfl rfl ?_
          refine tr_p (y_sub rfl rfl) rfl rfl ?_
          obtain ⟨e9, H⟩ := H
          refine tr_p (y_shr rfl rfl e9) rfl rfl ?_
          refine tr_p (y_cvt Try.runUnderlying76 Try.runUnderlying5 rfl) rfl rfl ?_
          obtain ⟨a10, e11, H⟩ := H
          refine tr_p (f_idx (s := x6) Try.runUnderlying47 Try.sizeOf5 rfl rfl e11) rfl rfl ?_
          refine tr_e (f_store (vs := [(.int .u8 (IntKind.wrap .u8 (Int.fdiv x5 (2 ^ (min ((IntKind.wrap .i64 (56 - (IntKind.wrap .i64 (8 * x7)))) : Int).toNat (IntKind.bits .u64)) : Int))))]) Try.sizeOf5 rfl rfl rfl rfl (one1 rfl) H) rfl rfl ?_
          rintro _ h12 ⟨rfl, H⟩
          refine tr_nil ?_
          refine tr_blockN ?_
          refine tr_thenN ?_
          refine tr_region ?_
          refine tr_p (y_move rfl) rfl rfl ?_
          refine tr_p (y_add rfl rfl) rfl rfl ?_
          refine tr_p (y_assign rfl) rfl rfl ?_
          refine tr_nil ?_
          refine tr_thenN ?_
          exact tr_join [(0, x0.enc), (3, x3.enc), (4, (.int .i64 x4)), (5, (.int .u64 x5)), (6, x6.enc), (7, (.int .i64 (IntKind.wrap .i64 (x7 + 1))))] ⟨rfl, rfl, rfl, rfl, rfl, rfl, trivial⟩ ⟨_, _, _, _, _, _, rfl, H⟩
        · replace H := H.2 g8
          refine tr_exit ?_
          refine tr_thenE ?_
          refine tr_thenE ?_
          refine tr_hit ?_
          refine tr_thenN ?_
          refine tr_region ?_
          refine tr_p (y_move rfl) rfl rfl ?_
          refine tr_p (y_move rfl) rfl rfl ?_
          refine tr_e (f_cvtT rfl H) rfl rfl ?_
          rintro _ h13 ⟨s14, rfl, H⟩
          refine tr_e (f_buildL (cs := #[(.string s14)]) rfl rfl (bl_29_1_0 s14) H) rfl rfl ?_
          rintro _ h15 ⟨s16, rfl, H⟩
          refine tr_e (f_app rfl H) rfl rfl ?_
          rintro _ h17 ⟨s18, rfl, H⟩
          refine tr_p (y_assign rfl) rfl rfl ?_
          refine tr_nil ?_
          refine tr_blockN ?_
          refine tr_thenN ?_
          refine tr_region ?_
          refine tr_p (y_move rfl) rfl rfl ?_
          refine tr_p (y_add rfl rfl) rfl rfl ?_
          refine tr_p (y_assign rfl) rfl rfl ?_
          refine tr_nil ?_
          refine tr_thenN ?_
          exact tr_join [(0, x0.enc), (3, s18.enc), (4, (.int .i64 (IntKind.wrap .i64 (x4 + 1))))] ⟨rfl, rfl, rfl, trivial⟩ ⟨_, _, _, rfl, H⟩
    · replace H := H.2 g1
      refine tr_exit ?_
      refine tr_thenE ?_
      refine tr_thenE ?_
      refine tr_hit ?_
      refine tr_thenN ?_
      refine tr_seq ?_
      refine tr_region ?_
      refine tr_p (y_move rfl) rfl rfl ?_
      refine tr_p (y_assign rfl) rfl rfl ?_
      refine tr_nil ?_
      refine tr_thenN ?_
      refine tr_ret ?_
      exact tr_ret1 rfl rfl ⟨_, rfl, H⟩

def F.merge_two_string.j4 (Q : Sl → H → Prop) (C1 : Sl → Sl → Sl → H → Prop) (x0 : Sl) (x1 : Sl) (x5 : Sl) (x6 : ByteArray) (x54 : Bool) (h : H) : Prop :=
  (x54 = true →
  newL h #[(.string x6)] ty_9 1 fun s3 h2 =>
  runL PP (Builtin.append_ #[29, 29] 29 #[x5.enc, s3.enc]) h2 fun s5 h4 =>
  C1 x0 x1 s5 h4) ∧
  (x54 = false →
  C1 x0 x1 x5 h)
def F.merge_two_string.j3 (Q : Sl → H → Prop) (C1 : Sl → Sl → Sl → H → Prop) (x0 : Sl) (x1 : Sl) (x5 : Sl) (x6 : ByteArray) (h : H) : Prop :=
  ((((x5.len : Int) == 0)) = true →
  F.merge_two_string.j4 Q C1 x0 x1 x5 x6 true h) ∧
  ((((x5.len : Int) == 0)) = false →
  idxA x5 (IntKind.wrap .i64 ((x5.len : Int) - 1)) 1 fun a7 =>
  ldS h a7 fun y9 =>
  F.merge_two_string.j4 Q C1 x0 x1 x5 x6 (!(y9.toList == x6.toList)) h)
def F.merge_two_string.j5 (Q : Sl → H → Prop) (C1 : Sl → Sl → Sl → H → Prop) (x0 : Sl) (x1 : Sl) (x5 : Sl) (x31 : Bool) (h : H) : Prop :=
  (x31 = true →
  idxA x0 0 1 fun a12 =>
  ldS h a12 fun y14 =>
  cutL x0 1 (x0.len : Int) 1 fun s17 =>
  F.merge_two_string.j3 Q C1 s17 x1 x5 y14 h) ∧
  (x31 = false →
  idxA x1 0 1 fun a18 =>
  ldS h a18 fun y20 =>
  cutL x1 1 (x1.len : Int) 1 fun s23 =>
  F.merge_two_string.j3 Q C1 x0 s23 x5 y20 h)
def F.merge_two_string.j2 (Q : Sl → H → Prop) (C1 : Sl → Sl → Sl → H → Prop) (x0 : Sl) (x1 : Sl) (x5 : Sl) (h : H) : Prop :=
  ((((x1.len : Int) == 0)) = true →
  F.merge_two_string.j5 Q C1 x0 x1 x5 true h) ∧
  ((((x1.len : Int) == 0)) = false →
  ((decide ((x0.len : Int) > 0)) = true →
  idxA x0 0 1 fun a26 =>
  ldS h a26 fun y28 =>
  idxA x1 0 1 fun a30 =>
  ldS h a30 fun y32 =>
  F.merge_two_string.j5 Q C1 x0 x1 x5 (Op.bytesLess y28.toList y32.toList || (y28.toList == y32.toList)) h) ∧
  ((decide ((x0.len : Int) > 0)) = false →
  F.merge_two_string.j5 Q C1 x0 x1 x5 false h))
def F.merge_two_string.j6 (Q : Sl → H → Prop) (C1 : Sl → Sl → Sl → H → Prop) (x0 : Sl) (x1 : Sl) (x5 : Sl) (x14 : Bool) (h : H) : Prop :=
  (x14 = true →
  F.merge_two_string.j2 Q C1 x0 x1 x5 h) ∧
  (x14 = false →
  Q x5 h)
def F.merge_two_string.l1 (Q : Sl → H → Prop) : Nat → Sl → Sl → Sl → H → Prop
  | 0, _, _, _, _ => False
  | q1 + 1, x0, x1, x5, h =>
    ((decide ((x0.len : Int) > 0)) = true →
    F.merge_two_string.j6 Q (F.merge_two_string.l1 Q q1) x0 x1 x5 true h) ∧
    ((decide ((x0.len : Int) > 0)) = false →
    F.merge_two_string.j6 Q (F.merge_two_string.l1 Q q1) x0 x1 x5 (decide ((x1.len : Int) > 0)) h)
/-- spate/merge.two[string] -/
def F.merge_two_string (p0 : Sl) (p1 : Sl) (h : H) (Q : Sl → H → Prop) : Prop :=
  ∃ m, F.merge_two_string.l1 Q m p0 p1 (⟨none, 0, 0⟩ : Sl) h
theorem F.merge_two_string_ok {p0 : Sl} {p1 : Sl} {h : H} {Q : Sl → H → Prop} (H : F.merge_two_string p0 p1 h Q) : Fn PP 39 ([p0.enc, p1.enc] : List Value).toArray h fun r h' => ∃ r0, r = r0.enc ∧ Q r0 h' := by
  unfold F.merge_two_string at H
  refine fn_of Try.func39 Try.ntmps39 rfl rfl fun w0 => ?_
  refine tr_sub [(0, p0.enc), (1, p1.enc)] ⟨rfl, rfl, trivial⟩ ?_
  refine tr_seq ?_
  refine tr_region ?_
  refine tr_p (y_assign rfl) rfl rfl ?_
  refine tr_nil ?_
  refine tr_thenN ?_
  refine tr_seq ?_
  refine tr_region ?_
  refine tr_p (y_assign rfl) rfl rfl ?_
  refine tr_nil ?_
  refine tr_thenN ?_
  refine tr_seq ?_
  refine tr_block ?_
  obtain ⟨m36, H⟩ := H
  refine tr_sub [(0, p0.enc), (1, p1.enc), (5, (⟨none, 0, 0⟩ : Sl).enc)] ⟨rfl, rfl, rfl, trivial⟩ ?_
  refine tr_loop_j (fun m L' h => ∃ (x0 : Sl) (x1 : Sl) (x5 : Sl), L' = [(0, x0.enc), (1, x1.enc), (5, x5.enc)] ∧ F.merge_two_string.l1 Q m x0 x1 x5 h) ?_ ?_ m36 ⟨_, _, _, rfl, H⟩
  · rintro L' h ⟨_, _, _, _, H⟩; exact H
  · rintro q1 L' h ⟨x0, x1, x5, rfl, H⟩
    unfold F.merge_two_string.l1 at H
    refine tr_seq_j (fun L' h => ∃ (x0 : Sl) (x1 : Sl) (x5 : Sl), L' = [(0, x0.enc), (1, x1.enc), (5, x5.enc)] ∧ F.merge_two_string.j2 Q (F.merge_two_string.l1 Q q1) x0 x1 x5 h) ?_ ?_
    · rintro L' h ⟨x0, x1, x5, rfl, H⟩
      unfold F.merge_two_string.j2 at H
      refine tr_block ?_
      refine tr_seq ?_
      refine tr_region ?_
      refine tr_p (y_assign rfl) rfl rfl ?_
      refine tr_nil ?_
      refine tr_thenN ?_
      refine tr_seq_j (fun L' h => ∃ (x0 : Sl) (x1 : Sl) (x5 : Sl) (x6 : ByteArray), L' = [(0, x0.enc), (1, x1.enc), (5, x5.enc), (6, (.string x6))] ∧ F.merge_two_string.j3 Q (F.merge_two_string.l1 Q q1) x0 x1 x5 x6 h) ?_ ?_
      · rintro L' h ⟨x0, x1, x5, x6, rfl, H⟩
        unfold F.merge_two_string.j3 at H
        refine tr_seq_j (fun L' h => ∃ (x0 : Sl) (x1 : Sl) (x5 : Sl) (x6 : ByteArray) (x54 : Bool), L' = [(0, x0.enc), (1, x1.enc), (5, x5.enc), (6, (.string x6)), (54, (.bool x54))] ∧ F.merge_two_string.j4 Q (F.merge_two_string.l1 Q q1) x0 x1 x5 x6 x54 h) ?_ ?_
        · rintro L' h ⟨x0, x1, x5, x6, x54, rfl, H⟩
          unfold F.merge_two_string.j4 at H
          refine tr_cond rfl (fun g1 => ?_) (fun g1 => ?_)
          · replace H := H.1 g1
            refine tr_region ?_
            refine tr_p (y_move rfl) rfl rfl ?_
            refine tr_p (y_move rfl) rfl rfl ?_
            refine tr_e (f_buildL (cs := #[(.string x6)]) rfl rfl (bl_29_1_0 x6) H) rfl rfl ?_
            rintro _ h2 ⟨s3, rfl, H⟩
            refine tr_e (f_app rfl H) rfl rfl ?_
            rintro _ h4 ⟨s5, rfl, H⟩
            refine tr_p (y_assign rfl) rfl rfl ?_
            refine tr_nil ?_
            refine tr_blockN ?_
            refine tr_thenN ?_
            exact tr_join [(0, x0.enc), (1, x1.enc), (5, s5.enc)] ⟨rfl, rfl, rfl, trivial⟩ ⟨_, _, _, rfl, H⟩
          · replace H := H.2 g1
            refine tr_skip ?_
            refine tr_blockN ?_
            refine tr_thenN ?_
            exact tr_join [(0, x0.enc), (1, x1.enc), (5, x5.enc)] ⟨rfl, rfl, rfl, trivial⟩ ⟨_, _, _, rfl, H⟩
        · refine tr_region ?_
          refine tr_p (y_move rfl) rfl rfl ?_
          refine tr_p (y_len (ts := #[]) Try.runUnderlying29 (o := x5.ptr) (n := x5.len) (cap := x5.cap) rfl) rfl rfl ?_
          refine tr_p (y_eql rfl rfl) rfl rfl ?_
          refine tr_p (y_move rfl) rfl rfl ?_
          refine tr_split (t := 45) rfl (fun g6 => ?_) (fun g6 => ?_)
          · replace H := H.1 g6
            refine tr_s rfl rfl ?_
            refine tr_s rfl rfl ?_
            refine tr_s rfl rfl ?_
            refine tr_s rfl rfl ?_
            refine tr_s rfl rfl ?_
            refine tr_s rfl rfl ?_
            refine tr_s rfl rfl ?_
            refine tr_s rfl rfl ?_
            refine tr_p (y_pick_t rfl rfl) rfl rfl ?_
            refine tr_nil ?_
            refine tr_thenN ?_
            exact tr_join [(0, x0.enc), (1, x1.enc), (5, x5.enc), (6, (.string x6)), (54, (.bool true))] ⟨rfl, rfl, rfl, rfl, rfl, trivial⟩ ⟨_, _, _, _, _, rfl, H⟩
          · replace H := H.2 g6
            refine tr_p (y_move rfl) rfl rfl ?_
            refine tr_p (y_move rfl) rfl rfl ?_
            refine tr_p (y_len (ts := #[]) Try.runUnderlying29 (o := x5.ptr) (n := x5.len) (cap := x5.cap) rfl) rfl rfl ?_
            refine tr_p (y_sub rfl rfl) rfl rfl ?_
            obtain ⟨a7, e8, H⟩ := H
            refine tr_p (f_idx (s := x5) Try.runUnderlying29 Try.sizeOf9 rfl rfl e8) rfl rfl ?_
            obtain ⟨y9, k10, H⟩ := H
            refine tr_h (y_ld Try.isAgg9 rfl) k10 rfl rfl ?_
            refine tr_p (y_move rfl) rfl rfl ?_
            refine tr_p (y_sneq rfl rfl) rfl rfl ?_
            refine tr_p (y_pick_f rfl rfl) rfl rfl ?_
            refine tr_nil ?_
            refine tr_thenN ?_
            exact tr_join [(0, x0.enc), (1, x1.enc), (5, x5.enc), (6, (.string x6)), (54, (.bool (!(y9.toList == x6.toList))))] ⟨rfl, rfl, rfl, rfl, rfl, trivial⟩ ⟨_, _, _, _, _, rfl, H⟩
      · refine tr_seq_j (fun L' h => ∃ (x0 : Sl) (x1 : Sl) (x5 : Sl) (x31 : Bool), L' = [(0, x0.enc), (1, x1.enc), (5, x5.enc), (31, (.bool x31))] ∧ F.merge_two_string.j5 Q (F.merge_two_string.l1 Q q1) x0 x1 x5 x31 h) ?_ ?_
        · rintro L' h ⟨x0, x1, x5, x31, rfl, H⟩
          unfold F.merge_two_string.j5 at H
          refine tr_cond rfl (fun g11 => ?_) (fun g11 => ?_)
          · replace H := H.1 g11
            refine tr_draw mixed [0, 1, 3, 0, 8, 7, 63] (by kernel_rfl) ?_
            refine g_p 0 1 rfl (by kernel_rfl) (y_move rfl) rfl rfl ?_
            obtain ⟨a12, e13, H⟩ := H
            refine g_p 1 3 rfl (by kernel_rfl) (f_idx (s := x0) Try.runUnderlying29 Try.sizeOf9 rfl rfl e13) rfl rfl ?_
            obtain ⟨y14, k15, H⟩ := H
            refine g_h 2 7 rfl (by kernel_rfl) (y_ld Try.isAgg9 rfl) k15 rfl rfl ?_
            refine g_p 3 15 rfl (by kernel_rfl) (y_move rfl) rfl rfl ?_
            obtain ⟨s17, e16, H⟩ := H
            refine g_p 4 31 rfl (by kernel_rfl) (f_cutL (s := x0) (some (.i64, 1)) none Try.runUnderlying29 Try.sizeOf9 rfl rfl rfl e16) rfl rfl ?_
            refine g_p 5 63 rfl (by kernel_rfl) (y_assign rfl) rfl rfl ?_
            refine g_e 6 127 [] (by kernel_rfl) rfl (by kernel_rfl) (yp_ev (y_assign rfl)) rfl rfl ?_
            rintro _ _ ⟨rfl, rfl⟩
            refine ⟨trivial, ?_⟩
            refine g_d (by kernel_rfl) ?_
            refine tr_thenN ?_
            exact tr_join [(0, s17.enc), (1, x1.enc), (5, x5.enc), (6, (.string y14))] ⟨rfl, rfl, rfl, rfl, trivial⟩ ⟨_, _, _, _, rfl, H⟩
          · replace H := H.2 g11
            refine tr_draw mixed [0, 1, 3, 0, 8, 7, 63] (by kernel_rfl) ?_
            refine g_p 0 1 rfl (by kernel_rfl) (y_move rfl) rfl rfl ?_
            obtain ⟨a18, e19, H⟩ := H
            refine g_p 1 3 rfl (by kernel_rfl) (f_idx (s := x1) Try.runUnderlying29 Try.sizeOf9 rfl rfl e19) rfl rfl ?_
            obtain ⟨y20, k21, H⟩ := H
            refine g_h 2 7 rfl (by kernel_rfl) (y_ld Try.isAgg9 rfl) k21 rfl rfl ?_
            refine g_p 3 15 rfl (by kernel_rfl) (y_move rfl) rfl rfl ?_
            obtain ⟨s23, e22, H⟩ := H
            refine g_p 4 31 rfl (by kernel_rfl) (f_cutL (s := x1) (some (.i64, 1)) none Try.runUnderlying29 Try.sizeOf9 rfl rfl rfl e22) rfl rfl ?_
            refine g_p 5 63 rfl (by kernel_rfl) (y_assign rfl) rfl rfl ?_
            refine g_e 6 127 [] (by kernel_rfl) rfl (by kernel_rfl) (yp_ev (y_assign rfl)) rfl rfl ?_
            rintro _ _ ⟨rfl, rfl⟩
            refine ⟨trivial, ?_⟩
            refine g_d (by kernel_rfl) ?_
            refine tr_thenN ?_
            exact tr_join [(0, x0.enc), (1, s23.enc), (5, x5.enc), (6, (.string y20))] ⟨rfl, rfl, rfl, rfl, trivial⟩ ⟨_, _, _, _, rfl, H⟩
        · refine tr_draw mixed [0, 1, 3, 7, 15, 31, 63, 127, 255, 511, 1023, 255, 2303, 6399, 16383, 32767, 65535] (by kernel_rfl) ?_
          refine g_p 0 1 rfl (by kernel_rfl) (y_move rfl) rfl rfl ?_
          refine g_p 1 3 rfl (by kernel_rfl) (y_len (ts := #[]) Try.runUnderlying29 (o := x1.ptr) (n := x1.len) (cap := x1.cap) rfl) rfl rfl ?_
          refine g_p 2 7 rfl (by kernel_rfl) (y_eql rfl rfl) rfl rfl ?_
          refine g_p 3 15 rfl (by kernel_rfl) (y_move rfl) rfl rfl ?_
          refine g_split (t := 18) rfl (fun g24 => ?_) (fun g24 => ?_)
          · replace H := H.1 g24
            refine g_s 4 31 rfl (by kernel_rfl) rfl rfl ?_
            refine g_s 5 63 rfl (by kernel_rfl) rfl rfl ?_
            refine g_s 6 127 rfl (by kernel_rfl) rfl rfl ?_
            refine g_s 7 255 rfl (by kernel_rfl) rfl rfl ?_
            refine g_s 8 511 rfl (by kernel_rfl) rfl rfl ?_
            refine g_s 9 1023 rfl (by kernel_rfl) rfl rfl ?_
            refine g_s 10 2047 rfl (by kernel_rfl) rfl rfl ?_
            refine g_s 11 4095 rfl (by kernel_rfl) rfl rfl ?_
            refine g_s 12 8191 rfl (by kernel_rfl) rfl rfl ?_
            refine g_s 13 16383 rfl (by kernel_rfl) rfl rfl ?_
            refine g_s 14 32767 rfl (by kernel_rfl) rfl rfl ?_
            refine g_s 15 65535 rfl (by kernel_rfl) rfl rfl ?_
            refine g_p 16 131071 rfl (by kernel_rfl) (y_pick_t rfl rfl) rfl rfl ?_
            refine g_d (by kernel_rfl) ?_
            refine tr_thenN ?_
            exact tr_join [(0, x0.enc), (1, x1.enc), (5, x5.enc), (31, (.bool true))] ⟨rfl, rfl, rfl, rfl, trivial⟩ ⟨_, _, _, _, rfl, H⟩
          · replace H := H.2 g24
            refine g_p 4 31 rfl (by kernel_rfl) (y_move rfl) rfl rfl ?_
            refine g_p 5 63 rfl (by kernel_rfl) (y_len (ts := #[]) Try.runUnderlying29 (o := x0.ptr) (n := x0.len) (cap := x0.cap) rfl) rfl rfl ?_
            refine g_p 6 127 rfl (by kernel_rfl) (y_gtr rfl rfl) rfl rfl ?_
            refine g_p 7 255 rfl (by kernel_rfl) (y_move rfl) rfl rfl ?_
            refine g_split (t := 22) rfl (fun g25 => ?_) (fun g25 => ?_)
            · replace H := H.1 g25
              refine g_p 8 511 rfl (by kernel_rfl) (y_move rfl) rfl rfl ?_
              obtain ⟨a26, e27, H⟩ := H
              refine g_p 9 1023 rfl (by kernel_rfl) (f_idx (s := x0) Try.runUnderlying29 Try.sizeOf9 rfl rfl e27) rfl rfl ?_
              obtain ⟨y28, k29, H⟩ := H
              refine g_h 10 2047 rfl (by kernel_rfl) (y_ld Try.isAgg9 rfl) k29 rfl rfl ?_
              refine g_p 11 4095 rfl (by kernel_rfl) (y_move rfl) rfl rfl ?_
              obtain ⟨a30, e31, H⟩ := H
              refine g_p 12 8191 rfl (by kernel_rfl) (f_idx (s := x1) Try.runUnderlying29 Try.sizeOf9 rfl rfl e31) rfl rfl ?_
              obtain ⟨y32, k33, H⟩ := H
              refine g_h 13 16383 rfl (by kernel_rfl) (y_ld Try.isAgg9 rfl) k33 rfl rfl ?_
              refine g_p 14 32767 rfl (by kernel_rfl) (y_sleq rfl rfl) rfl rfl ?_
              refine g_p 15 65535 rfl (by kernel_rfl) (y_pick_t rfl rfl) rfl rfl ?_
              refine g_p 16 131071 rfl (by kernel_rfl) (y_pick_f rfl rfl) rfl rfl ?_
              refine g_d (by kernel_rfl) ?_
              refine tr_thenN ?_
              exact tr_join [(0, x0.enc), (1, x1.enc), (5, x5.enc), (31, (.bool (Op.bytesLess y28.toList y32.toList || (y28.toList == y32.toList))))] ⟨rfl, rfl, rfl, rfl, trivial⟩ ⟨_, _, _, _, rfl, H⟩
            · replace H := H.2 g25
              refine g_s 8 511 rfl (by kernel_rfl) rfl rfl ?_
              refine g_s 9 1023 rfl (by kernel_rfl) rfl rfl ?_
              refine g_s 10 2047 rfl (by kernel_rfl) rfl rfl ?_
              refine g_s 11 4095 rfl (by kernel_rfl) rfl rfl ?_
              refine g_s 12 8191 rfl (by kernel_rfl) rfl rfl ?_
              refine g_s 13 16383 rfl (by kernel_rfl) rfl rfl ?_
              refine g_s 14 32767 rfl (by kernel_rfl) rfl rfl ?_
              refine g_p 15 65535 rfl (by kernel_rfl) (y_pick_f rfl rfl) rfl rfl ?_
              refine g_p 16 131071 rfl (by kernel_rfl) (y_pick_f rfl rfl) rfl rfl ?_
              refine g_d (by kernel_rfl) ?_
              refine tr_thenN ?_
              exact tr_join [(0, x0.enc), (1, x1.enc), (5, x5.enc), (31, (.bool false))] ⟨rfl, rfl, rfl, rfl, trivial⟩ ⟨_, _, _, _, rfl, H⟩
    · refine tr_seq_j (fun L' h => ∃ (x0 : Sl) (x1 : Sl) (x5 : Sl) (x14 : Bool), L' = [(0, x0.enc), (1, x1.enc), (5, x5.enc), (14, (.bool x14))] ∧ F.merge_two_string.j6 Q (F.merge_two_string.l1 Q q1) x0 x1 x5 x14 h) ?_ ?_
      · rintro L' h ⟨x0, x1, x5, x14, rfl, H⟩
        unfold F.merge_two_string.j6 at H
        refine tr_cond rfl (fun g34 => ?_) (fun g34 => ?_)
        · replace H := H.1 g34
          refine tr_skip ?_
          refine tr_thenN ?_
          exact tr_join [(0, x0.enc), (1, x1.enc), (5, x5.enc)] ⟨rfl, rfl, rfl, trivial⟩ ⟨_, _, _, rfl, H⟩
        · replace H := H.2 g34
          refine tr_exit ?_
          refine tr_thenE ?_
          refine tr_thenE ?_
          refine tr_hit ?_
          refine tr_thenN ?_
          refine tr_seq ?_
          refine tr_region ?_
          refine tr_p (y_move rfl) rfl rfl ?_
          refine tr_p (y_assign rfl) rfl rfl ?_
          refine tr_nil ?_
          refine tr_thenN ?_
          refine tr_ret ?_
          exact tr_ret1 rfl rfl ⟨_, rfl, H⟩
      · refine tr_region ?_
        refine tr_p (y_move rfl) rfl rfl ?_
        refine tr_p (y_len (ts := #[]) Try.runUnderlying29 (o := x0.ptr) (n := x0.len) (cap := x0.cap) rfl) rfl rfl ?_
        refine tr_p (y_gtr rfl rfl) rfl rfl ?_
        refine tr_p (y_move rfl) rfl rfl ?_
        refine tr_split (t := 10) rfl (fun g35 => ?_) (fun g35 => ?_)
        · replace H := H.1 g35
          refine tr_s rfl rfl ?_
          refine tr_s rfl rfl ?_
          refine tr_s rfl rfl ?_
          refine tr_p (y_pick_t rfl rfl) rfl rfl ?_
          refine tr_nil ?_
          refine tr_thenN ?_
          exact tr_join [(0, x0.enc), (1, x1.enc), (5, x5.enc), (14, (.bool true))] ⟨rfl, rfl, rfl, rfl, trivial⟩ ⟨_, _, _, _, rfl, H⟩
        · replace H := H.2 g35
          refine tr_p (y_move rfl) rfl rfl ?_
          refine tr_p (y_len (ts := #[]) Try.runUnderlying29 (o := x1.ptr) (n := x1.len) (cap := x1.cap) rfl) rfl rfl ?_
          refine tr_p (y_gtr rfl rfl) rfl rfl ?_
          refine tr_p (y_pick_f rfl rfl) rfl rfl ?_
          refine tr_nil ?_
          refine tr_thenN ?_
          exact tr_join [(0, x0.enc), (1, x1.enc), (5, x5.enc), (14, (.bool (decide ((x1.len : Int) > 0))))] ⟨rfl, rfl, rfl, rfl, trivial⟩ ⟨_, _, _, _, rfl, H⟩

/-- spate/merge.Lists[string] -/
def F.merge_Lists_string.fu : Nat → Sl → H → (Sl → H → Prop) → Prop
  | 0, _, _, _ => False
  | m0 + 1, p0, h, Q =>
    ((((p0.len : Int) == 0)) = true →
    Q (⟨none, 0, 0⟩ : Sl) h) ∧
    ((((p0.len : Int) == 0)) = false →
    ((((p0.len : Int) == 1)) = true →
    idxA p0 0 1 fun a3 =>
    ldL h a3 fun y5 =>
    F.merge_two_string y5 (⟨none, 0, 0⟩ : Sl) h fun r8 h7 =>
    Q r8 h7) ∧
    ((((p0.len : Int) == 1)) = false →
    (2 : Int) ≠ 0 ∧
    cutL p0 0 (IntKind.wrap .i64 (Int.tdiv (p0.len : Int) 2)) 1 fun s11 =>
    cutL p0 (IntKind.wrap .i64 (Int.tdiv (p0.len : Int) 2)) (p0.len : Int) 1 fun s13 =>
    (F.merge_Lists_string.fu m0) s11 h fun r15 h14 =>
    (F.merge_Lists_string.fu m0) s13 h14 fun r17 h16 =>
    F.merge_two_string r15 r17 h16 fun r19 h18 =>
    Q r19 h18))
theorem F.merge_Lists_string.fu_ok : ∀ (m0 : Nat) {p0 : Sl} {h : H} {Q : Sl → H → Prop}, F.merge_Lists_string.fu m0 p0 h Q → Fn PP 20 ([p0.enc] : List Value).toArray h fun r h' => ∃ r0, r = r0.enc ∧ Q r0 h' := by
  intro m0
  induction m0 with
  | zero => intro p0 h Q H; unfold F.merge_Lists_string.fu at H; exact H.elim
  | succ m0 IH =>
  intro p0 h Q H
  unfold F.merge_Lists_string.fu at H
  refine fn_of Try.func20 Try.ntmps20 rfl rfl fun w0 => ?_
  refine tr_sub [(0, p0.enc)] ⟨rfl, trivial⟩ ?_
  refine tr_seq ?_
  refine tr_region ?_
  refine tr_p (y_assign rfl) rfl rfl ?_
  refine tr_nil ?_
  refine tr_thenN ?_
  refine tr_seq ?_
  refine tr_seq ?_
  refine tr_region ?_
  refine tr_p (y_move rfl) rfl rfl ?_
  refine tr_p (y_len (ts := #[]) Try.runUnderlying74 (o := p0.ptr) (n := p0.len) (cap := p0.cap) rfl) rfl rfl ?_
  refine tr_nil ?_
  refine tr_thenN ?_
  refine tr_block ?_
  refine tr_seq ?_
  refine tr_region ?_
  refine tr_p (y_eql rfl rfl) rfl rfl ?_
  refine tr_p (y_assign rfl) rfl rfl ?_
  refine tr_nil ?_
  refine tr_thenN ?_
  refine tr_cond rfl (fun g1 => ?_) (fun g1 => ?_)
  · replace H := H.1 g1
    refine tr_seq ?_
    refine tr_region ?_
    refine tr_p (y_assign rfl) rfl rfl ?_
    refine tr_nil ?_
    refine tr_thenN ?_
    refine tr_ret ?_
    refine tr_blockR ?_
    refine tr_thenR ?_
    exact tr_ret1 rfl rfl ⟨_, rfl, H⟩
  · replace H := H.2 g1
    refine tr_seq ?_
    refine tr_region ?_
    refine tr_p (y_eql rfl rfl) rfl rfl ?_
    refine tr_p (y_assign rfl) rfl rfl ?_
    refine tr_nil ?_
    refine tr_thenN ?_
    refine tr_cond rfl (fun g2 => ?_) (fun g2 => ?_)
    · replace H := H.1 g2
      refine tr_seq ?_
      refine tr_region ?_
      refine tr_p (y_move rfl) rfl rfl ?_
      obtain ⟨a3, e4, H⟩ := H
      refine tr_p (f_idx (s := p0) Try.runUnderlying74 Try.sizeOf29 rfl rfl e4) rfl rfl ?_
      obtain ⟨y5, k6, H⟩ := H
      refine tr_h (y_ld Try.isAgg29 rfl) k6 rfl rfl ?_
      refine tr_e (e_call Try.call39 rfl (F.merge_two_string_ok H)) rfl rfl ?_
      rintro _ h7 ⟨r8, rfl, H⟩
      refine tr_p (y_assign rfl) rfl rfl ?_
      refine tr_nil ?_
      refine tr_thenN ?_
      refine tr_ret ?_
      refine tr_blockR ?_
      refine tr_thenR ?_
      exact tr_ret1 rfl rfl ⟨_, rfl, H⟩
    · replace H := H.2 g2
      refine tr_skip ?_
      refine tr_blockN ?_
      refine tr_thenN ?_
      refine tr_seq ?_
      refine tr_region ?_
      refine tr_p (y_move rfl) rfl rfl ?_
      refine tr_p (y_len (ts := #[]) Try.runUnderlying74 (o := p0.ptr) (n := p0.len) (cap := p0.cap) rfl) rfl rfl ?_
      obtain ⟨e9, H⟩ := H
      refine tr_p (y_quo rfl rfl e9) rfl rfl ?_
      refine tr_p (y_assign rfl) rfl rfl ?_
      refine tr_nil ?_
      refine tr_thenN ?_
      refine tr_seq ?_
      refine tr_draw mixed [0, 0, 3, 7, 0, 0, 48, 127, 255, 511] (by kernel_rfl) ?_
      refine g_p 0 1 rfl (by kernel_rfl) (y_move rfl) rfl rfl ?_
      refine g_p 1 3 rfl (by kernel_rfl) (y_move rfl) rfl rfl ?_
      obtain ⟨s11, e10, H⟩ := H
      refine g_p 2 7 rfl (by kernel_rfl) (f_cutL (s := p0) none (some (.i64, (IntKind.wrap .i64 (Int.tdiv (p0.len : Int) 2)))) Try.runUnderlying74 Try.sizeOf29 rfl rfl rfl e10) rfl rfl ?_
      refine g_p 4 23 rfl (by kernel_rfl) (y_move rfl) rfl rfl ?_
      refine g_p 5 55 rfl (by kernel_rfl) (y_move rfl) rfl rfl ?_
      obtain ⟨s13, e12, H⟩ := H
      refine g_p 6 119 rfl (by kernel_rfl) (f_cutL (s := p0) (some (.i64, (IntKind.wrap .i64 (Int.tdiv (p0.len : Int) 2)))) none Try.runUnderlying74 Try.sizeOf29 rfl rfl rfl e12) rfl rfl ?_
      refine g_e 3 127 [] (by kernel_rfl) rfl (by kernel_rfl) (e_call Try.call20 rfl (IH H)) rfl rfl ?_
      rintro _ h14 ⟨r15, rfl, H⟩
      refine ⟨trivial, ?_⟩
      refine g_e 7 255 [] (by kernel_rfl) rfl (by kernel_rfl) (e_call Try.call20 rfl (IH H)) rfl rfl ?_
      rintro _ h16 ⟨r17, rfl, H⟩
      refine ⟨trivial, ?_⟩
      refine g_e 8 511 [] (by kernel_rfl) rfl (by kernel_rfl) (e_call Try.call39 rfl (F.merge_two_string_ok H)) rfl rfl ?_
      rintro _ h18 ⟨r19, rfl, H⟩
      refine ⟨trivial, ?_⟩
      refine g_p 9 1023 rfl (by kernel_rfl) (y_assign rfl) rfl rfl ?_
      refine g_d (by kernel_rfl) ?_
      refine tr_thenN ?_
      refine tr_ret ?_
      exact tr_ret1 rfl rfl ⟨_, rfl, H⟩
def F.merge_Lists_string (p0 : Sl) (h : H) (Q : Sl → H → Prop) : Prop := ∃ m0, F.merge_Lists_string.fu m0 p0 h Q
theorem F.merge_Lists_string_ok {p0 : Sl} {h : H} {Q : Sl → H → Prop} (H : F.merge_Lists_string p0 h Q) : Fn PP 20 ([p0.enc] : List Value).toArray h fun r h' => ∃ r0, r = r0.enc ∧ Q r0 h' := by
  obtain ⟨m0, H⟩ := H
  exact F.merge_Lists_string.fu_ok m0 H

def F.spatelaw8_same.l1 (Q : Bool → H → Prop) : Nat → Sl → Sl → Int → H → Prop
  | 0, _, _, _, _ => False
  | q1 + 1, x0, x1, x5, h =>
    ((decide (x5 < (x0.len : Int))) = true →
    idxA x0 x5 1 fun a3 =>
    ldI .i64 h a3 fun y5 =>
    idxA x1 x5 1 fun a7 =>
    ldI .i64 h a7 fun y9 =>
    (((y5 != y9)) = true →
    Q false h) ∧
    (((y5 != y9)) = false →
    (F.spatelaw8_same.l1 Q q1) x0 x1 (IntKind.wrap .i64 (x5 + 1)) h)) ∧
    ((decide (x5 < (x0.len : Int))) = false →
    Q true h)
/-- spate/spatelaw8.same -/
def F.spatelaw8_same (p0 : Sl) (p1 : Sl) (h : H) (Q : Bool → H → Prop) : Prop :=
  ((((p0.len : Int) != (p1.len : Int))) = true →
  Q false h) ∧
  ((((p0.len : Int) != (p1.len : Int))) = false →
  ∃ m, F.spatelaw8_same.l1 Q m p0 p1 0 h)
theorem F.spatelaw8_same_ok {p0 : Sl} {p1 : Sl} {h : H} {Q : Bool → H → Prop} (H : F.spatelaw8_same p0 p1 h Q) : Fn PP 19 ([p0.enc, p1.enc] : List Value).toArray h fun r h' => ∃ r0, r = (.bool r0) ∧ Q r0 h' := by
  unfold F.spatelaw8_same at H
  refine fn_of Try.func19 Try.ntmps19 rfl rfl fun w0 => ?_
  refine tr_sub [(0, p0.enc), (1, p1.enc)] ⟨rfl, rfl, trivial⟩ ?_
  refine tr_seq ?_
  refine tr_region ?_
  refine tr_p (y_assign rfl) rfl rfl ?_
  refine tr_nil ?_
  refine tr_thenN ?_
  refine tr_seq ?_
  refine tr_seq ?_
  refine tr_region ?_
  refine tr_p (y_move rfl) rfl rfl ?_
  refine tr_p (y_len (ts := #[]) Try.runUnderlying23 (o := p0.ptr) (n := p0.len) (cap := p0.cap) rfl) rfl rfl ?_
  refine tr_p (y_move rfl) rfl rfl ?_
  refine tr_p (y_len (ts := #[]) Try.runUnderlying23 (o := p1.ptr) (n := p1.len) (cap := p1.cap) rfl) rfl rfl ?_
  refine tr_p (y_neq rfl rfl) rfl rfl ?_
  refine tr_nil ?_
  refine tr_thenN ?_
  refine tr_cond rfl (fun g1 => ?_) (fun g1 => ?_)
  · replace H := H.1 g1
    refine tr_seq ?_
    refine tr_region ?_
    refine tr_p (y_assign rfl) rfl rfl ?_
    refine tr_nil ?_
    refine tr_thenN ?_
    refine tr_ret ?_
    refine tr_thenR ?_
    exact tr_ret1 rfl rfl ⟨_, rfl, H⟩
  · replace H := H.2 g1
    refine tr_skip ?_
    refine tr_thenN ?_
    refine tr_seq ?_
    refine tr_seq ?_
    refine tr_region ?_
    refine tr_p (y_assign rfl) rfl rfl ?_
    refine tr_nil ?_
    refine tr_thenN ?_
    refine tr_block ?_
    obtain ⟨m12, H⟩ := H
    refine tr_sub [(0, p0.enc), (1, p1.enc), (5, (.int .i64 0))] ⟨rfl, rfl, rfl, trivial⟩ ?_
    refine tr_loop_j (fun m L' h => ∃ (x0 : Sl) (x1 : Sl) (x5 : Int), L' = [(0, x0.enc), (1, x1.enc), (5, (.int .i64 x5))] ∧ F.spatelaw8_same.l1 Q m x0 x1 x5 h) ?_ ?_ m12 ⟨_, _, _, rfl, H⟩
    · rintro L' h ⟨_, _, _, _, H⟩; exact H
    · rintro q1 L' h ⟨x0, x1, x5, rfl, H⟩
      unfold F.spatelaw8_same.l1 at H
      refine tr_seq ?_
      refine tr_seq ?_
      refine tr_region ?_
      refine tr_p (y_move rfl) rfl rfl ?_
      refine tr_p (y_move rfl) rfl rfl ?_
      refine tr_p (y_len (ts := #[]) Try.runUnderlying23 (o := x0.ptr) (n := x0.len) (cap := x0.cap) rfl) rfl rfl ?_
      refine tr_p (y_lss rfl rfl) rfl rfl ?_
      refine tr_nil ?_
      refine tr_thenN ?_
      refine tr_cond rfl (fun g2 => ?_) (fun g2 => ?_)
      · replace H := H.1 g2
        refine tr_skip ?_
        refine tr_thenN ?_
        refine tr_seq ?_
        refine tr_block ?_
        refine tr_seq ?_
        refine tr_draw mixed [0, 0, 3, 7, 0, 0, 48, 112, 255] (by kernel_rfl) ?_
        refine g_p 0 1 rfl (by kernel_rfl) (y_move rfl) rfl rfl ?_
        refine g_p 1 3 rfl (by kernel_rfl) (y_move rfl) rfl rfl ?_
        obtain ⟨a3, e4, H⟩ := H
        refine g_p 2 7 rfl (by kernel_rfl) (f_idx (s := x0) Try.runUnderlying23 Try.sizeOf3 rfl rfl e4) rfl rfl ?_
        obtain ⟨y5, k6, H⟩ := H
        refine g_h 3 15 rfl (by kernel_rfl) (y_ld Try.isAgg3 rfl) k6 rfl rfl ?_
        refine g_p 4 31 rfl (by kernel_rfl) (y_move rfl) rfl rfl ?_
        refine g_p 5 63 rfl (by kernel_rfl) (y_move rfl) rfl rfl ?_
        obtain ⟨a7, e8, H⟩ := H
        refine g_p 6 127 rfl (by kernel_rfl) (f_idx (s := x1) Try.runUnderlying23 Try.sizeOf3 rfl rfl e8) rfl rfl ?_
        obtain ⟨y9, k10, H⟩ := H
        refine g_h 7 255 rfl (by kernel_rfl) (y_ld Try.isAgg3 rfl) k10 rfl rfl ?_
        refine g_p 8 511 rfl (by kernel_rfl) (y_neq rfl rfl) rfl rfl ?_
        refine g_d (by kernel_rfl) ?_
        refine tr_thenN ?_
        refine tr_cond rfl (fun g11 => ?_) (fun g11 => ?_)
        · replace H := H.1 g11
          refine tr_seq ?_
          refine tr_region ?_
          refine tr_p (y_assign rfl) rfl rfl ?_
          refine tr_nil ?_
          refine tr_thenN ?_
          refine tr_ret ?_
          refine tr_blockR ?_
          refine tr_thenR ?_
          refine tr_thenR ?_
          refine tr_blockR ?_
          refine tr_thenR ?_
          exact tr_ret1 rfl rfl ⟨_, rfl, H⟩
        · replace H := H.2 g11
          refine tr_skip ?_
          refine tr_blockN ?_
          refine tr_thenN ?_
          refine tr_region ?_
          refine tr_p (y_move rfl) rfl rfl ?_
          refine tr_p (y_add rfl rfl) rfl rfl ?_
          refine tr_p (y_assign rfl) rfl rfl ?_
          refine tr_nil ?_
          refine tr_thenN ?_
          exact tr_join [(0, x0.enc), (1, x1.enc), (5, (.int .i64 (IntKind.wrap .i64 (x5 + 1))))] ⟨rfl, rfl, rfl, trivial⟩ ⟨_, _, _, rfl, H⟩
      · replace H := H.2 g2
        refine tr_exit ?_
        refine tr_thenE ?_
        refine tr_thenE ?_
        refine tr_hit ?_
        refine tr_thenN ?_
        refine tr_seq ?_
        refine tr_region ?_
        refine tr_p (y_assign rfl) rfl rfl ?_
        refine tr_nil ?_
        refine tr_thenN ?_
        refine tr_ret ?_
        exact tr_ret1 rfl rfl ⟨_, rfl, H⟩

def F.spatelaw8_MergeLists.l3 (Q : Bool → H → Prop) : Nat → Sl → Sl → Int → H → Prop
  | 0, _, _, _, _ => False
  | q3 + 1, x11, x12, x13, h =>
    ((decide (x13 < (x12.len : Int))) = true →
    idxA x11 x13 1 fun a61 =>
    ldS h a61 fun y63 =>
    idxA x12 x13 1 fun a65 =>
    ldS h a65 fun y67 =>
    ((!(y63.toList == y67.toList)) = true →
    Q false h) ∧
    ((!(y63.toList == y67.toList)) = false →
    (F.spatelaw8_MergeLists.l3 Q q3) x11 x12 (IntKind.wrap .i64 (x13 + 1)) h)) ∧
    ((decide (x13 < (x12.len : Int))) = false →
    Q true h)
def F.spatelaw8_MergeLists.j2 (Q : Bool → H → Prop) (x7 : Sl) (x8 : Sl) (h : H) : Prop :=
  idxA x7 0 1 fun a32 =>
  ldL h a32 fun y34 =>
  idxA x7 1 1 fun a36 =>
  ldL h a36 fun y38 =>
  idxA x7 2 1 fun a40 =>
  ldL h a40 fun y42 =>
  F.spatelaw8_words y34 h fun r45 h44 =>
  cellH h44 a40 = some y42.enc ∧
  cellH h44 a36 = some y38.enc ∧
  F.spatelaw8_words y38 h44 fun r49 h48 =>
  cellH h48 a40 = some y42.enc ∧
  F.spatelaw8_words y42 h48 fun r52 h51 =>
  newL h51 #[r45.enc, r49.enc, r52.enc] ty_29 3 fun s54 h53 =>
  F.merge_Lists_string s54 h53 fun r56 h55 =>
  F.spatelaw8_words x8 h55 fun r58 h57 =>
  ((((r56.len : Int) != (r58.len : Int))) = true →
  Q false h57) ∧
  ((((r56.len : Int) != (r58.len : Int))) = false →
  ∃ m, F.spatelaw8_MergeLists.l3 Q m r56 r58 0 h57)
def F.spatelaw8_MergeLists.j4 (Q : Bool → H → Prop) (x7 : Sl) (x8 : Sl) (x82 : Bool) (h : H) : Prop :=
  (x82 = true →
  Q false h) ∧
  (x82 = false →
  F.spatelaw8_MergeLists.j2 Q x7 x8 h)
def F.spatelaw8_MergeLists.j1 (Q : Bool → H → Prop) (x7 : Sl) (x8 : Sl) (x9 : Sl) (h : H) : Prop :=
  idxA x7 0 1 fun a14 =>
  ldL h a14 fun y16 =>
  cutL x9 0 (y16.len : Int) 1 fun s19 =>
  idxA x7 1 1 fun a20 =>
  ldL h a20 fun y22 =>
  idxA x7 2 1 fun a24 =>
  ldL h a24 fun y26 =>
  newL h #[s19.enc, y22.enc, y26.enc] ty_23 3 fun s29 h28 =>
  F.merge_Lists_int s29 h28 fun r31 h30 =>
  F.spatelaw8_same r31 x8 h30 fun r73 h72 =>
  ((!r73) = true →
  F.spatelaw8_MergeLists.j4 Q x7 x8 true h72) ∧
  ((!r73) = false →
  idxA x7 0 1 fun a75 =>
  ldL h72 a75 fun y77 =>
  idxA x9 (y77.len : Int) 1 fun a79 =>
  ldI .i64 h72 a79 fun y81 =>
  (((y81 != (-88))) = true →
  F.spatelaw8_MergeLists.j4 Q x7 x8 true h72) ∧
  (((y81 != (-88))) = false →
  idxA x7 0 1 fun a84 =>
  ldL h72 a84 fun y86 =>
  cutL x9 0 (y86.len : Int) 1 fun s89 =>
  idxA x7 0 1 fun a90 =>
  ldL h72 a90 fun y92 =>
  F.spatelaw8_same s89 y92 h72 fun r95 h94 =>
  ((!r95) = true →
  F.spatelaw8_MergeLists.j4 Q x7 x8 true h94) ∧
  ((!r95) = false →
  F.merge_Lists_int (⟨none, 0, 0⟩ : Sl) h94 fun r98 h97 =>
  F.spatelaw8_MergeLists.j4 Q x7 x8 (((r98.len : Int) != 0)) h97)))
/-- spate/spatelaw8.MergeLists -/
def F.spatelaw8_MergeLists (p0 : Sl) (p1 : Sl) (p2 : Sl) (h : H) (Q : Bool → H → Prop) : Prop :=
  F.spatelaw8_known  h fun r2 h1 =>
  ((!r2) = true →
  Q false h1) ∧
  ((!r2) = false →
  F.spatelaw8_rising p0 h1 fun r5 h4 =>
  F.spatelaw8_rising p1 h4 fun r7 h6 =>
  F.spatelaw8_rising p2 h6 fun r9 h8 =>
  newL h8 #[r5.enc, r7.enc, r9.enc] ty_23 3 fun s11 h10 =>
  F.spateref8_Lists s11 h10 fun r13 h12 =>
  idxA s11 0 1 fun a99 =>
  ldL h12 a99 fun y101 =>
  idxA s11 0 1 fun a103 =>
  ldL h12 a103 fun y105 =>
  (runL PP (Instr.makeSlice 23 (.int .i64 0) (.int .i64 (IntKind.wrap .i64 ((y101.len : Int) + 3)))) h12 fun s108 h107 =>
  cellH h107 a103 = some y105.enc ∧
  (runL PP (Builtin.append_ #[23, 23] 23 #[s108.enc, y105.enc]) h107 fun s111 h110 =>
  newL h110 #[(.int .i64 (-88))] ty_3 1 fun s113 h112 =>
  runL PP (Builtin.append_ #[23, 23] 23 #[s111.enc, s113.enc]) h112 fun s115 h114 =>
  F.spatelaw8_MergeLists.j1 Q s11 r13 s115 h114) ∧
  (newL h107 #[(.int .i64 (-88))] ty_3 1 fun s117 h116 =>
  cellH h116 a103 = some y105.enc ∧
  runL PP (Builtin.append_ #[23, 23] 23 #[s108.enc, y105.enc]) h116 fun s120 h119 =>
  runL PP (Builtin.append_ #[23, 23] 23 #[s120.enc, s117.enc]) h119 fun s122 h121 =>
  F.spatelaw8_MergeLists.j1 Q s11 r13 s122 h121)) ∧
  (newL h12 #[(.int .i64 (-88))] ty_3 1 fun s124 h123 =>
  cellH h123 a103 = some y105.enc ∧
  cellH h123 a99 = some y101.enc ∧
  runL PP (Instr.makeSlice 23 (.int .i64 0) (.int .i64 (IntKind.wrap .i64 ((y101.len : Int) + 3)))) h123 fun s128 h127 =>
  cellH h127 a103 = some y105.enc ∧
  runL PP (Builtin.append_ #[23, 23] 23 #[s128.enc, y105.enc]) h127 fun s131 h130 =>
  runL PP (Builtin.append_ #[23, 23] 23 #[s131.enc, s124.enc]) h130 fun s133 h132 =>
  F.spatelaw8_MergeLists.j1 Q s11 r13 s133 h132))
theorem F.spatelaw8_MergeLists_ok {p0 : Sl} {p1 : Sl} {p2 : Sl} {h : H} {Q : Bool → H → Prop} (H : F.spatelaw8_MergeLists p0 p1 p2 h Q) : Fn PP 4 ([p0.enc, p1.enc, p2.enc] : List Value).toArray h fun r h' => ∃ r0, r = (.bool r0) ∧ Q r0 h' := by
  unfold F.spatelaw8_MergeLists at H
  refine fn_of Try.func4 Try.ntmps4 rfl rfl fun w0 => ?_
  refine tr_sub [(0, p0.enc), (1, p1.enc), (2, p2.enc)] ⟨rfl, rfl, rfl, trivial⟩ ?_
  refine tr_seq ?_
  refine tr_region ?_
  refine tr_p (y_assign rfl) rfl rfl ?_
  refine tr_nil ?_
  refine tr_thenN ?_
  refine tr_seq ?_
  refine tr_seq ?_
  refine tr_region ?_
  refine tr_e (e_call Try.call15 rfl (F.spatelaw8_known_ok H)) rfl rfl ?_
  rintro _ h1 ⟨r2, rfl, H⟩
  refine tr_p (y_not rfl) rfl rfl ?_
  refine tr_nil ?_
  refine tr_thenN ?_
  refine tr_cond rfl (fun g3 => ?_) (fun g3 => ?_)
  · replace H := H.1 g3
    refine tr_seq ?_
    refine tr_region ?_
    refine tr_p (y_assign rfl) rfl rfl ?_
    refine tr_nil ?_
    refine tr_thenN ?_
    refine tr_ret ?_
    refine tr_thenR ?_
    exact tr_ret1 rfl rfl ⟨_, rfl, H⟩
  · replace H := H.2 g3
    refine tr_skip ?_
    refine tr_thenN ?_
    refine tr_seq ?_
    refine tr_region ?_
    refine tr_p (y_move rfl) rfl rfl ?_
    refine tr_e (e_call Try.call16 rfl (F.spatelaw8_rising_ok H)) rfl rfl ?_
    rintro _ h4 ⟨r5, rfl, H⟩
    refine tr_p (y_move rfl) rfl rfl ?_
    refine tr_e (e_call Try.call16 rfl (F.spatelaw8_rising_ok H)) rfl rfl ?_
    rintro _ h6 ⟨r7, rfl, H⟩
    refine tr_p (y_move rfl) rfl rfl ?_
    refine tr_e (e_call Try.call16 rfl (F.spatelaw8_rising_ok H)) rfl rfl ?_
    rintro _ h8 ⟨r9, rfl, H⟩
    refine tr_e (f_buildL (cs := #[r5.enc, r7.enc, r9.enc]) rfl rfl (bl_25_3_0_1_2 r5 r7 r9) H) rfl rfl ?_
    rintro _ h10 ⟨s11, rfl, H⟩
    refine tr_p (y_assign rfl) rfl rfl ?_
    refine tr_nil ?_
    refine tr_thenN ?_
    refine tr_seq ?_
    refine tr_region ?_
    refine tr_p (y_move rfl) rfl rfl ?_
    refine tr_e (e_call Try.call17 rfl (F.spateref8_Lists_ok H)) rfl rfl ?_
    rintro _ h12 ⟨r13, rfl, H⟩
    refine tr_p (y_assign rfl) rfl rfl ?_
    refine tr_nil ?_
    refine tr_thenN ?_
    refine tr_seq_j (fun L' h => ∃ (x7 : Sl) (x8 : Sl) (x9 : Sl), L' = [(7, x7.enc), (8, x8.enc), (9, x9.enc)] ∧ F.spatelaw8_MergeLists.j1 Q x7 x8 x9 h) ?_ ?_
    · rintro L' h ⟨x7, x8, x9, rfl, H⟩
      unfold F.spatelaw8_MergeLists.j1 at H
      refine tr_seq ?_
      refine tr_draw mixed [0, 0, 2, 6, 14, 31, 0, 64, 192, 0, 512, 1536, 4095, 8191, 16383] (by kernel_rfl) ?_
      refine g_p 0 1 rfl (by kernel_rfl) (y_move rfl) rfl rfl ?_
      refine g_p 1 3 rfl (by kernel_rfl) (y_move rfl) rfl rfl ?_
      obtain ⟨a14, e15, H⟩ := H
      refine g_p 2 7 rfl (by kernel_rfl) (f_idx (s := x7) Try.runUnderlying25 Try.sizeOf23 rfl rfl e15) rfl rfl ?_
      obtain ⟨y16, k17, H⟩ := H
      refine g_h 3 15 rfl (by kernel_rfl) (y_ld Try.isAgg23 rfl) k17 rfl rfl ?_
      refine g_p 4 31 rfl (by kernel_rfl) (y_len (ts := #[]) Try.runUnderlying23 (o := y16.ptr) (n := y16.len) (cap := y16.cap) rfl) rfl rfl ?_
      obtain ⟨s19, e18, H⟩ := H
      refine g_p 5 63 rfl (by kernel_rfl) (f_cutL (s := x9) none (some (.i64, (y16.len : Int))) Try.runUnderlying23 Try.sizeOf3 rfl rfl rfl e18) rfl rfl ?_
      refine g_p 6 127 rfl (by kernel_rfl) (y_move rfl) rfl rfl ?_
      obtain ⟨a20, e21, H⟩ := H
      refine g_p 7 255 rfl (by kernel_rfl) (f_idx (s := x7) Try.runUnderlying25 Try.sizeOf23 rfl rfl e21) rfl rfl ?_
      obtain ⟨y22, k23, H⟩ := H
      refine g_h 8 511 rfl (by kernel_rfl) (y_ld Try.isAgg23 rfl) k23 rfl rfl ?_
      refine g_p 9 1023 rfl (by kernel_rfl) (y_move rfl) rfl rfl ?_
      obtain ⟨a24, e25, H⟩ := H
      refine g_p 10 2047 rfl (by kernel_rfl) (f_idx (s := x7) Try.runUnderlying25 Try.sizeOf23 rfl rfl e25) rfl rfl ?_
      obtain ⟨y26, k27, H⟩ := H
      refine g_h 11 4095 rfl (by kernel_rfl) (y_ld Try.isAgg23 rfl) k27 rfl rfl ?_
      refine g_e 12 8191 [] (by kernel_rfl) rfl (by kernel_rfl) (f_buildL (cs := #[s19.enc, y22.enc, y26.enc]) rfl rfl (bl_25_3_0_1_2 s19 y22 y26) H) rfl rfl ?_
      rintro _ h28 ⟨s29, rfl, H⟩
      refine ⟨trivial, ?_⟩
      refine g_e 13 16383 [] (by kernel_rfl) rfl (by kernel_rfl) (e_call Try.call18 rfl (F.merge_Lists_int_ok H)) rfl rfl ?_
      rintro _ h30 ⟨r31, rfl, H⟩
      refine ⟨trivial, ?_⟩
      refine g_p 14 32767 rfl (by kernel_rfl) (y_assign rfl) rfl rfl ?_
      refine g_d (by kernel_rfl) ?_
      refine tr_thenN ?_
      refine tr_seq_j (fun L' h => ∃ (x7 : Sl) (x8 : Sl), L' = [(7, x7.enc), (8, x8.enc)] ∧ F.spatelaw8_MergeLists.j2 Q x7 x8 h) ?_ ?_
      · rintro L' h ⟨x7, x8, rfl, H⟩
        unfold F.spatelaw8_MergeLists.j2 at H
        refine tr_seq ?_
        refine tr_draw mixed [0, 1, 3, 7, 0, 16, 48, 127, 0, 256, 768, 2047, 4095, 8191, 16383] (by kernel_rfl) ?_
        refine g_p 0 1 rfl (by kernel_rfl) (y_move rfl) rfl rfl ?_
        obtain ⟨a32, e33, H⟩ := H
        refine g_p 1 3 rfl (by kernel_rfl) (f_idx (s := x7) Try.runUnderlying25 Try.sizeOf23 rfl rfl e33) rfl rfl ?_
        obtain ⟨y34, k35, H⟩ := H
        refine g_h 2 7 rfl (by kernel_rfl) (y_ld Try.isAgg23 rfl) k35 rfl rfl ?_
        refine g_p 4 23 rfl (by kernel_rfl) (y_move rfl) rfl rfl ?_
        obtain ⟨a36, e37, H⟩ := H
        refine g_p 5 55 rfl (by kernel_rfl) (f_idx (s := x7) Try.runUnderlying25 Try.sizeOf23 rfl rfl e37) rfl rfl ?_
        obtain ⟨y38, k39, H⟩ := H
        refine g_h 6 119 rfl (by kernel_rfl) (y_ld Try.isAgg23 rfl) k39 rfl rfl ?_
        refine g_p 8 375 rfl (by kernel_rfl) (y_move rfl) rfl rfl ?_
        obtain ⟨a40, e41, H⟩ := H
        refine g_p 9 887 rfl (by kernel_rfl) (f_idx (s := x7) Try.runUnderlying25 Try.sizeOf23 rfl rfl e41) rfl rfl ?_
        obtain ⟨y42, k43, H⟩ := H
        refine g_h 10 1911 rfl (by kernel_rfl) (y_ld Try.isAgg23 rfl) k43 rfl rfl ?_
        refine g_e 3 1919 [(10, fun h => cellH h a40 = some y42.enc), (6, fun h => cellH h a36 = some y38.enc)] (by kernel_rfl) rfl (by kernel_rfl) (e_call Try.call21 rfl (F.spatelaw8_words_ok H)) rfl rfl ?_
        rintro _ h44 ⟨r45, rfl, H⟩
        obtain ⟨k46, k47, H⟩ := H
        refine ⟨And.intro k46 (And.intro k47 trivial), ?_⟩
        refine g_e 7 2047 [(10, fun h => cellH h a40 = some y42.enc)] (by kernel_rfl) rfl (by kernel_rfl) (e_call Try.call21 rfl (F.spatelaw8_words_ok H)) rfl rfl ?_
        rintro _ h48 ⟨r49, rfl, H⟩
        obtain ⟨k50, H⟩ := H
        refine ⟨And.intro k50 trivial, ?_⟩
        refine g_e 11 4095 [] (by kernel_rfl) rfl (by kernel_rfl) (e_call Try.call21 rfl (F.spatelaw8_words_ok H)) rfl rfl ?_
        rintro _ h51 ⟨r52, rfl, H⟩
        refine ⟨trivial, ?_⟩
        refine g_e 12 8191 [] (by kernel_rfl) rfl (by kernel_rfl) (f_buildL (cs := #[r45.enc, r49.enc, r52.enc]) rfl rfl (bl_74_3_0_1_2 r45 r49 r52) H) rfl rfl ?_
        rintro _ h53 ⟨s54, rfl, H⟩
        refine ⟨trivial, ?_⟩
        refine g_e 13 16383 [] (by kernel_rfl) rfl (by kernel_rfl) (e_call Try.call20 rfl (F.merge_Lists_string_ok H)) rfl rfl ?_
        rintro _ h55 ⟨r56, rfl, H⟩
        refine ⟨trivial, ?_⟩
        refine g_p 14 32767 rfl (by kernel_rfl) (y_assign rfl) rfl rfl ?_
        refine g_d (by kernel_rfl) ?_
        refine tr_thenN ?_
        refine tr_seq ?_
        refine tr_region ?_
        refine tr_p (y_move rfl) rfl rfl ?_
        refine tr_e (e_call Try.call21 rfl (F.spatelaw8_words_ok H)) rfl rfl ?_
        rintro _ h57 ⟨r58, rfl, H⟩
        refine tr_p (y_assign rfl) rfl rfl ?_
        refine tr_nil ?_
        refine tr_thenN ?_
        refine tr_seq ?_
        refine tr_seq ?_
        refine tr_region ?_
        refine tr_p (y_move rfl) rfl rfl ?_
        refine tr_p (y_len (ts := #[]) Try.runUnderlying29 (o := r56.ptr) (n := r56.len) (cap := r56.cap) rfl) rfl rfl ?_
        refine tr_p (y_move rfl) rfl rfl ?_
        refine tr_p (y_len (ts := #[]) Try.runUnderlying29 (o := r58.ptr) (n := r58.len) (cap := r58.cap) rfl) rfl rfl ?_
        refine tr_p (y_neq rfl rfl) rfl rfl ?_
        refine tr_nil ?_
        refine tr_thenN ?_
        refine tr_cond rfl (fun g59 => ?_) (fun g59 => ?_)
        · replace H := H.1 g59
          refine tr_seq ?_
          refine tr_region ?_
          refine tr_p (y_assign rfl) rfl rfl ?_
          refine tr_nil ?_
          refine tr_thenN ?_
          refine tr_ret ?_
          refine tr_thenR ?_
          exact tr_ret1 rfl rfl ⟨_, rfl, H⟩
        · replace H := H.2 g59
          refine tr_skip ?_
          refine tr_thenN ?_
          refine tr_seq ?_
          refine tr_seq ?_
          refine tr_region ?_
          refine tr_p (y_assign rfl) rfl rfl ?_
          refine tr_nil ?_
          refine tr_thenN ?_
          refine tr_block ?_
          obtain ⟨m70, H⟩ := H
          refine tr_sub [(11, r56.enc), (12, r58.enc), (13, (.int .i64 0))] ⟨rfl, rfl, rfl, trivial⟩ ?_
          refine tr_loop_j (fun m L' h => ∃ (x11 : Sl) (x12 : Sl) (x13 : Int), L' = [(11, x11.enc), (12, x12.enc), (13, (.int .i64 x13))] ∧ F.spatelaw8_MergeLists.l3 Q m x11 x12 x13 h) ?_ ?_ m70 ⟨_, _, _, rfl, H⟩
          · rintro L' h ⟨_, _, _, _, H⟩; exact H
          · rintro q3 L' h ⟨x11, x12, x13, rfl, H⟩
            unfold F.spatelaw8_MergeLists.l3 at H
            refine tr_seq ?_
            refine tr_seq ?_
            refine tr_region ?_
            refine tr_p (y_move rfl) rfl rfl ?_
            refine tr_p (y_move rfl) rfl rfl ?_
            refine tr_p (y_len (ts := #[]) Try.runUnderlying29 (o := x12.ptr) (n := x12.len) (cap := x12.cap) rfl) rfl rfl ?_
            refine tr_p (y_lss rfl rfl) rfl rfl ?_
            refine tr_nil ?_
            refine tr_thenN ?_
            refine tr_cond rfl (fun g60 => ?_) (fun g60 => ?_)
            · replace H := H.1 g60
              refine tr_skip ?_
              refine tr_thenN ?_
              refine tr_seq ?_
              refine tr_block ?_
              refine tr_seq ?_
              refine tr_draw mixed [0, 0, 3, 7, 0, 0, 48, 112, 255] (by kernel_rfl) ?_
              refine g_p 0 1 rfl (by kernel_rfl) (y_move rfl) rfl rfl ?_
              refine g_p 1 3 rfl (by kernel_rfl) (y_move rfl) rfl rfl ?_
              obtain ⟨a61, e62, H⟩ := H
              refine g_p 2 7 rfl (by kernel_rfl) (f_idx (s := x11) Try.runUnderlying29 Try.sizeOf9 rfl rfl e62) rfl rfl ?_
              obtain ⟨y63, k64, H⟩ := H
              refine g_h 3 15 rfl (by kernel_rfl) (y_ld Try.isAgg9 rfl) k64 rfl rfl ?_
              refine g_p 4 31 rfl (by kernel_rfl) (y_move rfl) rfl rfl ?_
              refine g_p 5 63 rfl (by kernel_rfl) (y_move rfl) rfl rfl ?_
              obtain ⟨a65, e66, H⟩ := H
              refine g_p 6 127 rfl (by kernel_rfl) (f_idx (s := x12) Try.runUnderlying29 Try.sizeOf9 rfl rfl e66) rfl rfl ?_
              obtain ⟨y67, k68, H⟩ := H
              refine g_h 7 255 rfl (by kernel_rfl) (y_ld Try.isAgg9 rfl) k68 rfl rfl ?_
              refine g_p 8 511 rfl (by kernel_rfl) (y_sneq rfl rfl) rfl rfl ?_
              refine g_d (by kernel_rfl) ?_
              refine tr_thenN ?_
              refine tr_cond rfl (fun g69 => ?_) (fun g69 => ?_)
              · replace H := H.1 g69
                refine tr_seq ?_
                refine tr_region ?_
                refine tr_p (y_assign rfl) rfl rfl ?_
                refine tr_nil ?_
                refine tr_thenN ?_
                refine tr_ret ?_
                refine tr_blockR ?_
                refine tr_thenR ?_
                refine tr_thenR ?_
                refine tr_blockR ?_
                refine tr_thenR ?_
                exact tr_ret1 rfl rfl ⟨_, rfl, H⟩
              · replace H := H.2 g69
                refine tr_skip ?_
                refine tr_blockN ?_
                refine tr_thenN ?_
                refine tr_region ?_
                refine tr_p (y_move rfl) rfl rfl ?_
                refine tr_p (y_add rfl rfl) rfl rfl ?_
                refine tr_p (y_assign rfl) rfl rfl ?_
                refine tr_nil ?_
                refine tr_thenN ?_
                exact tr_join [(11, x11.enc), (12, x12.enc), (13, (.int .i64 (IntKind.wrap .i64 (x13 + 1))))] ⟨rfl, rfl, rfl, trivial⟩ ⟨_, _, _, rfl, H⟩
            · replace H := H.2 g60
              refine tr_exit ?_
              refine tr_thenE ?_
              refine tr_thenE ?_
              refine tr_hit ?_
              refine tr_thenN ?_
              refine tr_seq ?_
              refine tr_region ?_
              refine tr_p (y_assign rfl) rfl rfl ?_
              refine tr_nil ?_
              refine tr_thenN ?_
              refine tr_ret ?_
              exact tr_ret1 rfl rfl ⟨_, rfl, H⟩
      · refine tr_seq_j (fun L' h => ∃ (x7 : Sl) (x8 : Sl) (x82 : Bool), L' = [(7, x7.enc), (8, x8.enc), (82, (.bool x82))] ∧ F.spatelaw8_MergeLists.j4 Q x7 x8 x82 h) ?_ ?_
        · rintro L' h ⟨x7, x8, x82, rfl, H⟩
          unfold F.spatelaw8_MergeLists.j4 at H
          refine tr_cond rfl (fun g71 => ?_) (fun g71 => ?_)
          · replace H := H.1 g71
            refine tr_seq ?_
            refine tr_region ?_
            refine tr_p (y_assign rfl) rfl rfl ?_
            refine tr_nil ?_
            refine tr_thenN ?_
            refine tr_ret ?_
            refine tr_thenR ?_
            exact tr_ret1 rfl rfl ⟨_, rfl, H⟩
          · replace H := H.2 g71
            refine tr_skip ?_
            refine tr_thenN ?_
            exact tr_join [(7, x7.enc), (8, x8.enc)] ⟨rfl, rfl, trivial⟩ ⟨_, _, rfl, H⟩
        · refine tr_draw mixed [0, 0, 3, 7, 15, 31, 31, 95, 223, 479, 1023, 2047, 4095, 8191, 16383, 32767, 32767, 98303, 229375, 491519, 1048575, 32767, 2129919, 6324223, 16777215, 33554431, 67108863, 134217727, 268435455, 536870911, 1073741823, 2147483647] (by kernel_rfl) ?_
          refine g_p 0 1 rfl (by kernel_rfl) (y_move rfl) rfl rfl ?_
          refine g_p 1 3 rfl (by kernel_rfl) (y_move rfl) rfl rfl ?_
          refine g_e 2 7 [] (by kernel_rfl) rfl (by kernel_rfl) (e_call Try.call19 rfl (F.spatelaw8_same_ok H)) rfl rfl ?_
          rintro _ h72 ⟨r73, rfl, H⟩
          refine ⟨trivial, ?_⟩
          refine g_p 3 15 rfl (by kernel_rfl) (y_not rfl) rfl rfl ?_
          refine g_p 4 31 rfl (by kernel_rfl) (y_move rfl) rfl rfl ?_
          refine g_split (t := 55) rfl (fun g74 => ?_) (fun g74 => ?_)
          · replace H := H.1 g74
            refine g_s 5 63 rfl (by kernel_rfl) rfl rfl ?_
            refine g_s 6 127 rfl (by kernel_rfl) rfl rfl ?_
            refine g_s 7 255 rfl (by kernel_rfl) rfl rfl ?_
            refine g_s 8 511 rfl (by kernel_rfl) rfl rfl ?_
            refine g_s 9 1023 rfl (by kernel_rfl) rfl rfl ?_
            refine g_s 10 2047 rfl (by kernel_rfl) rfl rfl ?_
            refine g_s 11 4095 rfl (by kernel_rfl) rfl rfl ?_
            refine g_s 12 8191 rfl (by kernel_rfl) rfl rfl ?_
            refine g_p 13 16383 rfl (by kernel_rfl) (y_pick_t rfl rfl) rfl rfl ?_
            refine g_p 14 32767 rfl (by kernel_rfl) (y_move rfl) rfl rfl ?_
            refine g_s 15 65535 rfl (by kernel_rfl) rfl rfl ?_
            refine g_s 16 131071 rfl (by kernel_rfl) rfl rfl ?_
            refine g_s 17 262143 rfl (by kernel_rfl) rfl rfl ?_
            refine g_s 18 524287 rfl (by kernel_rfl) rfl rfl ?_
            refine g_s 19 1048575 rfl (by kernel_rfl) rfl rfl ?_
            refine g_s 20 2097151 rfl (by kernel_rfl) rfl rfl ?_
            refine g_s 21 4194303 rfl (by kernel_rfl) rfl rfl ?_
            refine g_s 22 8388607 rfl (by kernel_rfl) rfl rfl ?_
            refine g_s 23 16777215 rfl (by kernel_rfl) rfl rfl ?_
            refine g_s 24 33554431 rfl (by kernel_rfl) rfl rfl ?_
            refine g_s 25 67108863 rfl (by kernel_rfl) rfl rfl ?_
            refine g_p 26 134217727 rfl (by kernel_rfl) (y_pick_t rfl rfl) rfl rfl ?_
            refine g_p 27 268435455 rfl (by kernel_rfl) (y_move rfl) rfl rfl ?_
            refine g_s 28 536870911 rfl (by kernel_rfl) rfl rfl ?_
            refine g_s 29 1073741823 rfl (by kernel_rfl) rfl rfl ?_
            refine g_s 30 2147483647 rfl (by kernel_rfl) rfl rfl ?_
            refine g_p 31 4294967295 rfl (by kernel_rfl) (y_pick_t rfl rfl) rfl rfl ?_
            refine g_d (by kernel_rfl) ?_
            refine tr_thenN ?_
            exact tr_join [(7, x7.enc), (8, x8.enc), (82, (.bool true))] ⟨rfl, rfl, rfl, trivial⟩ ⟨_, _, _, rfl, H⟩
          · replace H := H.2 g74
            refine g_p 5 63 rfl (by kernel_rfl) (y_move rfl) rfl rfl ?_
            refine g_p 6 127 rfl (by kernel_rfl) (y_move rfl) rfl rfl ?_
            obtain ⟨a75, e76, H⟩ := H
            refine g_p 7 255 rfl (by kernel_rfl) (f_idx (s := x7) Try.runUnderlying25 Try.sizeOf23 rfl rfl e76) rfl rfl ?_
            obtain ⟨y77, k78, H⟩ := H
            refine g_h 8 511 rfl (by kernel_rfl) (y_ld Try.isAgg23 rfl) k78 rfl rfl ?_
            refine g_p 9 1023 rfl (by kernel_rfl) (y_len (ts := #[]) Try.runUnderlying23 (o := y77.ptr) (n := y77.len) (cap := y77.cap) rfl) rfl rfl ?_
            obtain ⟨a79, e80, H⟩ := H
            refine g_p 10 2047 rfl (by kernel_rfl) (f_idx (s := x9) Try.runUnderlying23 Try.sizeOf3 rfl rfl e80) rfl rfl ?_
            obtain ⟨y81, k82, H⟩ := H
            refine g_h 11 4095 rfl (by kernel_rfl) (y_ld Try.isAgg3 rfl) k82 rfl rfl ?_
            refine g_p 12 8191 rfl (by kernel_rfl) (y_neq rfl rfl) rfl rfl ?_
            refine g_p 13 16383 rfl (by kernel_rfl) (y_pick_f rfl rfl) rfl rfl ?_
            refine g_p 14 32767 rfl (by kernel_rfl) (y_move rfl) rfl rfl ?_
            refine g_split (t := 65) rfl (fun g83 => ?_) (fun g83 => ?_)
            · replace H := H.1 g83
              refine g_s 15 65535 rfl (by kernel_rfl) rfl rfl ?_
              refine g_s 16 131071 rfl (by kernel_rfl) rfl rfl ?_
              refine g_s 17 262143 rfl (by kernel_rfl) rfl rfl ?_
              refine g_s 18 524287 rfl (by kernel_rfl) rfl rfl ?_
              refine g_s 19 1048575 rfl (by kernel_rfl) rfl rfl ?_
              refine g_s 20 2097151 rfl (by kernel_rfl) rfl rfl ?_
              refine g_s 21 4194303 rfl (by kernel_rfl) rfl rfl ?_
              refine g_s 22 8388607 rfl (by kernel_rfl) rfl rfl ?_
              refine g_s 23 16777215 rfl (by kernel_rfl) rfl rfl ?_
              refine g_s 24 33554431 rfl (by kernel_rfl) rfl rfl ?_
              refine g_s 25 67108863 rfl (by kernel_rfl) rfl rfl ?_
              refine g_p 26 134217727 rfl (by kernel_rfl) (y_pick_t rfl rfl) rfl rfl ?_
              refine g_p 27 268435455 rfl (by kernel_rfl) (y_move rfl) rfl rfl ?_
              refine g_s 28 536870911 rfl (by kernel_rfl) rfl rfl ?_
              refine g_s 29 1073741823 rfl (by kernel_rfl) rfl rfl ?_
              refine g_s 30 2147483647 rfl (by kernel_rfl) rfl rfl ?_
              refine g_p 31 4294967295 rfl (by kernel_rfl) (y_pick_t rfl rfl) rfl rfl ?_
              refine g_d (by kernel_rfl) ?_
              refine tr_thenN ?_
              exact tr_join [(7, x7.enc), (8, x8.enc), (82, (.bool true))] ⟨rfl, rfl, rfl, trivial⟩ ⟨_, _, _, rfl, H⟩
            · replace H := H.2 g83
              refine g_p 15 65535 rfl (by kernel_rfl) (y_move rfl) rfl rfl ?_
              refine g_p 16 131071 rfl (by kernel_rfl) (y_move rfl) rfl rfl ?_
              obtain ⟨a84, e85, H⟩ := H
              refine g_p 17 262143 rfl (by kernel_rfl) (f_idx (s := x7) Try.runUnderlying25 Try.sizeOf23 rfl rfl e85) rfl rfl ?_
              obtain ⟨y86, k87, H⟩ := H
              refine g_h 18 524287 rfl (by kernel_rfl) (y_ld Try.isAgg23 rfl) k87 rfl rfl ?_
              refine g_p 19 1048575 rfl (by kernel_rfl) (y_len (ts := #[]) Try.runUnderlying23 (o := y86.ptr) (n := y86.len) (cap := y86.cap) rfl) rfl rfl ?_
              obtain ⟨s89, e88, H⟩ := H
              refine g_p 20 2097151 rfl (by kernel_rfl) (f_cutL (s := x9) none (some (.i64, (y86.len : Int))) Try.runUnderlying23 Try.sizeOf3 rfl rfl rfl e88) rfl rfl ?_
              refine g_p 21 4194303 rfl (by kernel_rfl) (y_move rfl) rfl rfl ?_
              obtain ⟨a90, e91, H⟩ := H
              refine g_p 22 8388607 rfl (by kernel_rfl) (f_idx (s := x7) Try.runUnderlying25 Try.sizeOf23 rfl rfl e91) rfl rfl ?_
              obtain ⟨y92, k93, H⟩ := H
              refine g_h 23 16777215 rfl (by kernel_rfl) (y_ld Try.isAgg23 rfl) k93 rfl rfl ?_
              refine g_e 24 33554431 [] (by kernel_rfl) rfl (by kernel_rfl) (e_call Try.call19 rfl (F.spatelaw8_same_ok H)) rfl rfl ?_
              rintro _ h94 ⟨r95, rfl, H⟩
              refine ⟨trivial, ?_⟩
              refine g_p 25 67108863 rfl (by kernel_rfl) (y_not rfl) rfl rfl ?_
              refine g_p 26 134217727 rfl (by kernel_rfl) (y_pick_f rfl rfl) rfl rfl ?_
              refine g_p 27 268435455 rfl (by kernel_rfl) (y_move rfl) rfl rfl ?_
              refine g_split (t := 78) rfl (fun g96 => ?_) (fun g96 => ?_)
              · replace H := H.1 g96
                refine g_s 28 536870911 rfl (by kernel_rfl) rfl rfl ?_
                refine g_s 29 1073741823 rfl (by kernel_rfl) rfl rfl ?_
                refine g_s 30 2147483647 rfl (by kernel_rfl) rfl rfl ?_
                refine g_p 31 4294967295 rfl (by kernel_rfl) (y_pick_t rfl rfl) rfl rfl ?_
                refine g_d (by kernel_rfl) ?_
                refine tr_thenN ?_
                exact tr_join [(7, x7.enc), (8, x8.enc), (82, (.bool true))] ⟨rfl, rfl, rfl, trivial⟩ ⟨_, _, _, rfl, H⟩
              · replace H := H.2 g96
                refine g_e 28 536870911 [] (by kernel_rfl) rfl (by kernel_rfl) (e_call Try.call18 rfl (F.merge_Lists_int_ok H)) rfl rfl ?_
                rintro _ h97 ⟨r98, rfl, H⟩
                refine ⟨trivial, ?_⟩
                refine g_p 29 1073741823 rfl (by kernel_rfl) (y_len (ts := #[]) Try.runUnderlying23 (o := r98.ptr) (n := r98.len) (cap := r98.cap) rfl) rfl rfl ?_
                refine g_p 30 2147483647 rfl (by kernel_rfl) (y_neq rfl rfl) rfl rfl ?_
                refine g_p 31 4294967295 rfl (by kernel_rfl) (y_pick_f rfl rfl) rfl rfl ?_
                refine g_d (by kernel_rfl) ?_
                refine tr_thenN ?_
                exact tr_join [(7, x7.enc), (8, x8.enc), (82, (.bool (((r98.len : Int) != 0))))] ⟨rfl, rfl, rfl, trivial⟩ ⟨_, _, _, rfl, H⟩
    · refine tr_draw mixed [0, 1, 3, 7, 15, 31, 0, 64, 192, 511, 0, 2047, 4095] (by kernel_rfl) ?_
      refine g_p 0 1 rfl (by kernel_rfl) (y_move rfl) rfl rfl ?_
      obtain ⟨a99, e100, H⟩ := H
      refine g_p 1 3 rfl (by kernel_rfl) (f_idx (s := s11) Try.runUnderlying25 Try.sizeOf23 rfl rfl e100) rfl rfl ?_
      obtain ⟨y101, k102, H⟩ := H
      refine g_h 2 7 rfl (by kernel_rfl) (y_ld Try.isAgg23 rfl) k102 rfl rfl ?_
      refine g_p 3 15 rfl (by kernel_rfl) (y_len (ts := #[]) Try.runUnderlying23 (o := y101.ptr) (n := y101.len) (cap := y101.cap) rfl) rfl rfl ?_
      refine g_p 4 31 rfl (by kernel_rfl) (y_add rfl rfl) rfl rfl ?_
      refine g_p 6 95 rfl (by kernel_rfl) (y_move rfl) rfl rfl ?_
      obtain ⟨a103, e104, H⟩ := H
      refine g_p 7 223 rfl (by kernel_rfl) (f_idx (s := s11) Try.runUnderlying25 Try.sizeOf23 rfl rfl e104) rfl rfl ?_
      obtain ⟨y105, k106, H⟩ := H
      refine g_h 8 479 rfl (by kernel_rfl) (y_ld Try.isAgg23 rfl) k106 rfl rfl ?_
      refine g_e2 5 511 10 1503 [(8, fun h => cellH h a103 = some y105.enc)] [(8, fun h => cellH h a103 = some y105.enc), (2, fun h => cellH h a99 = some y101.enc)] (by kernel_rfl) (by kernel_rfl) (by kernel_rfl) (by kernel_rfl) (by kernel_rfl) rfl rfl rfl rfl rfl rfl ?_ ?_
      · replace H := H.1
        refine ⟨_, (f_make rfl rfl H), ?_⟩
        rintro _ h107 ⟨s108, rfl, H⟩
        obtain ⟨k109, H⟩ := H
        refine ⟨And.intro k109 trivial, ?_⟩
        refine g_e2 9 1023 10 1535 [] [(8, fun h => cellH h a103 = some y105.enc)] (by kernel_rfl) (by kernel_rfl) (by kernel_rfl) (by kernel_rfl) (by kernel_rfl) rfl rfl rfl rfl rfl rfl ?_ ?_
        · replace H := H.1
          refine ⟨_, (f_app rfl H), ?_⟩
          rintro _ h110 ⟨s111, rfl, H⟩
          refine ⟨trivial, ?_⟩
          refine g_e 10 2047 [] (by kernel_rfl) rfl (by kernel_rfl) (f_buildL (cs := #[(.int .i64 (-88))]) rfl rfl (bl_23_1_0 (-88)) H) rfl rfl ?_
          rintro _ h112 ⟨s113, rfl, H⟩
          refine ⟨trivial, ?_⟩
          refine g_e 11 4095 [] (by kernel_rfl) rfl (by kernel_rfl) (f_app rfl H) rfl rfl ?_
          rintro _ h114 ⟨s115, rfl, H⟩
          refine ⟨trivial, ?_⟩
          refine g_p 12 8191 rfl (by kernel_rfl) (y_assign rfl) rfl rfl ?_
          refine g_d (by kernel_rfl) ?_
          refine tr_thenN ?_
          exact tr_join [(7, s11.enc), (8, r13.enc), (9, s115.enc)] ⟨rfl, rfl, rfl, trivial⟩ ⟨_, _, _, rfl, H⟩
        · replace H := H.2
          refine ⟨_, (f_buildL (cs := #[(.int .i64 (-88))]) rfl rfl (bl_23_1_0 (-88)) H), ?_⟩
          rintro _ h116 ⟨s117, rfl, H⟩
          obtain ⟨k118, H⟩ := H
          refine ⟨And.intro k118 trivial, ?_⟩
          refine g_e 9 2047 [] (by kernel_rfl) rfl (by kernel_rfl) (f_app rfl H) rfl rfl ?_
          rintro _ h119 ⟨s120, rfl, H⟩
          refine ⟨trivial, ?_⟩
          refine g_e 11 4095 [] (by kernel_rfl) rfl (by kernel_rfl) (f_app rfl H) rfl rfl ?_
          rintro _ h121 ⟨s122, rfl, H⟩
          refine ⟨trivial, ?_⟩
          refine g_p 12 8191 rfl (by kernel_rfl) (y_assign rfl) rfl rfl ?_
          refine g_d (by kernel_rfl) ?_
          refine tr_thenN ?_
          exact tr_join [(7, s11.enc), (8, r13.enc), (9, s122.enc)] ⟨rfl, rfl, rfl, trivial⟩ ⟨_, _, _, rfl, H⟩
      · replace H := H.2
        refine ⟨_, (f_buildL (cs := #[(.int .i64 (-88))]) rfl rfl (bl_23_1_0 (-88)) H), ?_⟩
        rintro _ h123 ⟨s124, rfl, H⟩
        obtain ⟨k125, k126, H⟩ := H
        refine ⟨And.intro k125 (And.intro k126 trivial), ?_⟩
        refine g_e 5 1535 [(8, fun h => cellH h a103 = some y105.enc)] (by kernel_rfl) rfl (by kernel_rfl) (f_make rfl rfl H) rfl rfl ?_
        rintro _ h127 ⟨s128, rfl, H⟩
        obtain ⟨k129, H⟩ := H
        refine ⟨And.intro k129 trivial, ?_⟩
        refine g_e 9 2047 [] (by kernel_rfl) rfl (by kernel_rfl) (f_app rfl H) rfl rfl ?_
        rintro _ h130 ⟨s131, rfl, H⟩
        refine ⟨trivial, ?_⟩
        refine g_e 11 4095 [] (by kernel_rfl) rfl (by kernel_rfl) (f_app rfl H) rfl rfl ?_
        rintro _ h132 ⟨s133, rfl, H⟩
        refine ⟨trivial, ?_⟩
        refine g_p 12 8191 rfl (by kernel_rfl) (y_assign rfl) rfl rfl ?_
        refine g_d (by kernel_rfl) ?_
        refine tr_thenN ?_
        exact tr_join [(7, s11.enc), (8, r13.enc), (9, s133.enc)] ⟨rfl, rfl, rfl, trivial⟩ ⟨_, _, _, rfl, H⟩

/-- spate/spatelaw8.MergeBack -/
def F.spatelaw8_MergeBack (p0 : ByteArray) (h : H) (Q : Bool → H → Prop) : Prop :=
  F.spatelaw8_known  h fun r2 h1 =>
  ((!r2) = true →
  Q false h1) ∧
  ((!r2) = false →
  F.merge_Cell p0 h1 fun r5 r6 h4 =>
  new h4 (((⟨0, (⟨#[]⟩ : ByteArray), 0⟩ : S_api_Cell) : S_api_Cell).cells.toArray) ty_34 fun a8 h7 =>
  stH h7 a8 r5.cells fun h9 =>
  (((r6 != 0)) = true →
  ld_S_api_Cell h9 a8 fun y11 =>
  Q ((y11.View == (⟨0, (⟨#[]⟩ : ByteArray), 0⟩ : S_api_Cell).View) && ((y11.Key.toList == (⟨0, (⟨#[]⟩ : ByteArray), 0⟩ : S_api_Cell).Key.toList) && ((y11.Start == (⟨0, (⟨#[]⟩ : ByteArray), 0⟩ : S_api_Cell).Start) && true))) h9) ∧
  (((r6 != 0)) = false →
  ld_S_api_Cell h9 a8 fun y13 =>
  F.merge_Key y13 h9 fun r16 r17 h15 =>
  (((r17 == 0)) = true →
  Q (p0.toList == r16.toList) h15) ∧
  (((r17 == 0)) = false →
  Q false h15)))
theorem F.spatelaw8_MergeBack_ok {p0 : ByteArray} {h : H} {Q : Bool → H → Prop} (H : F.spatelaw8_MergeBack p0 h Q) : Fn PP 5 ([(.string p0)] : List Value).toArray h fun r h' => ∃ r0, r = (.bool r0) ∧ Q r0 h' := by
  unfold F.spatelaw8_MergeBack at H
  refine fn_of Try.func5 Try.ntmps5 rfl rfl fun w0 => ?_
  refine tr_sub [(0, (.string p0))] ⟨rfl, trivial⟩ ?_
  refine tr_seq ?_
  refine tr_region ?_
  refine tr_p (y_assign rfl) rfl rfl ?_
  refine tr_nil ?_
  refine tr_thenN ?_
  refine tr_seq ?_
  refine tr_seq ?_
  refine tr_region ?_
  refine tr_e (e_call Try.call15 rfl (F.spatelaw8_known_ok H)) rfl rfl ?_
  rintro _ h1 ⟨r2, rfl, H⟩
  refine tr_p (y_not rfl) rfl rfl ?_
  refine tr_nil ?_
  refine tr_thenN ?_
  refine tr_cond rfl (fun g3 => ?_) (fun g3 => ?_)
  · replace H := H.1 g3
    refine tr_seq ?_
    refine tr_region ?_
    refine tr_p (y_assign rfl) rfl rfl ?_
    refine tr_nil ?_
    refine tr_thenN ?_
    refine tr_ret ?_
    refine tr_thenR ?_
    exact tr_ret1 rfl rfl ⟨_, rfl, H⟩
  · replace H := H.2 g3
    refine tr_skip ?_
    refine tr_thenN ?_
    refine tr_seq ?_
    refine tr_region ?_
    refine tr_p (y_move rfl) rfl rfl ?_
    refine tr_e (e_call Try.call22 rfl (F.merge_Cell_ok H)) rfl rfl ?_
    rintro _ h4 ⟨r5, r6, rfl, H⟩
    refine tr_p (y_move rfl) rfl rfl ?_
    refine tr_p (y_ext rfl rfl) rfl rfl ?_
    refine tr_p (y_ext rfl rfl) rfl rfl ?_
    refine tr_e (f_alloc (cs := ((⟨0, (⟨#[]⟩ : ByteArray), 0⟩ : S_api_Cell) : S_api_Cell).cells.toArray) Try.zeroValue34 rfl H) rfl rfl ?_
    rintro _ h7 ⟨a8, rfl, H⟩
    refine tr_e (f_store (vs := r5.cells) Try.sizeOf34 rfl rfl cellsOfStruct rfl (by intro v hv; exact ones_S_api_Cell _ v hv) H) rfl rfl ?_
    rintro _ h9 ⟨rfl, H⟩
    refine tr_p (y_assign rfl) rfl rfl ?_
    refine tr_nil ?_
    refine tr_thenN ?_
    refine tr_seq ?_
    refine tr_seq ?_
    refine tr_region ?_
    refine tr_p (y_move rfl) rfl rfl ?_
    refine tr_p (y_neq rfl rfl) rfl rfl ?_
    refine tr_nil ?_
    refine tr_thenN ?_
    refine tr_cond rfl (fun g10 => ?_) (fun g10 => ?_)
    · replace H := H.1 g10
      refine tr_seq ?_
      refine tr_region ?_
      obtain ⟨y11, k12, H⟩ := H
      refine tr_h (y_ldS Try.isAgg34 Try.sizeOf34 rfl rfl) k12 rfl rfl ?_
      refine tr_p (f_build rfl (bd_34_ )) rfl rfl ?_
      refine tr_p (st_eql (b := ((y11.View == (⟨0, (⟨#[]⟩ : ByteArray), 0⟩ : S_api_Cell).View) && ((y11.Key.toList == (⟨0, (⟨#[]⟩ : ByteArray), 0⟩ : S_api_Cell).Key.toList) && ((y11.Start == (⟨0, (⟨#[]⟩ : ByteArray), 0⟩ : S_api_Cell).Start) && true)))) eqg_34 (fun w => eqst_34 y11 (⟨0, (⟨#[]⟩ : ByteArray), 0⟩ : S_api_Cell) 9998 w) rfl rfl) rfl rfl ?_
      refine tr_p (y_assign rfl) rfl rfl ?_
      refine tr_nil ?_
      refine tr_thenN ?_
      refine tr_ret ?_
      refine tr_thenR ?_
      exact tr_ret1 rfl rfl ⟨_, rfl, H⟩
    · replace H := H.2 g10
      refine tr_skip ?_
      refine tr_thenN ?_
      refine tr_seq ?_
      refine tr_region ?_
      obtain ⟨y13, k14, H⟩ := H
      refine tr_h (y_ldS Try.isAgg34 Try.sizeOf34 rfl rfl) k14 rfl rfl ?_
      refine tr_e (e_call Try.call23 rfl (F.merge_Key_ok H)) rfl rfl ?_
      rintro _ h15 ⟨r16, r17, rfl, H⟩
      refine tr_p (y_move rfl) rfl rfl ?_
      refine tr_p (y_ext rfl rfl) rfl rfl ?_
      refine tr_p (y_ext rfl rfl) rfl rfl ?_
      refine tr_p (y_assign rfl) rfl rfl ?_
      refine tr_p (y_assign rfl) rfl rfl ?_
      refine tr_nil ?_
      refine tr_thenN ?_
      refine tr_seq ?_
      refine tr_region ?_
      refine tr_p (y_move rfl) rfl rfl ?_
      refine tr_p (y_eql rfl rfl) rfl rfl ?_
      refine tr_p (y_move rfl) rfl rfl ?_
      refine tr_split (t := 26) rfl (fun g18 => ?_) (fun g18 => ?_)
      · replace H := H.1 g18
        refine tr_p (y_move rfl) rfl rfl ?_
        refine tr_p (y_move rfl) rfl rfl ?_
        refine tr_p (y_seql rfl rfl) rfl rfl ?_
        refine tr_p (y_pick_t rfl rfl) rfl rfl ?_
        refine tr_p (y_assign rfl) rfl rfl ?_
        refine tr_nil ?_
        refine tr_thenN ?_
        refine tr_ret ?_
        exact tr_ret1 rfl rfl ⟨_, rfl, H⟩
      · replace H := H.2 g18
        refine tr_s rfl rfl ?_
        refine tr_s rfl rfl ?_
        refine tr_s rfl rfl ?_
        refine tr_p (y_pick_f rfl rfl) rfl rfl ?_
        refine tr_p (y_assign rfl) rfl rfl ?_
        refine tr_nil ?_
        refine tr_thenN ?_
        refine tr_ret ?_
        exact tr_ret1 rfl rfl ⟨_, rfl, H⟩

def F.spateref8_wrong.j2 (Q : Int → H → Prop) (x17 : Bool) (h : H) : Prop :=
  (x17 = true →
  Q 22 h) ∧
  (x17 = false →
  Q 0 h)
def F.spateref8_wrong.j1 (Q : Int → H → Prop) (x1 : Addr) (x3 : Bool) (h : H) : Prop :=
  (x3 = true →
  Q 23 h) ∧
  (x3 = false →
  ldS h (x1.add 1) fun y4 =>
  ((decide ((y4.size : Int) > 32)) = true →
  Q 21 h) ∧
  ((decide ((y4.size : Int) > 32)) = false →
  ldI .i64 h (x1.add 2) fun y8 =>
  ((decide (y8 < (-2305843009213693952))) = true →
  F.spateref8_wrong.j2 Q true h) ∧
  ((decide (y8 < (-2305843009213693952))) = false →
  ldI .i64 h (x1.add 2) fun y11 =>
  F.spateref8_wrong.j2 Q (decide (y11 > 2305843009213693952)) h)))
/-- spate/spateref8.wrong -/
def F.spateref8_wrong (p0 : S_api_Cell) (h : H) (Q : Int → H → Prop) : Prop :=
  new h p0.cells.toArray ty_34 fun a2 h1 =>
  ldI .i64 h1 (a2.add 0) fun y13 =>
  ((decide (y13 < 0)) = true →
  F.spateref8_wrong.j1 Q a2 true h1) ∧
  ((decide (y13 < 0)) = false →
  ldI .i64 h1 (a2.add 0) fun y16 =>
  F.spateref8_wrong.j1 Q a2 (decide (y16 > 4)) h1)
theorem F.spateref8_wrong_ok {p0 : S_api_Cell} {h : H} {Q : Int → H → Prop} (H : F.spateref8_wrong p0 h Q) : Fn PP 41 ([(.agg p0.cells.toArray)] : List Value).toArray h fun r h' => ∃ r0, r = (.int .i64 r0) ∧ Q r0 h' := by
  unfold F.spateref8_wrong at H
  refine fn_of Try.func41 Try.ntmps41 rfl rfl fun w0 => ?_
  refine tr_sub [(0, (.agg p0.cells.toArray))] ⟨rfl, trivial⟩ ?_
  refine tr_seq ?_
  refine tr_region ?_
  refine tr_e (f_box (cs := p0.cells.toArray) rfl rfl H) rfl rfl ?_
  rintro _ h1 ⟨a2, rfl, H⟩
  refine tr_p (y_assign rfl) rfl rfl ?_
  refine tr_nil ?_
  refine tr_thenN ?_
  refine tr_seq ?_
  refine tr_block ?_
  refine tr_seq_j (fun L' h => ∃ (x1 : Addr) (x3 : Bool), L' = [(1, (.pointer (some x1))), (3, (.bool x3))] ∧ F.spateref8_wrong.j1 Q x1 x3 h) ?_ ?_
  · rintro L' h ⟨x1, x3, rfl, H⟩
    unfold F.spateref8_wrong.j1 at H
    refine tr_cond rfl (fun g3 => ?_) (fun g3 => ?_)
    · replace H := H.1 g3
      refine tr_seq ?_
      refine tr_region ?_
      refine tr_p (y_assign rfl) rfl rfl ?_
      refine tr_nil ?_
      refine tr_thenN ?_
      refine tr_ret ?_
      refine tr_blockR ?_
      refine tr_thenR ?_
      exact tr_ret1 rfl rfl ⟨_, rfl, H⟩
    · replace H := H.2 g3
      refine tr_seq ?_
      refine tr_region ?_
      refine tr_p (y_fa (off := 1) Try.runUnderlying34 fo_34_1 rfl) rfl rfl ?_
      obtain ⟨y4, k5, H⟩ := H
      refine tr_h (y_ld Try.isAgg9 rfl) k5 rfl rfl ?_
      refine tr_p (y_lenS Try.runUnderlying9 rfl) rfl rfl ?_
      refine tr_p (y_gtr rfl rfl) rfl rfl ?_
      refine tr_p (y_assign rfl) rfl rfl ?_
      refine tr_nil ?_
      refine tr_thenN ?_
      refine tr_cond rfl (fun g6 => ?_) (fun g6 => ?_)
      · replace H := H.1 g6
        refine tr_seq ?_
        refine tr_region ?_
        refine tr_p (y_assign rfl) rfl rfl ?_
        refine tr_nil ?_
        refine tr_thenN ?_
        refine tr_ret ?_
        refine tr_blockR ?_
        refine tr_thenR ?_
        exact tr_ret1 rfl rfl ⟨_, rfl, H⟩
      · replace H := H.2 g6
        refine tr_seq_j (fun L' h => ∃ (x17 : Bool), L' = [(17, (.bool x17))] ∧ F.spateref8_wrong.j2 Q x17 h) ?_ ?_
        · rintro L' h ⟨x17, rfl, H⟩
          unfold F.spateref8_wrong.j2 at H
          refine tr_cond rfl (fun g7 => ?_) (fun g7 => ?_)
          · replace H := H.1 g7
            refine tr_seq ?_
            refine tr_region ?_
            refine tr_p (y_assign rfl) rfl rfl ?_
            refine tr_nil ?_
            refine tr_thenN ?_
            refine tr_ret ?_
            refine tr_blockR ?_
            refine tr_thenR ?_
            exact tr_ret1 rfl rfl ⟨_, rfl, H⟩
          · replace H := H.2 g7
            refine tr_skip ?_
            refine tr_blockN ?_
            refine tr_thenN ?_
            refine tr_seq ?_
            refine tr_region ?_
            refine tr_p (y_assign rfl) rfl rfl ?_
            refine tr_nil ?_
            refine tr_thenN ?_
            refine tr_ret ?_
            exact tr_ret1 rfl rfl ⟨_, rfl, H⟩
        · refine tr_region ?_
          refine tr_p (y_fa (off := 2) Try.runUnderlying34 fo_34_2 rfl) rfl rfl ?_
          obtain ⟨y8, k9, H⟩ := H
          refine tr_h (y_ld Try.isAgg2 rfl) k9 rfl rfl ?_
          refine tr_p (y_lss rfl rfl) rfl rfl ?_
          refine tr_p (y_move rfl) rfl rfl ?_
          refine tr_split (t := 21) rfl (fun g10 => ?_) (fun g10 => ?_)
          · replace H := H.1 g10
            refine tr_s rfl rfl ?_
            refine tr_s rfl rfl ?_
            refine tr_s rfl rfl ?_
            refine tr_p (y_pick_t rfl rfl) rfl rfl ?_
            refine tr_p (y_assign rfl) rfl rfl ?_
            refine tr_nil ?_
            refine tr_thenN ?_
            exact tr_join [(17, (.bool true))] ⟨rfl, trivial⟩ ⟨_, rfl, H⟩
          · replace H := H.2 g10
            refine tr_p (y_fa (off := 2) Try.runUnderlying34 fo_34_2 rfl) rfl rfl ?_
            obtain ⟨y11, k12, H⟩ := H
            refine tr_h (y_ld Try.isAgg2 rfl) k12 rfl rfl ?_
            refine tr_p (y_gtr rfl rfl) rfl rfl ?_
            refine tr_p (y_pick_f rfl rfl) rfl rfl ?_
            refine tr_p (y_assign rfl) rfl rfl ?_
            refine tr_nil ?_
            refine tr_thenN ?_
            exact tr_join [(17, (.bool (decide (y11 > 2305843009213693952))))] ⟨rfl, trivial⟩ ⟨_, rfl, H⟩
  · refine tr_region ?_
    refine tr_p (y_fa (off := 0) Try.runUnderlying34 fo_34_0 rfl) rfl rfl ?_
    obtain ⟨y13, k14, H⟩ := H
    refine tr_h (y_ld Try.isAgg3 rfl) k14 rfl rfl ?_
    refine tr_p (y_lss rfl rfl) rfl rfl ?_
    refine tr_p (y_move rfl) rfl rfl ?_
    refine tr_split (t := 7) rfl (fun g15 => ?_) (fun g15 => ?_)
    · replace H := H.1 g15
      refine tr_s rfl rfl ?_
      refine tr_s rfl rfl ?_
      refine tr_s rfl rfl ?_
      refine tr_p (y_pick_t rfl rfl) rfl rfl ?_
      refine tr_p (y_assign rfl) rfl rfl ?_
      refine tr_nil ?_
      refine tr_thenN ?_
      exact tr_join [(1, (.pointer (some a2))), (3, (.bool true))] ⟨rfl, rfl, trivial⟩ ⟨_, _, rfl, H⟩
    · replace H := H.2 g15
      refine tr_p (y_fa (off := 0) Try.runUnderlying34 fo_34_0 rfl) rfl rfl ?_
      obtain ⟨y16, k17, H⟩ := H
      refine tr_h (y_ld Try.isAgg3 rfl) k17 rfl rfl ?_
      refine tr_p (y_gtr rfl rfl) rfl rfl ?_
      refine tr_p (y_pick_f rfl rfl) rfl rfl ?_
      refine tr_p (y_assign rfl) rfl rfl ?_
      refine tr_nil ?_
      refine tr_thenN ?_
      exact tr_join [(1, (.pointer (some a2))), (3, (.bool (decide (y16 > 4))))] ⟨rfl, rfl, trivial⟩ ⟨_, _, rfl, H⟩

def F.spateref8_Key.j2 (Q : ByteArray → Int → H → Prop) (C1 : Addr → Sl → Int → H → Prop) (x1 : Addr) (x5 : Sl) (x6 : Int) (h : H) : Prop :=
  C1 x1 x5 (IntKind.wrap .i64 (x6 + 1)) h
def F.spateref8_Key.l3 (Q : ByteArray → Int → H → Prop) : Nat → Sl → Int → Int → H → Prop
  | 0, _, _, _, _ => False
  | q3 + 1, x5, x7, x8, h =>
    ((decide (x8 < 8)) = true →
    0 ≤ ((IntKind.wrap .i64 (56 - (IntKind.wrap .i64 (8 * x8)))) : Int) ∧
    newL h #[(.int .u8 (IntKind.wrap .u8 (Int.fdiv x7 (2 ^ (min ((IntKind.wrap .i64 (56 - (IntKind.wrap .i64 (8 * x8)))) : Int).toNat (IntKind.bits .u64)) : Int))))] ty_5 1 fun s41 h40 =>
    runL PP (Builtin.append_ #[47, 47] 47 #[x5.enc, s41.enc]) h40 fun s43 h42 =>
    (F.spateref8_Key.l3 Q q3) s43 x7 (IntKind.wrap .i64 (x8 + 1)) h42) ∧
    ((decide (x8 < 8)) = false →
    runT PP (convert 47 9 x5.enc) h fun s45 h44 =>
    Q s45 0 h44)
def F.spateref8_Key.l1 (Q : ByteArray → Int → H → Prop) : Nat → Addr → Sl → Int → H → Prop
  | 0, _, _, _, _ => False
  | q1 + 1, x1, x5, x6, h =>
    ldS h (x1.add 1) fun y12 =>
    ((decide (x6 < (y12.size : Int))) = true →
    ldS h (x1.add 1) fun y15 =>
    idxS y15 x6 fun b17 =>
    newL h #[(.int .u8 b17)] ty_5 1 fun s20 h19 =>
    runL PP (Builtin.append_ #[47, 47] 47 #[x5.enc, s20.enc]) h19 fun s22 h21 =>
    ldS h21 (x1.add 1) fun y23 =>
    idxS y23 x6 fun b25 =>
    (((b25 == 0)) = true →
    newL h21 #[(.int .u8 255)] ty_5 1 fun s29 h28 =>
    runL PP (Builtin.append_ #[47, 47] 47 #[s22.enc, s29.enc]) h28 fun s31 h30 =>
    F.spateref8_Key.j2 Q (F.spateref8_Key.l1 Q q1) x1 s31 x6 h30) ∧
    (((b25 == 0)) = false →
    F.spateref8_Key.j2 Q (F.spateref8_Key.l1 Q q1) x1 s22 x6 h21)) ∧
    ((decide (x6 < (y12.size : Int))) = false →
    newL h #[(.int .u8 0), (.int .u8 1)] ty_5 2 fun s33 h32 =>
    runL PP (Builtin.append_ #[47, 47] 47 #[x5.enc, s33.enc]) h32 fun s35 h34 =>
    ldI .i64 h34 (x1.add 2) fun y36 =>
    ∃ m, F.spateref8_Key.l3 Q m s35 (IntKind.wrap .u64 ((IntKind.wrap .u64 y36) + 9223372036854775808)) 0 h34)
/-- spate/spateref8.Key -/
def F.spateref8_Key (p0 : S_api_Cell) (h : H) (Q : ByteArray → Int → H → Prop) : Prop :=
  new h p0.cells.toArray ty_34 fun a2 h1 =>
  ld_S_api_Cell h1 a2 fun y3 =>
  F.spateref8_wrong y3 h1 fun r6 h5 =>
  (((r6 != 0)) = true →
  Q (⟨#[]⟩ : ByteArray) r6 h5) ∧
  (((r6 != 0)) = false →
  ldI .i64 h5 (a2.add 0) fun y8 =>
  newL h5 #[(.int .u8 (IntKind.wrap .u8 y8))] ty_5 1 fun s11 h10 =>
  ∃ m, F.spateref8_Key.l1 Q m a2 s11 0 h10)
theorem F.spateref8_Key_ok {p0 : S_api_Cell} {h : H} {Q : ByteArray → Int → H → Prop} (H : F.spateref8_Key p0 h Q) : Fn PP 24 ([(.agg p0.cells.toArray)] : List Value).toArray h fun r h' => ∃ r0 r1, r = .tuple #[(.string r0), (.int .i64 r1)] ∧ Q r0 r1 h' := by
  unfold F.spateref8_Key at H
  refine fn_of Try.func24 Try.ntmps24 rfl rfl fun w0 => ?_
  refine tr_sub [(0, (.agg p0.cells.toArray))] ⟨rfl, trivial⟩ ?_
  refine tr_seq ?_
  refine tr_region ?_
  refine tr_e (f_box (cs := p0.cells.toArray) rfl rfl H) rfl rfl ?_
  rintro _ h1 ⟨a2, rfl, H⟩
  refine tr_p (y_assign rfl) rfl rfl ?_
  refine tr_p (y_assign rfl) rfl rfl ?_
  refine tr_nil ?_
  refine tr_thenN ?_
  refine tr_seq ?_
  refine tr_region ?_
  obtain ⟨y3, k4, H⟩ := H
  refine tr_h (y_ldS Try.isAgg34 Try.sizeOf34 rfl rfl) k4 rfl rfl ?_
  refine tr_e (e_call Try.call41 rfl (F.spateref8_wrong_ok H)) rfl rfl ?_
  rintro _ h5 ⟨r6, rfl, H⟩
  refine tr_p (y_assign rfl) rfl rfl ?_
  refine tr_nil ?_
  refine tr_thenN ?_
  refine tr_seq ?_
  refine tr_seq ?_
  refine tr_region ?_
  refine tr_p (y_move rfl) rfl rfl ?_
  refine tr_p (y_neq rfl rfl) rfl rfl ?_
  refine tr_nil ?_
  refine tr_thenN ?_
  refine tr_cond rfl (fun g7 => ?_) (fun g7 => ?_)
  · replace H := H.1 g7
    refine tr_seq ?_
    refine tr_region ?_
    refine tr_p (y_move rfl) rfl rfl ?_
    refine tr_p (y_assign rfl) rfl rfl ?_
    refine tr_p (y_assign rfl) rfl rfl ?_
    refine tr_nil ?_
    refine tr_thenN ?_
    refine tr_ret ?_
    refine tr_thenR ?_
    exact tr_ret2 rfl rfl rfl ⟨_, _, rfl, H⟩
  · replace H := H.2 g7
    refine tr_skip ?_
    refine tr_thenN ?_
    refine tr_seq ?_
    refine tr_region ?_
    refine tr_p (y_fa (off := 0) Try.runUnderlying34 fo_34_0 rfl) rfl rfl ?_
    obtain ⟨y8, k9, H⟩ := H
    refine tr_h (y_ld Try.isAgg3 rfl) k9 rfl rfl ?_
    refine tr_p (y_cvt Try.runUnderlying3 Try.runUnderlying5 rfl) rfl rfl ?_
    refine tr_e (f_buildL (cs := #[(.int .u8 (IntKind.wrap .u8 y8))]) rfl rfl (bl_47_1_0 (IntKind.wrap .u8 y8)) H) rfl rfl ?_
    rintro _ h10 ⟨s11, rfl, H⟩
    refine tr_p (y_assign rfl) rfl rfl ?_
    refine tr_nil ?_
    refine tr_thenN ?_
    refine tr_seq ?_
    refine tr_seq ?_
    refine tr_region ?_
    refine tr_p (y_assign rfl) rfl rfl ?_
    refine tr_nil ?_
    refine tr_thenN ?_
    refine tr_block ?_
    obtain ⟨m47, H⟩ := H
    refine tr_sub [(1, (.pointer (some a2))), (5, s11.enc), (6, (.int .i64 0))] ⟨rfl, rfl, rfl, trivial⟩ ?_
    refine tr_loop_j (fun m L' h => ∃ (x1 : Addr) (x5 : Sl) (x6 : Int), L' = [(1, (.pointer (some x1))), (5, x5.enc), (6, (.int .i64 x6))] ∧ F.spateref8_Key.l1 Q m x1 x5 x6 h) ?_ ?_ m47 ⟨_, _, _, rfl, H⟩
    · rintro L' h ⟨_, _, _, _, H⟩; exact H
    · rintro q1 L' h ⟨x1, x5, x6, rfl, H⟩
      unfold F.spateref8_Key.l1 at H
      refine tr_seq ?_
      refine tr_seq ?_
      refine tr_region ?_
      refine tr_p (y_move rfl) rfl rfl ?_
      refine tr_p (y_fa (off := 1) Try.runUnderlying34 fo_34_1 rfl) rfl rfl ?_
      obtain ⟨y12, k13, H⟩ := H
      refine tr_h (y_ld Try.isAgg9 rfl) k13 rfl rfl ?_
      refine tr_p (y_lenS Try.runUnderlying9 rfl) rfl rfl ?_
      refine tr_p (y_lss rfl rfl) rfl rfl ?_
      refine tr_nil ?_
      refine tr_thenN ?_
      refine tr_cond rfl (fun g14 => ?_) (fun g14 => ?_)
      · replace H := H.1 g14
        refine tr_skip ?_
        refine tr_thenN ?_
        refine tr_seq_j (fun L' h => ∃ (x1 : Addr) (x5 : Sl) (x6 : Int), L' = [(1, (.pointer (some x1))), (5, x5.enc), (6, (.int .i64 x6))] ∧ F.spateref8_Key.j2 Q (F.spateref8_Key.l1 Q q1) x1 x5 x6 h) ?_ ?_
        · rintro L' h ⟨x1, x5, x6, rfl, H⟩
          unfold F.spateref8_Key.j2 at H
          refine tr_region ?_
          refine tr_p (y_move rfl) rfl rfl ?_
          refine tr_p (y_add rfl rfl) rfl rfl ?_
          refine tr_p (y_assign rfl) rfl rfl ?_
          refine tr_nil ?_
          refine tr_thenN ?_
          exact tr_join [(1, (.pointer (some x1))), (5, x5.enc), (6, (.int .i64 (IntKind.wrap .i64 (x6 + 1))))] ⟨rfl, rfl, rfl, trivial⟩ ⟨_, _, _, rfl, H⟩
        · refine tr_block ?_
          refine tr_seq ?_
          refine tr_region ?_
          refine tr_p (y_move rfl) rfl rfl ?_
          refine tr_p (y_fa (off := 1) Try.runUnderlying34 fo_34_1 rfl) rfl rfl ?_
          obtain ⟨y15, k16, H⟩ := H
          refine tr_h (y_ld Try.isAgg9 rfl) k16 rfl rfl ?_
          refine tr_p (y_move rfl) rfl rfl ?_
          obtain ⟨b17, e18, H⟩ := H
          refine tr_p (f_idxS Try.runUnderlying9 rfl rfl e18) rfl rfl ?_
          refine tr_e (f_buildL (cs := #[(.int .u8 b17)]) rfl rfl (bl_47_1_0 b17) H) rfl rfl ?_
          rintro _ h19 ⟨s20, rfl, H⟩
          refine tr_e (f_app rfl H) rfl rfl ?_
          rintro _ h21 ⟨s22, rfl, H⟩
          refine tr_p (y_assign rfl) rfl rfl ?_
          refine tr_nil ?_
          refine tr_thenN ?_
          refine tr_seq ?_
          refine tr_region ?_
          refine tr_p (y_fa (off := 1) Try.runUnderlying34 fo_34_1 rfl) rfl rfl ?_
          obtain ⟨y23, k24, H⟩ := H
          refine tr_h (y_ld Try.isAgg9 rfl) k24 rfl rfl ?_
          refine tr_p (y_move rfl) rfl rfl ?_
          obtain ⟨b25, e26, H⟩ := H
          refine tr_p (f_idxS Try.runUnderlying9 rfl rfl e26) rfl rfl ?_
          refine tr_p (y_eql rfl rfl) rfl rfl ?_
          refine tr_nil ?_
          refine tr_thenN ?_
          refine tr_cond rfl (fun g27 => ?_) (fun g27 => ?_)
          · replace H := H.1 g27
            refine tr_region ?_
            refine tr_p (y_move rfl) rfl rfl ?_
            refine tr_e (f_buildL (cs := #[(.int .u8 255)]) rfl rfl (bl_47_1_0 255) H) rfl rfl ?_
            rintro _ h28 ⟨s29, rfl, H⟩
            refine tr_e (f_app rfl H) rfl rfl ?_
            rintro _ h30 ⟨s31, rfl, H⟩
            refine tr_p (y_assign rfl) rfl rfl ?_
            refine tr_nil ?_
            refine tr_blockN ?_
            refine tr_thenN ?_
            exact tr_join [(1, (.pointer (some x1))), (5, s31.enc), (6, (.int .i64 x6))] ⟨rfl, rfl, rfl, trivial⟩ ⟨_, _, _, rfl, H⟩
          · replace H := H.2 g27
            refine tr_skip ?_
            refine tr_blockN ?_
            refine tr_thenN ?_
            exact tr_join [(1, (.pointer (some x1))), (5, s22.enc), (6, (.int .i64 x6))] ⟨rfl, rfl, rfl, trivial⟩ ⟨_, _, _, rfl, H⟩
      · replace H := H.2 g14
        refine tr_exit ?_
        refine tr_thenE ?_
        refine tr_thenE ?_
        refine tr_hit ?_
        refine tr_thenN ?_
        refine tr_seq ?_
        refine tr_region ?_
        refine tr_p (y_move rfl) rfl rfl ?_
        refine tr_e (f_buildL (cs := #[(.int .u8 0), (.int .u8 1)]) rfl rfl (bl_47_2_0_1 0 1) H) rfl rfl ?_
        rintro _ h32 ⟨s33, rfl, H⟩
        refine tr_e (f_app rfl H) rfl rfl ?_
        rintro _ h34 ⟨s35, rfl, H⟩
        refine tr_p (y_assign rfl) rfl rfl ?_
        refine tr_nil ?_
        refine tr_thenN ?_
        refine tr_seq ?_
        refine tr_region ?_
        refine tr_p (y_fa (off := 2) Try.runUnderlying34 fo_34_2 rfl) rfl rfl ?_
        obtain ⟨y36, k37, H⟩ := H
        refine tr_h (y_ld Try.isAgg2 rfl) k37 rfl rfl ?_
        refine tr_p (y_cvt Try.runUnderlying2 Try.runUnderlying76 rfl) rfl rfl ?_
        refine tr_p (y_add rfl rfl) rfl rfl ?_
        refine tr_p (y_assign rfl) rfl rfl ?_
        refine tr_nil ?_
        refine tr_thenN ?_
        refine tr_seq ?_
        refine tr_seq ?_
        refine tr_region ?_
        refine tr_p (y_assign rfl) rfl rfl ?_
        refine tr_nil ?_
        refine tr_thenN ?_
        refine tr_block ?_
        obtain ⟨m46, H⟩ := H
        refine tr_sub [(5, s35.enc), (7, (.int .u64 (IntKind.wrap .u64 ((IntKind.wrap .u64 y36) + 9223372036854775808)))), (8, (.int .i64 0))] ⟨rfl, rfl, rfl, trivial⟩ ?_
        refine tr_loop_j (fun m L' h => ∃ (x5 : Sl) (x7 : Int) (x8 : Int), L' = [(5, x5.enc), (7, (.int .u64 x7)), (8, (.int .i64 x8))] ∧ F.spateref8_Key.l3 Q m x5 x7 x8 h) ?_ ?_ m46 ⟨_, _, _, rfl, H⟩
        · rintro L' h ⟨_, _, _, _, H⟩; exact H
        · rintro q3 L' h ⟨x5, x7, x8, rfl, H⟩
          unfold F.spateref8_Key.l3 at H
          refine tr_seq ?_
          refine tr_seq ?_
          refine tr_region ?_
          refine tr_p (y_move rfl) rfl rfl ?_
          refine tr_p (y_lss rfl rfl) rfl rfl ?_
          refine tr_nil ?_
          refine tr_thenN ?_
          refine tr_cond rfl (fun g38 => ?_) (fun g38 => ?_)
          · replace H := H.1 g38
            refine tr_skip ?_
            refine tr_thenN ?_
            refine tr_seq ?_
            refine tr_block ?_
            refine tr_region ?_
            refine tr_p (y_move rfl) rfl rfl ?_
            refine tr_p (y_move rfl) rfl rfl ?_
            refine tr_p (y_move rfl) rfl rfl ?_
            refine tr_p (y_mul rfl rfl) rfl rfl ?_
            refine tr_p (y_sub rfl rfl) rfl rfl ?_
            obtain ⟨e39, H⟩ := H
            refine tr_p (y_shr rfl rfl e39) rfl rfl ?_
            refine tr_p (y_cvt Try.runUnderlying76 Try.runUnderlying5 rfl) rfl rfl ?_
            refine tr_e (f_buildL (cs := #[(.int .u8 (IntKind.wrap .u8 (Int.fdiv x7 (2 ^ (min ((IntKind.wrap .i64 (56 - (IntKind.wrap .i64 (8 * x8)))) : Int).toNat (IntKind.bits .u64)) : Int))))]) rfl rfl (bl_47_1_0 (IntKind.wrap .u8 (Int.fdiv x7 (2 ^ (min ((IntKind.wrap .i64 (56 - (IntKind.wrap .i64 (8 * x8)))) : Int).toNat (IntKind.bits .u64)) : Int)))) H) rfl rfl ?_
            rintro _ h40 ⟨s41, rfl, H⟩
            refine tr_e (f_app rfl H) rfl rfl ?_
            rintro _ h42 ⟨s43, rfl, H⟩
            refine tr_p (y_assign rfl) rfl rfl ?_
            refine tr_nil ?_
            refine tr_blockN ?_
            refine tr_thenN ?_
            refine tr_region ?_
            refine tr_p (y_move rfl) rfl rfl ?_
            refine tr_p (y_add rfl rfl) rfl rfl ?_
            refine tr_p (y_assign rfl) rfl rfl ?_
            refine tr_nil ?_
            refine tr_thenN ?_
            exact tr_join [(5, s43.enc), (7, (.int .u64 x7)), (8, (.int .i64 (IntKind.wrap .i64 (x8 + 1))))] ⟨rfl, rfl, rfl, trivial⟩ ⟨_, _, _, rfl, H⟩
          · replace H := H.2 g38
            refine tr_exit ?_
            refine tr_thenE ?_
            refine tr_thenE ?_
            refine tr_hit ?_
            refine tr_thenN ?_
            refine tr_seq ?_
            refine tr_region ?_
            refine tr_p (y_move rfl) rfl rfl ?_
            refine tr_e (f_cvtT rfl H) rfl rfl ?_
            rintro _ h44 ⟨s45, rfl, H⟩
            refine tr_p (y_assign rfl) rfl rfl ?_
            refine tr_p (y_assign rfl) rfl rfl ?_
            refine tr_nil ?_
            refine tr_thenN ?_
            refine tr_ret ?_
            exact tr_ret2 rfl rfl rfl ⟨_, _, rfl, H⟩

end Go.Proofs.Ytidpbnbjpglhfaa.V
