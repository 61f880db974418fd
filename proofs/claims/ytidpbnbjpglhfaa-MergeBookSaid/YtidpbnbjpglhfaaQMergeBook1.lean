/- Parts of the proof of MergeBook; no condition. -/
import Derived.Test.YtidpbnbjpglhfaaQMergeBook0
namespace Go.Proofs.Ytidpbnbjpglhfaa.V
open Go
set_option linter.unusedVariables false
set_option maxRecDepth 100000
def F.merge_may.j2 (Q : Int → H → Prop) (x17 : Bool) (h : H) : Prop :=
  (x17 = true →
  Q 22 h) ∧
  (x17 = false →
  Q 0 h)
def F.merge_may.j1 (Q : Int → H → Prop) (x1 : Addr) (x3 : Bool) (h : H) : Prop :=
  (x3 = true →
  Q 23 h) ∧
  (x3 = false →
  ldS h (x1.add 1) fun y4 =>
  ((decide ((y4.size : Int) > 32)) = true →
  Q 21 h) ∧
  ((decide ((y4.size : Int) > 32)) = false →
  ldI .i64 h (x1.add 2) fun y8 =>
  ((decide (y8 < (-2305843009213693952))) = true →
  F.merge_may.j2 Q true h) ∧
  ((decide (y8 < (-2305843009213693952))) = false →
  ldI .i64 h (x1.add 2) fun y11 =>
  F.merge_may.j2 Q (decide (y11 > 2305843009213693952)) h)))
/-- spate/merge.may -/
def F.merge_may (p0 : S_api_Cell) (h : H) (Q : Int → H → Prop) : Prop :=
  new h p0.cells.toArray ty_34 fun a2 h1 =>
  ldI .i64 h1 (a2.add 0) fun y13 =>
  ((decide (y13 < 0)) = true →
  F.merge_may.j1 Q a2 true h1) ∧
  ((decide (y13 < 0)) = false →
  ldI .i64 h1 (a2.add 0) fun y16 =>
  F.merge_may.j1 Q a2 (decide (y16 > 4)) h1)
theorem F.merge_may_ok {p0 : S_api_Cell} {h : H} {Q : Int → H → Prop} (H : F.merge_may p0 h Q) : Fn PP 40 ([(.agg p0.cells.toArray)] : List Value).toArray h fun r h' => ∃ r0, r = (.int .i64 r0) ∧ Q r0 h' := by
  unfold F.merge_may at H
  refine fn_of Try.func40 Try.ntmps40 rfl rfl fun w0 => ?_
  refine tr_sub [(0, (.agg p0.cells.toArray))] ⟨rfl, trivial⟩ ?_
  refine tr_seq ?_
  refine tr_region ?_
  refine tr_e (f_box (cs := p0.cells.toArray) rfl rfl H) rfl rfl ?_
  rintro _ h1 ⟨a2, rfl, H⟩
  refine tr_p (y_assign rfl) rfl rfl ?_
  refine tr_nil ?_
  refine tr_thenN ?_
  refine tr_seq ?_
  refine tr_block ?_
  refine tr_seq_j (fun L' h => ∃ (x1 : Addr) (x3 : Bool), L' = [(1, (.pointer (some x1))), (3, (.bool x3))] ∧ F.merge_may.j1 Q x1 x3 h) ?_ ?_
  · rintro L' h ⟨x1, x3, rfl, H⟩
    unfold F.merge_may.j1 at H
    refine tr_cond rfl (fun g3 => ?_) (fun g3 => ?_)
    · replace H := H.1 g3
      refine tr_seq ?_
      refine tr_region ?_
      refine tr_p (y_assign rfl) rfl rfl ?_
      refine tr_nil ?_
      refine tr_thenN ?_
      refine tr_ret ?_
      refine tr_blockR ?_
      refine tr_thenR ?_
      exact tr_ret1 rfl rfl ⟨_, rfl, H⟩
    · replace H := H.2 g3
      refine tr_seq ?_
      refine tr_region ?_
      refine tr_p (y_fa (off := 1) Try.runUnderlying34 fo_34_1 rfl) rfl rfl ?_
      obtain ⟨y4, k5, H⟩ := H
      refine tr_h (y_ld Try.isAgg9 rfl) k5 rfl rfl ?_
      refine tr_p (y_lenS Try.runUnderlying9 rfl) rfl rfl ?_
      refine tr_p (y_gtr rfl rfl) rfl rfl ?_
      refine tr_p (y_assign rfl) rfl rfl ?_
      refine tr_nil ?_
      refine tr_thenN ?_
      refine tr_cond rfl (fun g6 => ?_) (fun g6 => ?_)
      · replace H := H.1 g6
        refine tr_seq ?_
        refine tr_region ?_
        refine tr_p (y_assign rfl) rfl rfl ?_
        refine tr_nil ?_
        refine tr_thenN ?_
        refine tr_ret ?_
        refine tr_blockR ?_
        refine tr_thenR ?_
        exact tr_ret1 rfl rfl ⟨_, rfl, H⟩
      · replace H := H.2 g6
        refine tr_seq_j (fun L' h => ∃ (x17 : Bool), L' = [(17, (.bool x17))] ∧ F.merge_may.j2 Q x17 h) ?_ ?_
        · rintro L' h ⟨x17, rfl, H⟩
          unfold F.merge_may.j2 at H
          refine tr_cond rfl (fun g7 => ?_) (fun g7 => ?_)
          · replace H := H.1 g7
            refine tr_seq ?_
            refine tr_region ?_
            refine tr_p (y_assign rfl) rfl rfl ?_
            refine tr_nil ?_
            refine tr_thenN ?_
            refine tr_ret ?_
            refine tr_blockR ?_
            refine tr_thenR ?_
            exact tr_ret1 rfl rfl ⟨_, rfl, H⟩
          · replace H := H.2 g7
            refine tr_skip ?_
            refine tr_blockN ?_
            refine tr_thenN ?_
            refine tr_seq ?_
            refine tr_region ?_
            refine tr_p (y_assign rfl) rfl rfl ?_
            refine tr_nil ?_
            refine tr_thenN ?_
            refine tr_ret ?_
            exact tr_ret1 rfl rfl ⟨_, rfl, H⟩
        · refine tr_region ?_
          refine tr_p (y_fa (off := 2) Try.runUnderlying34 fo_34_2 rfl) rfl rfl ?_
          obtain ⟨y8, k9, H⟩ := H
          refine tr_h (y_ld Try.isAgg2 rfl) k9 rfl rfl ?_
          refine tr_p (y_lss rfl rfl) rfl rfl ?_
          refine tr_p (y_move rfl) rfl rfl ?_
          refine tr_split (t := 21) rfl (fun g10 => ?_) (fun g10 => ?_)
          · replace H := H.1 g10
            refine tr_s rfl rfl ?_
            refine tr_s rfl rfl ?_
            refine tr_s rfl rfl ?_
            refine tr_p (y_pick_t rfl rfl) rfl rfl ?_
            refine tr_p (y_assign rfl) rfl rfl ?_
            refine tr_nil ?_
            refine tr_thenN ?_
            exact tr_join [(17, (.bool true))] ⟨rfl, trivial⟩ ⟨_, rfl, H⟩
          · replace H := H.2 g10
            refine tr_p (y_fa (off := 2) Try.runUnderlying34 fo_34_2 rfl) rfl rfl ?_
            obtain ⟨y11, k12, H⟩ := H
            refine tr_h (y_ld Try.isAgg2 rfl) k12 rfl rfl ?_
            refine tr_p (y_gtr rfl rfl) rfl rfl ?_
            refine tr_p (y_pick_f rfl rfl) rfl rfl ?_
            refine tr_p (y_assign rfl) rfl rfl ?_
            refine tr_nil ?_
            refine tr_thenN ?_
            exact tr_join [(17, (.bool (decide (y11 > 2305843009213693952))))] ⟨rfl, trivial⟩ ⟨_, rfl, H⟩
  · refine tr_region ?_
    refine tr_p (y_fa (off := 0) Try.runUnderlying34 fo_34_0 rfl) rfl rfl ?_
    obtain ⟨y13, k14, H⟩ := H
    refine tr_h (y_ld Try.isAgg3 rfl) k14 rfl rfl ?_
    refine tr_p (y_lss rfl rfl) rfl rfl ?_
    refine tr_p (y_move rfl) rfl rfl ?_
    refine tr_split (t := 7) rfl (fun g15 => ?_) (fun g15 => ?_)
    · replace H := H.1 g15
      refine tr_s rfl rfl ?_
      refine tr_s rfl rfl ?_
      refine tr_s rfl rfl ?_
      refine tr_p (y_pick_t rfl rfl) rfl rfl ?_
      refine tr_p (y_assign rfl) rfl rfl ?_
      refine tr_nil ?_
      refine tr_thenN ?_
      exact tr_join [(1, (.pointer (some a2))), (3, (.bool true))] ⟨rfl, rfl, trivial⟩ ⟨_, _, rfl, H⟩
    · replace H := H.2 g15
      refine tr_p (y_fa (off := 0) Try.runUnderlying34 fo_34_0 rfl) rfl rfl ?_
      obtain ⟨y16, k17, H⟩ := H
      refine tr_h (y_ld Try.isAgg3 rfl) k17 rfl rfl ?_
      refine tr_p (y_gtr rfl rfl) rfl rfl ?_
      refine tr_p (y_pick_f rfl rfl) rfl rfl ?_
      refine tr_p (y_assign rfl) rfl rfl ?_
      refine tr_nil ?_
      refine tr_thenN ?_
      exact tr_join [(1, (.pointer (some a2))), (3, (.bool (decide (y16 > 4))))] ⟨rfl, rfl, trivial⟩ ⟨_, _, rfl, H⟩
def F.merge_Key.l2 (Q : ByteArray → Int → H → Prop) : Nat → Sl → Int → Int → H → Prop
  | 0, _, _, _, _ => False
  | q2 + 1, x5, x7, x8, h =>
    ((decide (x8 ≥ 0)) = true →
    0 ≤ (x8 : Int) ∧
    newL h #[(.int .u8 (IntKind.wrap .u8 (Int.fdiv x7 (2 ^ (min (x8 : Int).toNat (IntKind.bits .u64)) : Int))))] ty_5 1 fun s41 h40 =>
    runL PP (Builtin.append_ #[47, 47] 47 #[x5.enc, s41.enc]) h40 fun s43 h42 =>
    (F.merge_Key.l2 Q q2) s43 x7 (IntKind.wrap .i64 (x8 - 8)) h42) ∧
    ((decide (x8 ≥ 0)) = false →
    runT PP (convert 47 9 x5.enc) h fun s45 h44 =>
    Q s45 0 h44)
def F.merge_Key.l1 (Q : ByteArray → Int → H → Prop) : Nat → Addr → Sl → Int → Int → H → Prop
  | 0, _, _, _, _, _ => False
  | q1 + 1, x1, x5, x20, x21, h =>
    ((decide (x21 < x20)) = true →
    ldS h (x1.add 1) fun y15 =>
    idxS y15 x21 fun b17 =>
    newL h #[(.int .u8 b17)] ty_5 1 fun s20 h19 =>
    runL PP (Builtin.append_ #[47, 47] 47 #[x5.enc, s20.enc]) h19 fun s22 h21 =>
    ldS h21 (x1.add 1) fun y23 =>
    idxS y23 x21 fun b25 =>
    (((b25 == 0)) = true →
    newL h21 #[(.int .u8 255)] ty_5 1 fun s29 h28 =>
    runL PP (Builtin.append_ #[47, 47] 47 #[s22.enc, s29.enc]) h28 fun s31 h30 =>
    (F.merge_Key.l1 Q q1) x1 s31 x20 (IntKind.wrap .i64 (x21 + 1)) h30) ∧
    (((b25 == 0)) = false →
    (F.merge_Key.l1 Q q1) x1 s22 x20 (IntKind.wrap .i64 (x21 + 1)) h21)) ∧
    ((decide (x21 < x20)) = false →
    newL h #[(.int .u8 0), (.int .u8 1)] ty_5 2 fun s33 h32 =>
    runL PP (Builtin.append_ #[47, 47] 47 #[x5.enc, s33.enc]) h32 fun s35 h34 =>
    ldI .i64 h34 (x1.add 2) fun y36 =>
    ∃ m, F.merge_Key.l2 Q m s35 (IntKind.wrap .u64 ((IntKind.wrap .u64 y36) + 9223372036854775808)) 56 h34)
/-- spate/merge.Key -/
def F.merge_Key (p0 : S_api_Cell) (h : H) (Q : ByteArray → Int → H → Prop) : Prop :=
  new h p0.cells.toArray ty_34 fun a2 h1 =>
  ld_S_api_Cell h1 a2 fun y3 =>
  F.merge_may y3 h1 fun r6 h5 =>
  (((r6 != 0)) = true →
  Q (⟨#[]⟩ : ByteArray) r6 h5) ∧
  (((r6 != 0)) = false →
  ldI .i64 h5 (a2.add 0) fun y8 =>
  newL h5 #[(.int .u8 (IntKind.wrap .u8 y8))] ty_5 1 fun s11 h10 =>
  ldS h10 (a2.add 1) fun y12 =>
  ∃ m, F.merge_Key.l1 Q m a2 s11 (y12.size : Int) 0 h10)
theorem F.merge_Key_ok {p0 : S_api_Cell} {h : H} {Q : ByteArray → Int → H → Prop} (H : F.merge_Key p0 h Q) : Fn PP 23 ([(.agg p0.cells.toArray)] : List Value).toArray h fun r h' => ∃ r0 r1, r = .tuple #[(.string r0), (.int .i64 r1)] ∧ Q r0 r1 h' := by
  unfold F.merge_Key at H
  refine fn_of Try.func23 Try.ntmps23 rfl rfl fun w0 => ?_
  refine tr_sub [(0, (.agg p0.cells.toArray))] ⟨rfl, trivial⟩ ?_
  refine tr_seq ?_
  refine tr_region ?_
  refine tr_e (f_box (cs := p0.cells.toArray) rfl rfl H) rfl rfl ?_
  rintro _ h1 ⟨a2, rfl, H⟩
  refine tr_p (y_assign rfl) rfl rfl ?_
  refine tr_p (y_assign rfl) rfl rfl ?_
  refine tr_nil ?_
  refine tr_thenN ?_
  refine tr_seq ?_
  refine tr_seq ?_
  refine tr_region ?_
  obtain ⟨y3, k4, H⟩ := H
  refine tr_h (y_ldS Try.isAgg34 Try.sizeOf34 rfl rfl) k4 rfl rfl ?_
  refine tr_e (e_call Try.call40 rfl (F.merge_may_ok H)) rfl rfl ?_
  rintro _ h5 ⟨r6, rfl, H⟩
  refine tr_p (y_assign rfl) rfl rfl ?_
  refine tr_nil ?_
  refine tr_thenN ?_
  refine tr_seq ?_
  refine tr_region ?_
  refine tr_p (y_move rfl) rfl rfl ?_
  refine tr_p (y_neq rfl rfl) rfl rfl ?_
  refine tr_nil ?_
  refine tr_thenN ?_
  refine tr_cond rfl (fun g7 => ?_) (fun g7 => ?_)
  · replace H := H.1 g7
    refine tr_seq ?_
    refine tr_region ?_
    refine tr_p (y_move rfl) rfl rfl ?_
    refine tr_p (y_assign rfl) rfl rfl ?_
    refine tr_p (y_assign rfl) rfl rfl ?_
    refine tr_nil ?_
    refine tr_thenN ?_
    refine tr_ret ?_
    refine tr_thenR ?_
    exact tr_ret2 rfl rfl rfl ⟨_, _, rfl, H⟩
  · replace H := H.2 g7
    refine tr_skip ?_
    refine tr_thenN ?_
    refine tr_seq ?_
    refine tr_region ?_
    refine tr_p (y_fa (off := 0) Try.runUnderlying34 fo_34_0 rfl) rfl rfl ?_
    obtain ⟨y8, k9, H⟩ := H
    refine tr_h (y_ld Try.isAgg3 rfl) k9 rfl rfl ?_
    refine tr_p (y_cvt Try.runUnderlying3 Try.runUnderlying5 rfl) rfl rfl ?_
    refine tr_e (f_buildL (cs := #[(.int .u8 (IntKind.wrap .u8 y8))]) rfl rfl (bl_47_1_0 (IntKind.wrap .u8 y8)) H) rfl rfl ?_
    rintro _ h10 ⟨s11, rfl, H⟩
    refine tr_p (y_assign rfl) rfl rfl ?_
    refine tr_nil ?_
    refine tr_thenN ?_
    refine tr_seq ?_
    refine tr_seq ?_
    refine tr_region ?_
    refine tr_p (y_fa (off := 1) Try.runUnderlying34 fo_34_1 rfl) rfl rfl ?_
    obtain ⟨y12, k13, H⟩ := H
    refine tr_h (y_ld Try.isAgg9 rfl) k13 rfl rfl ?_
    refine tr_p (y_lenS Try.runUnderlying9 rfl) rfl rfl ?_
    refine tr_p (y_move rfl) rfl rfl ?_
    refine tr_nil ?_
    refine tr_thenN ?_
    refine tr_block ?_
    obtain ⟨m47, H⟩ := H
    refine tr_sub [(1, (.pointer (some a2))), (5, s11.enc), (20, (.int .i64 (y12.size : Int))), (21, (.int .i64 0))] ⟨rfl, rfl, rfl, rfl, trivial⟩ ?_
    refine tr_loop_j (fun m L' h => ∃ (x1 : Addr) (x5 : Sl) (x20 : Int) (x21 : Int), L' = [(1, (.pointer (some x1))), (5, x5.enc), (20, (.int .i64 x20)), (21, (.int .i64 x21))] ∧ F.merge_Key.l1 Q m x1 x5 x20 x21 h) ?_ ?_ m47 ⟨_, _, _, _, rfl, H⟩
    · rintro L' h ⟨_, _, _, _, _, H⟩; exact H
    · rintro q1 L' h ⟨x1, x5, x20, x21, rfl, H⟩
      unfold F.merge_Key.l1 at H
      refine tr_seq ?_
      refine tr_region ?_
      refine tr_p (y_lss rfl rfl) rfl rfl ?_
      refine tr_nil ?_
      refine tr_thenN ?_
      refine tr_seq ?_
      refine tr_cond rfl (fun g14 => ?_) (fun g14 => ?_)
      · replace H := H.1 g14
        refine tr_skip ?_
        refine tr_thenN ?_
        refine tr_seq ?_
        refine tr_block ?_
        refine tr_seq ?_
        refine tr_region ?_
        refine tr_p (y_move rfl) rfl rfl ?_
        refine tr_p (y_assign rfl) rfl rfl ?_
        refine tr_nil ?_
        refine tr_thenN ?_
        refine tr_seq ?_
        refine tr_region ?_
        refine tr_p (y_move rfl) rfl rfl ?_
        refine tr_p (y_fa (off := 1) Try.runUnderlying34 fo_34_1 rfl) rfl rfl ?_
        obtain ⟨y15, k16, H⟩ := H
        refine tr_h (y_ld Try.isAgg9 rfl) k16 rfl rfl ?_
        refine tr_p (y_move rfl) rfl rfl ?_
        obtain ⟨b17, e18, H⟩ := H
        refine tr_p (f_idxS Try.runUnderlying9 rfl rfl e18) rfl rfl ?_
        refine tr_e (f_buildL (cs := #[(.int .u8 b17)]) rfl rfl (bl_47_1_0 b17) H) rfl rfl ?_
        rintro _ h19 ⟨s20, rfl, H⟩
        refine tr_e (f_app rfl H) rfl rfl ?_
        rintro _ h21 ⟨s22, rfl, H⟩
        refine tr_p (y_assign rfl) rfl rfl ?_
        refine tr_nil ?_
        refine tr_thenN ?_
        refine tr_seq ?_
        refine tr_region ?_
        refine tr_p (y_fa (off := 1) Try.runUnderlying34 fo_34_1 rfl) rfl rfl ?_
        obtain ⟨y23, k24, H⟩ := H
        refine tr_h (y_ld Try.isAgg9 rfl) k24 rfl rfl ?_
        refine tr_p (y_move rfl) rfl rfl ?_
        obtain ⟨b25, e26, H⟩ := H
        refine tr_p (f_idxS Try.runUnderlying9 rfl rfl e26) rfl rfl ?_
        refine tr_p (y_eql rfl rfl) rfl rfl ?_
        refine tr_nil ?_
        refine tr_thenN ?_
        refine tr_cond rfl (fun g27 => ?_) (fun g27 => ?_)
        · replace H := H.1 g27
          refine tr_region ?_
          refine tr_p (y_move rfl) rfl rfl ?_
          refine tr_e (f_buildL (cs := #[(.int .u8 255)]) rfl rfl (bl_47_1_0 255) H) rfl rfl ?_
          rintro _ h28 ⟨s29, rfl, H⟩
          refine tr_e (f_app rfl H) rfl rfl ?_
          rintro _ h30 ⟨s31, rfl, H⟩
          refine tr_p (y_assign rfl) rfl rfl ?_
          refine tr_nil ?_
          refine tr_blockN ?_
          refine tr_thenN ?_
          refine tr_region ?_
          refine tr_p (y_add rfl rfl) rfl rfl ?_
          refine tr_p (y_move rfl) rfl rfl ?_
          refine tr_nil ?_
          refine tr_thenN ?_
          exact tr_join [(1, (.pointer (some x1))), (5, s31.enc), (20, (.int .i64 x20)), (21, (.int .i64 (IntKind.wrap .i64 (x21 + 1))))] ⟨rfl, rfl, rfl, rfl, trivial⟩ ⟨_, _, _, _, rfl, H⟩
        · replace H := H.2 g27
          refine tr_skip ?_
          refine tr_blockN ?_
          refine tr_thenN ?_
          refine tr_region ?_
          refine tr_p (y_add rfl rfl) rfl rfl ?_
          refine tr_p (y_move rfl) rfl rfl ?_
          refine tr_nil ?_
          refine tr_thenN ?_
          exact tr_join [(1, (.pointer (some x1))), (5, s22.enc), (20, (.int .i64 x20)), (21, (.int .i64 (IntKind.wrap .i64 (x21 + 1))))] ⟨rfl, rfl, rfl, rfl, trivial⟩ ⟨_, _, _, _, rfl, H⟩
      · replace H := H.2 g14
        refine tr_exit ?_
        refine tr_thenE ?_
        refine tr_thenE ?_
        refine tr_hit ?_
        refine tr_thenN ?_
        refine tr_seq ?_
        refine tr_region ?_
        refine tr_p (y_move rfl) rfl rfl ?_
        refine tr_e (f_buildL (cs := #[(.int .u8 0), (.int .u8 1)]) rfl rfl (bl_47_2_0_1 0 1) H) rfl rfl ?_
        rintro _ h32 ⟨s33, rfl, H⟩
        refine tr_e (f_app rfl H) rfl rfl ?_
        rintro _ h34 ⟨s35, rfl, H⟩
        refine tr_p (y_assign rfl) rfl rfl ?_
        refine tr_nil ?_
        refine tr_thenN ?_
        refine tr_seq ?_
        refine tr_region ?_
        refine tr_p (y_fa (off := 2) Try.runUnderlying34 fo_34_2 rfl) rfl rfl ?_
        obtain ⟨y36, k37, H⟩ := H
        refine tr_h (y_ld Try.isAgg2 rfl) k37 rfl rfl ?_
        refine tr_p (y_cvt Try.runUnderlying2 Try.runUnderlying76 rfl) rfl rfl ?_
        refine tr_p (y_add rfl rfl) rfl rfl ?_
        refine tr_p (y_assign rfl) rfl rfl ?_
        refine tr_nil ?_
        refine tr_thenN ?_
        refine tr_seq ?_
        refine tr_seq ?_
        refine tr_region ?_
        refine tr_p (y_assign rfl) rfl rfl ?_
        refine tr_nil ?_
        refine tr_thenN ?_
        refine tr_block ?_
        obtain ⟨m46, H⟩ := H
        refine tr_sub [(5, s35.enc), (7, (.int .u64 (IntKind.wrap .u64 ((IntKind.wrap .u64 y36) + 9223372036854775808)))), (8, (.int .i64 56))] ⟨rfl, rfl, rfl, trivial⟩ ?_
        refine tr_loop_j (fun m L' h => ∃ (x5 : Sl) (x7 : Int) (x8 : Int), L' = [(5, x5.enc), (7, (.int .u64 x7)), (8, (.int .i64 x8))] ∧ F.merge_Key.l2 Q m x5 x7 x8 h) ?_ ?_ m46 ⟨_, _, _, rfl, H⟩
        · rintro L' h ⟨_, _, _, _, H⟩; exact H
        · rintro q2 L' h ⟨x5, x7, x8, rfl, H⟩
          unfold F.merge_Key.l2 at H
          refine tr_seq ?_
          refine tr_seq ?_
          refine tr_region ?_
          refine tr_p (y_move rfl) rfl rfl ?_
          refine tr_p (y_geq rfl rfl) rfl rfl ?_
          refine tr_nil ?_
          refine tr_thenN ?_
          refine tr_cond rfl (fun g38 => ?_) (fun g38 => ?_)
          · replace H := H.1 g38
            refine tr_skip ?_
            refine tr_thenN ?_
            refine tr_seq ?_
            refine tr_block ?_
            refine tr_region ?_
            refine tr_p (y_move rfl) rfl rfl ?_
            refine tr_p (y_move rfl) rfl rfl ?_
            refine tr_p (y_move rfl) rfl rfl ?_
            obtain ⟨e39, H⟩ := H
            refine tr_p (y_shr rfl rfl e39) rfl rfl ?_
            refine tr_p (y_cvt Try.runUnderlying76 Try.runUnderlying5 rfl) rfl rfl ?_
            refine tr_e (f_buildL (cs := #[(.int .u8 (IntKind.wrap .u8 (Int.fdiv x7 (2 ^ (min (x8 : Int).toNat (IntKind.bits .u64)) : Int))))]) rfl rfl (bl_47_1_0 (IntKind.wrap .u8 (Int.fdiv x7 (2 ^ (min (x8 : Int).toNat (IntKind.bits .u64)) : Int)))) H) rfl rfl ?_
            rintro _ h40 ⟨s41, rfl, H⟩
            refine tr_e (f_app rfl H) rfl rfl ?_
            rintro _ h42 ⟨s43, rfl, H⟩
            refine tr_p (y_assign rfl) rfl rfl ?_
            refine tr_nil ?_
            refine tr_blockN ?_
            refine tr_thenN ?_
            refine tr_region ?_
            refine tr_p (y_move rfl) rfl rfl ?_
            refine tr_p (y_sub rfl rfl) rfl rfl ?_
            refine tr_p (y_assign rfl) rfl rfl ?_
            refine tr_nil ?_
            refine tr_thenN ?_
            exact tr_join [(5, s43.enc), (7, (.int .u64 x7)), (8, (.int .i64 (IntKind.wrap .i64 (x8 - 8))))] ⟨rfl, rfl, rfl, trivial⟩ ⟨_, _, _, rfl, H⟩
          · replace H := H.2 g38
            refine tr_exit ?_
            refine tr_thenE ?_
            refine tr_thenE ?_
            refine tr_hit ?_
            refine tr_thenN ?_
            refine tr_seq ?_
            refine tr_region ?_
            refine tr_p (y_move rfl) rfl rfl ?_
            refine tr_e (f_cvtT rfl H) rfl rfl ?_
            rintro _ h44 ⟨s45, rfl, H⟩
            refine tr_p (y_assign rfl) rfl rfl ?_
            refine tr_p (y_assign rfl) rfl rfl ?_
            refine tr_nil ?_
            refine tr_thenN ?_
            refine tr_ret ?_
            exact tr_ret2 rfl rfl rfl ⟨_, _, rfl, H⟩
def F.merge_Cell.l2 (Q : S_api_Cell → Int → H → Prop) : Nat → ByteArray → Addr → Addr → Int → Sl → Int → H → Prop
  | 0, _, _, _, _, _, _, _ => False
  | q2 + 1, x0, x2, x4, x5, x6, x8, h =>
    ((decide (x5 < (x0.size : Int))) = true →
    0 ≤ (8 : Int) ∧
    idxS x0 x5 fun b42 =>
    (F.merge_Cell.l2 Q q2) x0 x2 x4 (IntKind.wrap .i64 (x5 + 1)) x6 (bitsOf .or .u64 (IntKind.wrap .u64 (x8 * (2 ^ (min (8 : Int).toNat (IntKind.bits .u64)) : Int))) (IntKind.wrap .u64 b42)) h) ∧
    ((decide (x5 < (x0.size : Int))) = false →
    runT PP (convert 47 9 x6.enc) h fun s45 h44 =>
    stH h44 (x4.add 1) [(.string s45)] fun h46 =>
    stH h46 (x4.add 2) [(.int .i64 (IntKind.wrap .i64 (IntKind.wrap .u64 (x8 - 9223372036854775808))))] fun h47 =>
    ld_S_api_Cell h47 x4 fun y48 =>
    F.merge_may y48 h47 fun r51 h50 =>
    (((r51 != 0)) = true →
    stH h50 x2 ((⟨0, (⟨#[]⟩ : ByteArray), 0⟩ : S_api_Cell).cells) fun h53 =>
    ld_S_api_Cell h53 x2 fun y54 =>
    Q y54 r51 h53) ∧
    (((r51 != 0)) = false →
    ld_S_api_Cell h50 x4 fun y56 =>
    stH h50 x2 y56.cells fun h58 =>
    ld_S_api_Cell h58 x2 fun y59 =>
    Q y59 0 h58))
def F.merge_Cell.l1 (Q : S_api_Cell → Int → H → Prop) : Nat → ByteArray → Addr → Addr → Int → Sl → H → Prop
  | 0, _, _, _, _, _, _ => False
  | q1 + 1, x0, x2, x4, x5, x6, h =>
    (((x5 == (x0.size : Int))) = true →
    stH h x2 ((⟨0, (⟨#[]⟩ : ByteArray), 0⟩ : S_api_Cell).cells) fun h13 =>
    ld_S_api_Cell h13 x2 fun y14 =>
    Q y14 11 h13) ∧
    (((x5 == (x0.size : Int))) = false →
    idxS x0 x5 fun b16 =>
    (((b16 != 0)) = true →
    idxS x0 x5 fun b19 =>
    newL h #[(.int .u8 b19)] ty_5 1 fun s22 h21 =>
    runL PP (Builtin.append_ #[47, 47] 47 #[x6.enc, s22.enc]) h21 fun s24 h23 =>
    (F.merge_Cell.l1 Q q1) x0 x2 x4 (IntKind.wrap .i64 (x5 + 1)) s24 h23) ∧
    (((b16 != 0)) = false →
    ((((IntKind.wrap .i64 (x5 + 1)) == (x0.size : Int))) = true →
    stH h x2 ((⟨0, (⟨#[]⟩ : ByteArray), 0⟩ : S_api_Cell).cells) fun h26 =>
    ld_S_api_Cell h26 x2 fun y27 =>
    Q y27 11 h26) ∧
    ((((IntKind.wrap .i64 (x5 + 1)) == (x0.size : Int))) = false →
    idxS x0 (IntKind.wrap .i64 ((IntKind.wrap .i64 (x5 + 2)) - 1)) fun b29 =>
    (((b29 == 1)) = true →
    ((decide ((IntKind.wrap .i64 ((x0.size : Int) - (IntKind.wrap .i64 (x5 + 2)))) < 8)) = true →
    stH h x2 ((⟨0, (⟨#[]⟩ : ByteArray), 0⟩ : S_api_Cell).cells) fun h33 =>
    ld_S_api_Cell h33 x2 fun y34 =>
    Q y34 11 h33) ∧
    ((decide ((IntKind.wrap .i64 ((x0.size : Int) - (IntKind.wrap .i64 (x5 + 2)))) < 8)) = false →
    ((decide ((IntKind.wrap .i64 ((x0.size : Int) - (IntKind.wrap .i64 (x5 + 2)))) > 8)) = true →
    stH h x2 ((⟨0, (⟨#[]⟩ : ByteArray), 0⟩ : S_api_Cell).cells) fun h37 =>
    ld_S_api_Cell h37 x2 fun y38 =>
    Q y38 13 h37) ∧
    ((decide ((IntKind.wrap .i64 ((x0.size : Int) - (IntKind.wrap .i64 (x5 + 2)))) > 8)) = false →
    ∃ m, F.merge_Cell.l2 Q m x0 x2 x4 (IntKind.wrap .i64 (x5 + 2)) x6 0 h))) ∧
    (((b29 == 1)) = false →
    idxS x0 (IntKind.wrap .i64 ((IntKind.wrap .i64 (x5 + 2)) - 1)) fun b62 =>
    (((b62 != 255)) = true →
    stH h x2 ((⟨0, (⟨#[]⟩ : ByteArray), 0⟩ : S_api_Cell).cells) fun h65 =>
    ld_S_api_Cell h65 x2 fun y66 =>
    Q y66 12 h65) ∧
    (((b62 != 255)) = false →
    newL h #[(.int .u8 0)] ty_5 1 fun s69 h68 =>
    runL PP (Builtin.append_ #[47, 47] 47 #[x6.enc, s69.enc]) h68 fun s71 h70 =>
    (F.merge_Cell.l1 Q q1) x0 x2 x4 (IntKind.wrap .i64 (x5 + 2)) s71 h70)))))
/-- spate/merge.Cell -/
def F.merge_Cell (p0 : ByteArray) (h : H) (Q : S_api_Cell → Int → H → Prop) : Prop :=
  new h (((⟨0, (⟨#[]⟩ : ByteArray), 0⟩ : S_api_Cell) : S_api_Cell).cells.toArray) ty_34 fun a2 h1 =>
  ((p0.toList == (⟨#[]⟩ : ByteArray).toList) = true →
  stH h1 a2 ((⟨0, (⟨#[]⟩ : ByteArray), 0⟩ : S_api_Cell).cells) fun h4 =>
  ld_S_api_Cell h4 a2 fun y5 =>
  Q y5 11 h4) ∧
  ((p0.toList == (⟨#[]⟩ : ByteArray).toList) = false →
  idxS p0 0 fun b7 =>
  new h1 (((⟨0, (⟨#[]⟩ : ByteArray), 0⟩ : S_api_Cell) : S_api_Cell).cells.toArray) ty_34 fun a10 h9 =>
  stH h9 a10 ((⟨(IntKind.wrap .i64 b7), (⟨#[]⟩ : ByteArray), 0⟩ : S_api_Cell).cells) fun h11 =>
  ∃ m, F.merge_Cell.l1 Q m p0 a2 a10 1 (⟨none, 0, 0⟩ : Sl) h11)
theorem F.merge_Cell_ok {p0 : ByteArray} {h : H} {Q : S_api_Cell → Int → H → Prop} (H : F.merge_Cell p0 h Q) : Fn PP 22 ([(.string p0)] : List Value).toArray h fun r h' => ∃ r0 r1, r = .tuple #[(.agg r0.cells.toArray), (.int .i64 r1)] ∧ Q r0 r1 h' := by
  unfold F.merge_Cell at H
  refine fn_of Try.func22 Try.ntmps22 rfl rfl fun w0 => ?_
  refine tr_sub [(0, (.string p0))] ⟨rfl, trivial⟩ ?_
  refine tr_seq ?_
  refine tr_region ?_
  refine tr_e (f_alloc (cs := ((⟨0, (⟨#[]⟩ : ByteArray), 0⟩ : S_api_Cell) : S_api_Cell).cells.toArray) Try.zeroValue34 rfl H) rfl rfl ?_
  rintro _ h1 ⟨a2, rfl, H⟩
  refine tr_p (y_assign rfl) rfl rfl ?_
  refine tr_nil ?_
  refine tr_thenN ?_
  refine tr_seq ?_
  refine tr_seq ?_
  refine tr_region ?_
  refine tr_p (y_move rfl) rfl rfl ?_
  refine tr_p (y_seql rfl rfl) rfl rfl ?_
  refine tr_nil ?_
  refine tr_thenN ?_
  refine tr_cond rfl (fun g3 => ?_) (fun g3 => ?_)
  · replace H := H.1 g3
    refine tr_seq ?_
    refine tr_region ?_
    refine tr_p (f_build rfl (bd_34_ )) rfl rfl ?_
    refine tr_e (f_store (vs := (⟨0, (⟨#[]⟩ : ByteArray), 0⟩ : S_api_Cell).cells) Try.sizeOf34 rfl rfl cellsOfStruct rfl (by intro v hv; exact ones_S_api_Cell _ v hv) H) rfl rfl ?_
    rintro _ h4 ⟨rfl, H⟩
    refine tr_p (y_assign rfl) rfl rfl ?_
    refine tr_nil ?_
    refine tr_thenN ?_
    refine tr_ret ?_
    refine tr_thenR ?_
    obtain ⟨y5, k6, H⟩ := H
    exact tr_rv2 rfl (rv_cellS Try.isAgg34 Try.sizeOf34 rfl rfl k6) (rv_tmp rfl) ⟨_, _, rfl, H⟩
  · replace H := H.2 g3
    refine tr_skip ?_
    refine tr_thenN ?_
    refine tr_seq ?_
    refine tr_region ?_
    refine tr_p (y_move rfl) rfl rfl ?_
    obtain ⟨b7, e8, H⟩ := H
    refine tr_p (f_idxS Try.runUnderlying9 rfl rfl e8) rfl rfl ?_
    refine tr_p (y_cvt Try.runUnderlying5 Try.runUnderlying3 rfl) rfl rfl ?_
    refine tr_p (f_build rfl (bd_34_0 (IntKind.wrap .i64 b7))) rfl rfl ?_
    refine tr_e (f_alloc (cs := ((⟨0, (⟨#[]⟩ : ByteArray), 0⟩ : S_api_Cell) : S_api_Cell).cells.toArray) Try.zeroValue34 rfl H) rfl rfl ?_
    rintro _ h9 ⟨a10, rfl, H⟩
    refine tr_e (f_store (vs := (⟨(IntKind.wrap .i64 b7), (⟨#[]⟩ : ByteArray), 0⟩ : S_api_Cell).cells) Try.sizeOf34 rfl rfl cellsOfStruct rfl (by intro v hv; exact ones_S_api_Cell _ v hv) H) rfl rfl ?_
    rintro _ h11 ⟨rfl, H⟩
    refine tr_nil ?_
    refine tr_thenN ?_
    refine tr_seq ?_
    refine tr_region ?_
    refine tr_p (y_assign rfl) rfl rfl ?_
    refine tr_nil ?_
    refine tr_thenN ?_
    refine tr_seq ?_
    refine tr_region ?_
    refine tr_p (y_assign rfl) rfl rfl ?_
    refine tr_nil ?_
    refine tr_thenN ?_
    refine tr_seq ?_
    refine tr_block ?_
    obtain ⟨m72, H⟩ := H
    refine tr_sub [(0, (.string p0)), (2, (.pointer (some a2))), (4, (.pointer (some a10))), (5, (.int .i64 1)), (6, (⟨none, 0, 0⟩ : Sl).enc)] ⟨rfl, rfl, rfl, rfl, rfl, trivial⟩ ?_
    refine tr_loop_j (fun m L' h => ∃ (x0 : ByteArray) (x2 : Addr) (x4 : Addr) (x5 : Int) (x6 : Sl), L' = [(0, (.string x0)), (2, (.pointer (some x2))), (4, (.pointer (some x4))), (5, (.int .i64 x5)), (6, x6.enc)] ∧ F.merge_Cell.l1 Q m x0 x2 x4 x5 x6 h) ?_ ?_ m72 ⟨_, _, _, _, _, rfl, H⟩
    · rintro L' h ⟨_, _, _, _, _, _, H⟩; exact H
    · rintro q1 L' h ⟨x0, x2, x4, x5, x6, rfl, H⟩
      unfold F.merge_Cell.l1 at H
      refine tr_block ?_
      refine tr_seq ?_
      refine tr_seq ?_
      refine tr_region ?_
      refine tr_p (y_move rfl) rfl rfl ?_
      refine tr_p (y_move rfl) rfl rfl ?_
      refine tr_p (y_lenS Try.runUnderlying9 rfl) rfl rfl ?_
      refine tr_p (y_eql rfl rfl) rfl rfl ?_
      refine tr_nil ?_
      refine tr_thenN ?_
      refine tr_cond rfl (fun g12 => ?_) (fun g12 => ?_)
      · replace H := H.1 g12
        refine tr_seq ?_
        refine tr_region ?_
        refine tr_p (f_build rfl (bd_34_ )) rfl rfl ?_
        refine tr_e (f_store (vs := (⟨0, (⟨#[]⟩ : ByteArray), 0⟩ : S_api_Cell).cells) Try.sizeOf34 rfl rfl cellsOfStruct rfl (by intro v hv; exact ones_S_api_Cell _ v hv) H) rfl rfl ?_
        rintro _ h13 ⟨rfl, H⟩
        refine tr_p (y_assign rfl) rfl rfl ?_
        refine tr_nil ?_
        refine tr_thenN ?_
        refine tr_ret ?_
        refine tr_thenR ?_
        refine tr_blockR ?_
        refine tr_thenR ?_
        refine tr_blockR ?_
        refine tr_thenR ?_
        obtain ⟨y14, k15, H⟩ := H
        exact tr_rv2 rfl (rv_cellS Try.isAgg34 Try.sizeOf34 rfl rfl k15) (rv_tmp rfl) ⟨_, _, rfl, H⟩
      · replace H := H.2 g12
        refine tr_skip ?_
        refine tr_thenN ?_
        refine tr_seq ?_
        refine tr_seq ?_
        refine tr_region ?_
        refine tr_p (y_move rfl) rfl rfl ?_
        refine tr_p (y_move rfl) rfl rfl ?_
        obtain ⟨b16, e17, H⟩ := H
        refine tr_p (f_idxS Try.runUnderlying9 rfl rfl e17) rfl rfl ?_
        refine tr_p (y_neq rfl rfl) rfl rfl ?_
        refine tr_nil ?_
        refine tr_thenN ?_
        refine tr_cond rfl (fun g18 => ?_) (fun g18 => ?_)
        · replace H := H.1 g18
          refine tr_seq ?_
          refine tr_region ?_
          refine tr_p (y_move rfl) rfl rfl ?_
          refine tr_p (y_move rfl) rfl rfl ?_
          refine tr_p (y_move rfl) rfl rfl ?_
          obtain ⟨b19, e20, H⟩ := H
          refine tr_p (f_idxS Try.runUnderlying9 rfl rfl e20) rfl rfl ?_
          refine tr_e (f_buildL (cs := #[(.int .u8 b19)]) rfl rfl (bl_47_1_0 b19) H) rfl rfl ?_
          rintro _ h21 ⟨s22, rfl, H⟩
          refine tr_e (f_app rfl H) rfl rfl ?_
          rintro _ h23 ⟨s24, rfl, H⟩
          refine tr_p (y_assign rfl) rfl rfl ?_
          refine tr_nil ?_
          refine tr_thenN ?_
          refine tr_seq ?_
          refine tr_region ?_
          refine tr_p (y_move rfl) rfl rfl ?_
          refine tr_p (y_add rfl rfl) rfl rfl ?_
          refine tr_p (y_assign rfl) rfl rfl ?_
          refine tr_nil ?_
          refine tr_thenN ?_
          refine tr_exit ?_
          refine tr_thenE ?_
          refine tr_hit ?_
          refine tr_thenN ?_
          exact tr_join [(0, (.string x0)), (2, (.pointer (some x2))), (4, (.pointer (some x4))), (5, (.int .i64 (IntKind.wrap .i64 (x5 + 1)))), (6, s24.enc)] ⟨rfl, rfl, rfl, rfl, rfl, trivial⟩ ⟨_, _, _, _, _, rfl, H⟩
        · replace H := H.2 g18
          refine tr_skip ?_
          refine tr_thenN ?_
          refine tr_seq ?_
          refine tr_seq ?_
          refine tr_region ?_
          refine tr_p (y_move rfl) rfl rfl ?_
          refine tr_p (y_add rfl rfl) rfl rfl ?_
          refine tr_p (y_move rfl) rfl rfl ?_
          refine tr_p (y_lenS Try.runUnderlying9 rfl) rfl rfl ?_
          refine tr_p (y_eql rfl rfl) rfl rfl ?_
          refine tr_nil ?_
          refine tr_thenN ?_
          refine tr_cond rfl (fun g25 => ?_) (fun g25 => ?_)
          · replace H := H.1 g25
            refine tr_seq ?_
            refine tr_region ?_
            refine tr_p (f_build rfl (bd_34_ )) rfl rfl ?_
            refine tr_e (f_store (vs := (⟨0, (⟨#[]⟩ : ByteArray), 0⟩ : S_api_Cell).cells) Try.sizeOf34 rfl rfl cellsOfStruct rfl (by intro v hv; exact ones_S_api_Cell _ v hv) H) rfl rfl ?_
            rintro _ h26 ⟨rfl, H⟩
            refine tr_p (y_assign rfl) rfl rfl ?_
            refine tr_nil ?_
            refine tr_thenN ?_
            refine tr_ret ?_
            refine tr_thenR ?_
            refine tr_blockR ?_
            refine tr_thenR ?_
            refine tr_blockR ?_
            refine tr_thenR ?_
            obtain ⟨y27, k28, H⟩ := H
            exact tr_rv2 rfl (rv_cellS Try.isAgg34 Try.sizeOf34 rfl rfl k28) (rv_tmp rfl) ⟨_, _, rfl, H⟩
          · replace H := H.2 g25
            refine tr_skip ?_
            refine tr_thenN ?_
            refine tr_seq ?_
            refine tr_region ?_
            refine tr_p (y_move rfl) rfl rfl ?_
            refine tr_p (y_add rfl rfl) rfl rfl ?_
            refine tr_p (y_assign rfl) rfl rfl ?_
            refine tr_nil ?_
            refine tr_thenN ?_
            refine tr_seq ?_
            refine tr_seq ?_
            refine tr_region ?_
            refine tr_p (y_move rfl) rfl rfl ?_
            refine tr_p (y_move rfl) rfl rfl ?_
            refine tr_p (y_sub rfl rfl) rfl rfl ?_
            obtain ⟨b29, e30, H⟩ := H
            refine tr_p (f_idxS Try.runUnderlying9 rfl rfl e30) rfl rfl ?_
            refine tr_p (y_eql rfl rfl) rfl rfl ?_
            refine tr_nil ?_
            refine tr_thenN ?_
            refine tr_cond rfl (fun g31 => ?_) (fun g31 => ?_)
            · replace H := H.1 g31
              refine tr_exit ?_
              refine tr_thenE ?_
              refine tr_miss rfl ?_
              refine tr_thenE ?_
              refine tr_hit ?_
              refine tr_thenN ?_
              refine tr_seq ?_
              refine tr_seq ?_
              refine tr_region ?_
              refine tr_p (y_move rfl) rfl rfl ?_
              refine tr_p (y_lenS Try.runUnderlying9 rfl) rfl rfl ?_
              refine tr_p (y_move rfl) rfl rfl ?_
              refine tr_p (y_sub rfl rfl) rfl rfl ?_
              refine tr_p (y_assign rfl) rfl rfl ?_
              refine tr_nil ?_
              refine tr_thenN ?_
              refine tr_block ?_
              refine tr_seq ?_
              refine tr_region ?_
              refine tr_p (y_move rfl) rfl rfl ?_
              refine tr_p (y_lss rfl rfl) rfl rfl ?_
              refine tr_p (y_assign rfl) rfl rfl ?_
              refine tr_nil ?_
              refine tr_thenN ?_
              refine tr_cond rfl (fun g32 => ?_) (fun g32 => ?_)
              · replace H := H.1 g32
                refine tr_seq ?_
                refine tr_region ?_
                refine tr_p (f_build rfl (bd_34_ )) rfl rfl ?_
                refine tr_e (f_store (vs := (⟨0, (⟨#[]⟩ : ByteArray), 0⟩ : S_api_Cell).cells) Try.sizeOf34 rfl rfl cellsOfStruct rfl (by intro v hv; exact ones_S_api_Cell _ v hv) H) rfl rfl ?_
                rintro _ h33 ⟨rfl, H⟩
                refine tr_p (y_assign rfl) rfl rfl ?_
                refine tr_nil ?_
                refine tr_thenN ?_
                refine tr_ret ?_
                refine tr_blockR ?_
                refine tr_thenR ?_
                obtain ⟨y34, k35, H⟩ := H
                exact tr_rv2 rfl (rv_cellS Try.isAgg34 Try.sizeOf34 rfl rfl k35) (rv_tmp rfl) ⟨_, _, rfl, H⟩
              · replace H := H.2 g32
                refine tr_seq ?_
                refine tr_region ?_
                refine tr_p (y_move rfl) rfl rfl ?_
                refine tr_p (y_gtr rfl rfl) rfl rfl ?_
                refine tr_p (y_assign rfl) rfl rfl ?_
                refine tr_nil ?_
                refine tr_thenN ?_
                refine tr_cond rfl (fun g36 => ?_) (fun g36 => ?_)
                · replace H := H.1 g36
                  refine tr_seq ?_
                  refine tr_region ?_
                  refine tr_p (f_build rfl (bd_34_ )) rfl rfl ?_
                  refine tr_e (f_store (vs := (⟨0, (⟨#[]⟩ : ByteArray), 0⟩ : S_api_Cell).cells) Try.sizeOf34 rfl rfl cellsOfStruct rfl (by intro v hv; exact ones_S_api_Cell _ v hv) H) rfl rfl ?_
                  rintro _ h37 ⟨rfl, H⟩
                  refine tr_p (y_assign rfl) rfl rfl ?_
                  refine tr_nil ?_
                  refine tr_thenN ?_
                  refine tr_ret ?_
                  refine tr_blockR ?_
                  refine tr_thenR ?_
                  obtain ⟨y38, k39, H⟩ := H
                  exact tr_rv2 rfl (rv_cellS Try.isAgg34 Try.sizeOf34 rfl rfl k39) (rv_tmp rfl) ⟨_, _, rfl, H⟩
                · replace H := H.2 g36
                  refine tr_skip ?_
                  refine tr_blockN ?_
                  refine tr_thenN ?_
                  refine tr_seq ?_
                  refine tr_region ?_
                  refine tr_p (y_assign rfl) rfl rfl ?_
                  refine tr_nil ?_
                  refine tr_thenN ?_
                  refine tr_seq ?_
                  refine tr_block ?_
                  obtain ⟨m61, H⟩ := H
                  refine tr_sub [(0, (.string x0)), (2, (.pointer (some x2))), (4, (.pointer (some x4))), (5, (.int .i64 (IntKind.wrap .i64 (x5 + 2)))), (6, x6.enc), (8, (.int .u64 0))] ⟨rfl, rfl, rfl, rfl, rfl, rfl, trivial⟩ ?_
                  refine tr_loop_j (fun m L' h => ∃ (x0 : ByteArray) (x2 : Addr) (x4 : Addr) (x5 : Int) (x6 : Sl) (x8 : Int), L' = [(0, (.string x0)), (2, (.pointer (some x2))), (4, (.pointer (some x4))), (5, (.int .i64 x5)), (6, x6.enc), (8, (.int .u64 x8))] ∧ F.merge_Cell.l2 Q m x0 x2 x4 x5 x6 x8 h) ?_ ?_ m61 ⟨_, _, _, _, _, _, rfl, H⟩
                  · rintro L' h ⟨_, _, _, _, _, _, _, H⟩; exact H
                  · rintro q2 L' h ⟨x0, x2, x4, x5, x6, x8, rfl, H⟩
                    unfold F.merge_Cell.l2 at H
                    refine tr_seq ?_
                    refine tr_seq ?_
                    refine tr_region ?_
                    refine tr_p (y_move rfl) rfl rfl ?_
                    refine tr_p (y_move rfl) rfl rfl ?_
                    refine tr_p (y_lenS Try.runUnderlying9 rfl) rfl rfl ?_
                    refine tr_p (y_lss rfl rfl) rfl rfl ?_
                    refine tr_nil ?_
                    refine tr_thenN ?_
                    refine tr_cond rfl (fun g40 => ?_) (fun g40 => ?_)
                    · replace H := H.1 g40
                      refine tr_skip ?_
                      refine tr_thenN ?_
                      refine tr_seq ?_
                      refine tr_block ?_
                      refine tr_region ?_
                      refine tr_p (y_move rfl) rfl rfl ?_
                      obtain ⟨e41, H⟩ := H
                      refine tr_p (y_shl rfl rfl e41) rfl rfl ?_
                      refine tr_p (y_move rfl) rfl rfl ?_
                      refine tr_p (y_move rfl) rfl rfl ?_
                      obtain ⟨b42, e43, H⟩ := H
                      refine tr_p (f_idxS Try.runUnderlying9 rfl rfl e43) rfl rfl ?_
                      refine tr_p (y_cvt Try.runUnderlying5 Try.runUnderlying76 rfl) rfl rfl ?_
                      refine tr_p (y_or rfl rfl) rfl rfl ?_
                      refine tr_p (y_assign rfl) rfl rfl ?_
                      refine tr_nil ?_
                      refine tr_blockN ?_
                      refine tr_thenN ?_
                      refine tr_region ?_
                      refine tr_p (y_move rfl) rfl rfl ?_
                      refine tr_p (y_add rfl rfl) rfl rfl ?_
                      refine tr_p (y_assign rfl) rfl rfl ?_
                      refine tr_nil ?_
                      refine tr_thenN ?_
                      exact tr_join [(0, (.string x0)), (2, (.pointer (some x2))), (4, (.pointer (some x4))), (5, (.int .i64 (IntKind.wrap .i64 (x5 + 1)))), (6, x6.enc), (8, (.int .u64 (bitsOf .or .u64 (IntKind.wrap .u64 (x8 * (2 ^ (min (8 : Int).toNat (IntKind.bits .u64)) : Int))) (IntKind.wrap .u64 b42))))] ⟨rfl, rfl, rfl, rfl, rfl, rfl, trivial⟩ ⟨_, _, _, _, _, _, rfl, H⟩
                    · replace H := H.2 g40
                      refine tr_exit ?_
                      refine tr_thenE ?_
                      refine tr_thenE ?_
                      refine tr_hit ?_
                      refine tr_thenN ?_
                      refine tr_seq ?_
                      refine tr_region ?_
                      refine tr_p (y_move rfl) rfl rfl ?_
                      refine tr_e (f_cvtT rfl H) rfl rfl ?_
                      rintro _ h44 ⟨s45, rfl, H⟩
                      refine tr_p (y_move rfl) rfl rfl ?_
                      refine tr_p (y_sub rfl rfl) rfl rfl ?_
                      refine tr_p (y_cvt Try.runUnderlying76 Try.runUnderlying2 rfl) rfl rfl ?_
                      refine tr_p (y_fa (off := 1) Try.runUnderlying34 fo_34_1 rfl) rfl rfl ?_
                      refine tr_e (f_store (vs := [(.string s45)]) Try.sizeOf9 rfl rfl rfl rfl (one1 rfl) H) rfl rfl ?_
                      rintro _ h46 ⟨rfl, H⟩
                      refine tr_p (y_fa (off := 2) Try.runUnderlying34 fo_34_2 rfl) rfl rfl ?_
                      refine tr_e (f_store (vs := [(.int .i64 (IntKind.wrap .i64 (IntKind.wrap .u64 (x8 - 9223372036854775808))))]) Try.sizeOf2 rfl rfl rfl rfl (one1 rfl) H) rfl rfl ?_
                      rintro _ h47 ⟨rfl, H⟩
                      refine tr_nil ?_
                      refine tr_thenN ?_
                      refine tr_seq ?_
                      refine tr_seq ?_
                      refine tr_region ?_
                      obtain ⟨y48, k49, H⟩ := H
                      refine tr_h (y_ldS Try.isAgg34 Try.sizeOf34 rfl rfl) k49 rfl rfl ?_
                      refine tr_e (e_call Try.call40 rfl (F.merge_may_ok H)) rfl rfl ?_
                      rintro _ h50 ⟨r51, rfl, H⟩
                      refine tr_p (y_assign rfl) rfl rfl ?_
                      refine tr_nil ?_
                      refine tr_thenN ?_
                      refine tr_seq ?_
                      refine tr_region ?_
                      refine tr_p (y_move rfl) rfl rfl ?_
                      refine tr_p (y_neq rfl rfl) rfl rfl ?_
                      refine tr_nil ?_
                      refine tr_thenN ?_
                      refine tr_cond rfl (fun g52 => ?_) (fun g52 => ?_)
                      · replace H := H.1 g52
                        refine tr_seq ?_
                        refine tr_region ?_
                        refine tr_p (f_build rfl (bd_34_ )) rfl rfl ?_
                        refine tr_p (y_move rfl) rfl rfl ?_
                        refine tr_e (f_store (vs := (⟨0, (⟨#[]⟩ : ByteArray), 0⟩ : S_api_Cell).cells) Try.sizeOf34 rfl rfl cellsOfStruct rfl (by intro v hv; exact ones_S_api_Cell _ v hv) H) rfl rfl ?_
                        rintro _ h53 ⟨rfl, H⟩
                        refine tr_p (y_assign rfl) rfl rfl ?_
                        refine tr_nil ?_
                        refine tr_thenN ?_
                        refine tr_ret ?_
                        refine tr_thenR ?_
                        obtain ⟨y54, k55, H⟩ := H
                        exact tr_rv2 rfl (rv_cellS Try.isAgg34 Try.sizeOf34 rfl rfl k55) (rv_tmp rfl) ⟨_, _, rfl, H⟩
                      · replace H := H.2 g52
                        refine tr_skip ?_
                        refine tr_thenN ?_
                        refine tr_seq ?_
                        refine tr_region ?_
                        obtain ⟨y56, k57, H⟩ := H
                        refine tr_h (y_ldS Try.isAgg34 Try.sizeOf34 rfl rfl) k57 rfl rfl ?_
                        refine tr_e (f_store (vs := y56.cells) Try.sizeOf34 rfl rfl cellsOfStruct rfl (by intro v hv; exact ones_S_api_Cell _ v hv) H) rfl rfl ?_
                        rintro _ h58 ⟨rfl, H⟩
                        refine tr_p (y_assign rfl) rfl rfl ?_
                        refine tr_nil ?_
                        refine tr_thenN ?_
                        refine tr_ret ?_
                        obtain ⟨y59, k60, H⟩ := H
                        exact tr_rv2 rfl (rv_cellS Try.isAgg34 Try.sizeOf34 rfl rfl k60) (rv_tmp rfl) ⟨_, _, rfl, H⟩
            · replace H := H.2 g31
              refine tr_skip ?_
              refine tr_thenN ?_
              refine tr_seq ?_
              refine tr_seq ?_
              refine tr_region ?_
              refine tr_p (y_move rfl) rfl rfl ?_
              refine tr_p (y_move rfl) rfl rfl ?_
              refine tr_p (y_sub rfl rfl) rfl rfl ?_
              obtain ⟨b62, e63, H⟩ := H
              refine tr_p (f_idxS Try.runUnderlying9 rfl rfl e63) rfl rfl ?_
              refine tr_p (y_neq rfl rfl) rfl rfl ?_
              refine tr_nil ?_
              refine tr_thenN ?_
              refine tr_cond rfl (fun g64 => ?_) (fun g64 => ?_)
              · replace H := H.1 g64
                refine tr_seq ?_
                refine tr_region ?_
                refine tr_p (f_build rfl (bd_34_ )) rfl rfl ?_
                refine tr_e (f_store (vs := (⟨0, (⟨#[]⟩ : ByteArray), 0⟩ : S_api_Cell).cells) Try.sizeOf34 rfl rfl cellsOfStruct rfl (by intro v hv; exact ones_S_api_Cell _ v hv) H) rfl rfl ?_
                rintro _ h65 ⟨rfl, H⟩
                refine tr_p (y_assign rfl) rfl rfl ?_
                refine tr_nil ?_
                refine tr_thenN ?_
                refine tr_ret ?_
                refine tr_thenR ?_
                refine tr_blockR ?_
                refine tr_thenR ?_
                refine tr_blockR ?_
                refine tr_thenR ?_
                obtain ⟨y66, k67, H⟩ := H
                exact tr_rv2 rfl (rv_cellS Try.isAgg34 Try.sizeOf34 rfl rfl k67) (rv_tmp rfl) ⟨_, _, rfl, H⟩
              · replace H := H.2 g64
                refine tr_skip ?_
                refine tr_thenN ?_
                refine tr_region ?_
                refine tr_p (y_move rfl) rfl rfl ?_
                refine tr_e (f_buildL (cs := #[(.int .u8 0)]) rfl rfl (bl_47_1_0 0) H) rfl rfl ?_
                rintro _ h68 ⟨s69, rfl, H⟩
                refine tr_e (f_app rfl H) rfl rfl ?_
                rintro _ h70 ⟨s71, rfl, H⟩
                refine tr_p (y_assign rfl) rfl rfl ?_
                refine tr_nil ?_
                refine tr_blockN ?_
                refine tr_thenN ?_
                exact tr_join [(0, (.string x0)), (2, (.pointer (some x2))), (4, (.pointer (some x4))), (5, (.int .i64 (IntKind.wrap .i64 (x5 + 2)))), (6, s71.enc)] ⟨rfl, rfl, rfl, rfl, rfl, trivial⟩ ⟨_, _, _, _, _, rfl, H⟩
def F.merge_two_int.j4 (Q : Sl → H → Prop) (C1 : Sl → Sl → Sl → H → Prop) (x0 : Sl) (x1 : Sl) (x5 : Sl) (x6 : Int) (x54 : Bool) (h : H) : Prop :=
  (x54 = true →
  newL h #[(.int .i64 x6)] ty_3 1 fun s3 h2 =>
  runL PP (Builtin.append_ #[23, 23] 23 #[x5.enc, s3.enc]) h2 fun s5 h4 =>
  C1 x0 x1 s5 h4) ∧
  (x54 = false →
  C1 x0 x1 x5 h)
def F.merge_two_int.j3 (Q : Sl → H → Prop) (C1 : Sl → Sl → Sl → H → Prop) (x0 : Sl) (x1 : Sl) (x5 : Sl) (x6 : Int) (h : H) : Prop :=
  ((((x5.len : Int) == 0)) = true →
  F.merge_two_int.j4 Q C1 x0 x1 x5 x6 true h) ∧
  ((((x5.len : Int) == 0)) = false →
  idxA x5 (IntKind.wrap .i64 ((x5.len : Int) - 1)) 1 fun a7 =>
  ldI .i64 h a7 fun y9 =>
  F.merge_two_int.j4 Q C1 x0 x1 x5 x6 ((y9 != x6)) h)
def F.merge_two_int.j5 (Q : Sl → H → Prop) (C1 : Sl → Sl → Sl → H → Prop) (x0 : Sl) (x1 : Sl) (x5 : Sl) (x31 : Bool) (h : H) : Prop :=
  (x31 = true →
  idxA x0 0 1 fun a12 =>
  ldI .i64 h a12 fun y14 =>
  cutL x0 1 (x0.len : Int) 1 fun s17 =>
  F.merge_two_int.j3 Q C1 s17 x1 x5 y14 h) ∧
  (x31 = false →
  idxA x1 0 1 fun a18 =>
  ldI .i64 h a18 fun y20 =>
  cutL x1 1 (x1.len : Int) 1 fun s23 =>
  F.merge_two_int.j3 Q C1 x0 s23 x5 y20 h)
def F.merge_two_int.j2 (Q : Sl → H → Prop) (C1 : Sl → Sl → Sl → H → Prop) (x0 : Sl) (x1 : Sl) (x5 : Sl) (h : H) : Prop :=
  ((((x1.len : Int) == 0)) = true →
  F.merge_two_int.j5 Q C1 x0 x1 x5 true h) ∧
  ((((x1.len : Int) == 0)) = false →
  ((decide ((x0.len : Int) > 0)) = true →
  idxA x0 0 1 fun a26 =>
  ldI .i64 h a26 fun y28 =>
  idxA x1 0 1 fun a30 =>
  ldI .i64 h a30 fun y32 =>
  F.merge_two_int.j5 Q C1 x0 x1 x5 (decide (y28 ≤ y32)) h) ∧
  ((decide ((x0.len : Int) > 0)) = false →
  F.merge_two_int.j5 Q C1 x0 x1 x5 false h))
def F.merge_two_int.j6 (Q : Sl → H → Prop) (C1 : Sl → Sl → Sl → H → Prop) (x0 : Sl) (x1 : Sl) (x5 : Sl) (x14 : Bool) (h : H) : Prop :=
  (x14 = true →
  F.merge_two_int.j2 Q C1 x0 x1 x5 h) ∧
  (x14 = false →
  Q x5 h)
def F.merge_two_int.l1 (Q : Sl → H → Prop) : Nat → Sl → Sl → Sl → H → Prop
  | 0, _, _, _, _ => False
  | q1 + 1, x0, x1, x5, h =>
    ((decide ((x0.len : Int) > 0)) = true →
    F.merge_two_int.j6 Q (F.merge_two_int.l1 Q q1) x0 x1 x5 true h) ∧
    ((decide ((x0.len : Int) > 0)) = false →
    F.merge_two_int.j6 Q (F.merge_two_int.l1 Q q1) x0 x1 x5 (decide ((x1.len : Int) > 0)) h)
/-- spate/merge.two[int] -/
def F.merge_two_int (p0 : Sl) (p1 : Sl) (h : H) (Q : Sl → H → Prop) : Prop :=
  ∃ m, F.merge_two_int.l1 Q m p0 p1 (⟨none, 0, 0⟩ : Sl) h
theorem F.merge_two_int_ok {p0 : Sl} {p1 : Sl} {h : H} {Q : Sl → H → Prop} (H : F.merge_two_int p0 p1 h Q) : Fn PP 38 ([p0.enc, p1.enc] : List Value).toArray h fun r h' => ∃ r0, r = r0.enc ∧ Q r0 h' := by
  unfold F.merge_two_int at H
  refine fn_of Try.func38 Try.ntmps38 rfl rfl fun w0 => ?_
  refine tr_sub [(0, p0.enc), (1, p1.enc)] ⟨rfl, rfl, trivial⟩ ?_
  refine tr_seq ?_
  refine tr_region ?_
  refine tr_p (y_assign rfl) rfl rfl ?_
  refine tr_nil ?_
  refine tr_thenN ?_
  refine tr_seq ?_
  refine tr_region ?_
  refine tr_p (y_assign rfl) rfl rfl ?_
  refine tr_nil ?_
  refine tr_thenN ?_
  refine tr_seq ?_
  refine tr_block ?_
  obtain ⟨m36, H⟩ := H
  refine tr_sub [(0, p0.enc), (1, p1.enc), (5, (⟨none, 0, 0⟩ : Sl).enc)] ⟨rfl, rfl, rfl, trivial⟩ ?_
  refine tr_loop_j (fun m L' h => ∃ (x0 : Sl) (x1 : Sl) (x5 : Sl), L' = [(0, x0.enc), (1, x1.enc), (5, x5.enc)] ∧ F.merge_two_int.l1 Q m x0 x1 x5 h) ?_ ?_ m36 ⟨_, _, _, rfl, H⟩
  · rintro L' h ⟨_, _, _, _, H⟩; exact H
  · rintro q1 L' h ⟨x0, x1, x5, rfl, H⟩
    unfold F.merge_two_int.l1 at H
    refine tr_seq_j (fun L' h => ∃ (x0 : Sl) (x1 : Sl) (x5 : Sl), L' = [(0, x0.enc), (1, x1.enc), (5, x5.enc)] ∧ F.merge_two_int.j2 Q (F.merge_two_int.l1 Q q1) x0 x1 x5 h) ?_ ?_
    · rintro L' h ⟨x0, x1, x5, rfl, H⟩
      unfold F.merge_two_int.j2 at H
      refine tr_block ?_
      refine tr_seq ?_
      refine tr_region ?_
      refine tr_p (y_assign rfl) rfl rfl ?_
      refine tr_nil ?_
      refine tr_thenN ?_
      refine tr_seq_j (fun L' h => ∃ (x0 : Sl) (x1 : Sl) (x5 : Sl) (x6 : Int), L' = [(0, x0.enc), (1, x1.enc), (5, x5.enc), (6, (.int .i64 x6))] ∧ F.merge_two_int.j3 Q (F.merge_two_int.l1 Q q1) x0 x1 x5 x6 h) ?_ ?_
      · rintro L' h ⟨x0, x1, x5, x6, rfl, H⟩
        unfold F.merge_two_int.j3 at H
        refine tr_seq_j (fun L' h => ∃ (x0 : Sl) (x1 : Sl) (x5 : Sl) (x6 : Int) (x54 : Bool), L' = [(0, x0.enc), (1, x1.enc), (5, x5.enc), (6, (.int .i64 x6)), (54, (.bool x54))] ∧ F.merge_two_int.j4 Q (F.merge_two_int.l1 Q q1) x0 x1 x5 x6 x54 h) ?_ ?_
        · rintro L' h ⟨x0, x1, x5, x6, x54, rfl, H⟩
          unfold F.merge_two_int.j4 at H
          refine tr_cond rfl (fun g1 => ?_) (fun g1 => ?_)
          · replace H := H.1 g1
            refine tr_region ?_
            refine tr_p (y_move rfl) rfl rfl ?_
            refine tr_p (y_move rfl) rfl rfl ?_
            refine tr_e (f_buildL (cs := #[(.int .i64 x6)]) rfl rfl (bl_23_1_0 x6) H) rfl rfl ?_
            rintro _ h2 ⟨s3, rfl, H⟩
            refine tr_e (f_app rfl H) rfl rfl ?_
            rintro _ h4 ⟨s5, rfl, H⟩
            refine tr_p (y_assign rfl) rfl rfl ?_
            refine tr_nil ?_
            refine tr_blockN ?_
            refine tr_thenN ?_
            exact tr_join [(0, x0.enc), (1, x1.enc), (5, s5.enc)] ⟨rfl, rfl, rfl, trivial⟩ ⟨_, _, _, rfl, H⟩
          · replace H := H.2 g1
            refine tr_skip ?_
            refine tr_blockN ?_
            refine tr_thenN ?_
            exact tr_join [(0, x0.enc), (1, x1.enc), (5, x5.enc)] ⟨rfl, rfl, rfl, trivial⟩ ⟨_, _, _, rfl, H⟩
        · refine tr_region ?_
          refine tr_p (y_move rfl) rfl rfl ?_
          refine tr_p (y_len (ts := #[]) Try.runUnderlying23 (o := x5.ptr) (n := x5.len) (cap := x5.cap) rfl) rfl rfl ?_
          refine tr_p (y_eql rfl rfl) rfl rfl ?_
          refine tr_p (y_move rfl) rfl rfl ?_
          refine tr_split (t := 45) rfl (fun g6 => ?_) (fun g6 => ?_)
          · replace H := H.1 g6
            refine tr_s rfl rfl ?_
            refine tr_s rfl rfl ?_
            refine tr_s rfl rfl ?_
            refine tr_s rfl rfl ?_
            refine tr_s rfl rfl ?_
            refine tr_s rfl rfl ?_
            refine tr_s rfl rfl ?_
            refine tr_s rfl rfl ?_
            refine tr_p (y_pick_t rfl rfl) rfl rfl ?_
            refine tr_nil ?_
            refine tr_thenN ?_
            exact tr_join [(0, x0.enc), (1, x1.enc), (5, x5.enc), (6, (.int .i64 x6)), (54, (.bool true))] ⟨rfl, rfl, rfl, rfl, rfl, trivial⟩ ⟨_, _, _, _, _, rfl, H⟩
          · replace H := H.2 g6
            refine tr_p (y_move rfl) rfl rfl ?_
            refine tr_p (y_move rfl) rfl rfl ?_
            refine tr_p (y_len (ts := #[]) Try.runUnderlying23 (o := x5.ptr) (n := x5.len) (cap := x5.cap) rfl) rfl rfl ?_
            refine tr_p (y_sub rfl rfl) rfl rfl ?_
            obtain ⟨a7, e8, H⟩ := H
            refine tr_p (f_idx (s := x5) Try.runUnderlying23 Try.sizeOf3 rfl rfl e8) rfl rfl ?_
            obtain ⟨y9, k10, H⟩ := H
            refine tr_h (y_ld Try.isAgg3 rfl) k10 rfl rfl ?_
            refine tr_p (y_move rfl) rfl rfl ?_
            refine tr_p (y_neq rfl rfl) rfl rfl ?_
            refine tr_p (y_pick_f rfl rfl) rfl rfl ?_
            refine tr_nil ?_
            refine tr_thenN ?_
            exact tr_join [(0, x0.enc), (1, x1.enc), (5, x5.enc), (6, (.int .i64 x6)), (54, (.bool ((y9 != x6))))] ⟨rfl, rfl, rfl, rfl, rfl, trivial⟩ ⟨_, _, _, _, _, rfl, H⟩
      · refine tr_seq_j (fun L' h => ∃ (x0 : Sl) (x1 : Sl) (x5 : Sl) (x31 : Bool), L' = [(0, x0.enc), (1, x1.enc), (5, x5.enc), (31, (.bool x31))] ∧ F.merge_two_int.j5 Q (F.merge_two_int.l1 Q q1) x0 x1 x5 x31 h) ?_ ?_
        · rintro L' h ⟨x0, x1, x5, x31, rfl, H⟩
          unfold F.merge_two_int.j5 at H
          refine tr_cond rfl (fun g11 => ?_) (fun g11 => ?_)
          · replace H := H.1 g11
            refine tr_draw mixed [0, 1, 3, 0, 8, 7, 63] (by kernel_rfl) ?_
            refine g_p 0 1 rfl (by kernel_rfl) (y_move rfl) rfl rfl ?_
            obtain ⟨a12, e13, H⟩ := H
            refine g_p 1 3 rfl (by kernel_rfl) (f_idx (s := x0) Try.runUnderlying23 Try.sizeOf3 rfl rfl e13) rfl rfl ?_
            obtain ⟨y14, k15, H⟩ := H
            refine g_h 2 7 rfl (by kernel_rfl) (y_ld Try.isAgg3 rfl) k15 rfl rfl ?_
            refine g_p 3 15 rfl (by kernel_rfl) (y_move rfl) rfl rfl ?_
            obtain ⟨s17, e16, H⟩ := H
            refine g_p 4 31 rfl (by kernel_rfl) (f_cutL (s := x0) (some (.i64, 1)) none Try.runUnderlying23 Try.sizeOf3 rfl rfl rfl e16) rfl rfl ?_
            refine g_p 5 63 rfl (by kernel_rfl) (y_assign rfl) rfl rfl ?_
            refine g_e 6 127 [] (by kernel_rfl) rfl (by kernel_rfl) (yp_ev (y_assign rfl)) rfl rfl ?_
            rintro _ _ ⟨rfl, rfl⟩
            refine ⟨trivial, ?_⟩
            refine g_d (by kernel_rfl) ?_
            refine tr_thenN ?_
            exact tr_join [(0, s17.enc), (1, x1.enc), (5, x5.enc), (6, (.int .i64 y14))] ⟨rfl, rfl, rfl, rfl, trivial⟩ ⟨_, _, _, _, rfl, H⟩
          · replace H := H.2 g11
            refine tr_draw mixed [0, 1, 3, 0, 8, 7, 63] (by kernel_rfl) ?_
            refine g_p 0 1 rfl (by kernel_rfl) (y_move rfl) rfl rfl ?_
            obtain ⟨a18, e19, H⟩ := H
            refine g_p 1 3 rfl (by kernel_rfl) (f_idx (s := x1) Try.runUnderlying23 Try.sizeOf3 rfl rfl e19) rfl rfl ?_
            obtain ⟨y20, k21, H⟩ := H
            refine g_h 2 7 rfl (by kernel_rfl) (y_ld Try.isAgg3 rfl) k21 rfl rfl ?_
            refine g_p 3 15 rfl (by kernel_rfl) (y_move rfl) rfl rfl ?_
            obtain ⟨s23, e22, H⟩ := H
            refine g_p 4 31 rfl (by kernel_rfl) (f_cutL (s := x1) (some (.i64, 1)) none Try.runUnderlying23 Try.sizeOf3 rfl rfl rfl e22) rfl rfl ?_
            refine g_p 5 63 rfl (by kernel_rfl) (y_assign rfl) rfl rfl ?_
            refine g_e 6 127 [] (by kernel_rfl) rfl (by kernel_rfl) (yp_ev (y_assign rfl)) rfl rfl ?_
            rintro _ _ ⟨rfl, rfl⟩
            refine ⟨trivial, ?_⟩
            refine g_d (by kernel_rfl) ?_
            refine tr_thenN ?_
            exact tr_join [(0, x0.enc), (1, s23.enc), (5, x5.enc), (6, (.int .i64 y20))] ⟨rfl, rfl, rfl, rfl, trivial⟩ ⟨_, _, _, _, rfl, H⟩
        · refine tr_draw mixed [0, 1, 3, 7, 15, 31, 63, 127, 255, 511, 1023, 255, 2303, 6399, 16383, 32767, 65535] (by kernel_rfl) ?_
          refine g_p 0 1 rfl (by kernel_rfl) (y_move rfl) rfl rfl ?_
          refine g_p 1 3 rfl (by kernel_rfl) (y_len (ts := #[]) Try.runUnderlying23 (o := x1.ptr) (n := x1.len) (cap := x1.cap) rfl) rfl rfl ?_
          refine g_p 2 7 rfl (by kernel_rfl) (y_eql rfl rfl) rfl rfl ?_
          refine g_p 3 15 rfl (by kernel_rfl) (y_move rfl) rfl rfl ?_
          refine g_split (t := 18) rfl (fun g24 => ?_) (fun g24 => ?_)
          · replace H := H.1 g24
            refine g_s 4 31 rfl (by kernel_rfl) rfl rfl ?_
            refine g_s 5 63 rfl (by kernel_rfl) rfl rfl ?_
            refine g_s 6 127 rfl (by kernel_rfl) rfl rfl ?_
            refine g_s 7 255 rfl (by kernel_rfl) rfl rfl ?_
            refine g_s 8 511 rfl (by kernel_rfl) rfl rfl ?_
            refine g_s 9 1023 rfl (by kernel_rfl) rfl rfl ?_
            refine g_s 10 2047 rfl (by kernel_rfl) rfl rfl ?_
            refine g_s 11 4095 rfl (by kernel_rfl) rfl rfl ?_
            refine g_s 12 8191 rfl (by kernel_rfl) rfl rfl ?_
            refine g_s 13 16383 rfl (by kernel_rfl) rfl rfl ?_
            refine g_s 14 32767 rfl (by kernel_rfl) rfl rfl ?_
            refine g_s 15 65535 rfl (by kernel_rfl) rfl rfl ?_
            refine g_p 16 131071 rfl (by kernel_rfl) (y_pick_t rfl rfl) rfl rfl ?_
            refine g_d (by kernel_rfl) ?_
            refine tr_thenN ?_
            exact tr_join [(0, x0.enc), (1, x1.enc), (5, x5.enc), (31, (.bool true))] ⟨rfl, rfl, rfl, rfl, trivial⟩ ⟨_, _, _, _, rfl, H⟩
          · replace H := H.2 g24
            refine g_p 4 31 rfl (by kernel_rfl) (y_move rfl) rfl rfl ?_
            refine g_p 5 63 rfl (by kernel_rfl) (y_len (ts := #[]) Try.runUnderlying23 (o := x0.ptr) (n := x0.len) (cap := x0.cap) rfl) rfl rfl ?_
            refine g_p 6 127 rfl (by kernel_rfl) (y_gtr rfl rfl) rfl rfl ?_
            refine g_p 7 255 rfl (by kernel_rfl) (y_move rfl) rfl rfl ?_
            refine g_split (t := 22) rfl (fun g25 => ?_) (fun g25 => ?_)
            · replace H := H.1 g25
              refine g_p 8 511 rfl (by kernel_rfl) (y_move rfl) rfl rfl ?_
              obtain ⟨a26, e27, H⟩ := H
              refine g_p 9 1023 rfl (by kernel_rfl) (f_idx (s := x0) Try.runUnderlying23 Try.sizeOf3 rfl rfl e27) rfl rfl ?_
              obtain ⟨y28, k29, H⟩ := H
              refine g_h 10 2047 rfl (by kernel_rfl) (y_ld Try.isAgg3 rfl) k29 rfl rfl ?_
              refine g_p 11 4095 rfl (by kernel_rfl) (y_move rfl) rfl rfl ?_
              obtain ⟨a30, e31, H⟩ := H
              refine g_p 12 8191 rfl (by kernel_rfl) (f_idx (s := x1) Try.runUnderlying23 Try.sizeOf3 rfl rfl e31) rfl rfl ?_
              obtain ⟨y32, k33, H⟩ := H
              refine g_h 13 16383 rfl (by kernel_rfl) (y_ld Try.isAgg3 rfl) k33 rfl rfl ?_
              refine g_p 14 32767 rfl (by kernel_rfl) (y_leq rfl rfl) rfl rfl ?_
              refine g_p 15 65535 rfl (by kernel_rfl) (y_pick_t rfl rfl) rfl rfl ?_
              refine g_p 16 131071 rfl (by kernel_rfl) (y_pick_f rfl rfl) rfl rfl ?_
              refine g_d (by kernel_rfl) ?_
              refine tr_thenN ?_
              exact tr_join [(0, x0.enc), (1, x1.enc), (5, x5.enc), (31, (.bool (decide (y28 ≤ y32))))] ⟨rfl, rfl, rfl, rfl, trivial⟩ ⟨_, _, _, _, rfl, H⟩
            · replace H := H.2 g25
              refine g_s 8 511 rfl (by kernel_rfl) rfl rfl ?_
              refine g_s 9 1023 rfl (by kernel_rfl) rfl rfl ?_
              refine g_s 10 2047 rfl (by kernel_rfl) rfl rfl ?_
              refine g_s 11 4095 rfl (by kernel_rfl) rfl rfl ?_
              refine g_s 12 8191 rfl (by kernel_rfl) rfl rfl ?_
              refine g_s 13 16383 rfl (by kernel_rfl) rfl rfl ?_
              refine g_s 14 32767 rfl (by kernel_rfl) rfl rfl ?_
              refine g_p 15 65535 rfl (by kernel_rfl) (y_pick_f rfl rfl) rfl rfl ?_
              refine g_p 16 131071 rfl (by kernel_rfl) (y_pick_f rfl rfl) rfl rfl ?_
              refine g_d (by kernel_rfl) ?_
              refine tr_thenN ?_
              exact tr_join [(0, x0.enc), (1, x1.enc), (5, x5.enc), (31, (.bool false))] ⟨rfl, rfl, rfl, rfl, trivial⟩ ⟨_, _, _, _, rfl, H⟩
    · refine tr_seq_j (fun L' h => ∃ (x0 : Sl) (x1 : Sl) (x5 : Sl) (x14 : Bool), L' = [(0, x0.enc), (1, x1.enc), (5, x5.enc), (14, (.bool x14))] ∧ F.merge_two_int.j6 Q (F.merge_two_int.l1 Q q1) x0 x1 x5 x14 h) ?_ ?_
      · rintro L' h ⟨x0, x1, x5, x14, rfl, H⟩
        unfold F.merge_two_int.j6 at H
        refine tr_cond rfl (fun g34 => ?_) (fun g34 => ?_)
        · replace H := H.1 g34
          refine tr_skip ?_
          refine tr_thenN ?_
          exact tr_join [(0, x0.enc), (1, x1.enc), (5, x5.enc)] ⟨rfl, rfl, rfl, trivial⟩ ⟨_, _, _, rfl, H⟩
        · replace H := H.2 g34
          refine tr_exit ?_
          refine tr_thenE ?_
          refine tr_thenE ?_
          refine tr_hit ?_
          refine tr_thenN ?_
          refine tr_seq ?_
          refine tr_region ?_
          refine tr_p (y_move rfl) rfl rfl ?_
          refine tr_p (y_assign rfl) rfl rfl ?_
          refine tr_nil ?_
          refine tr_thenN ?_
          refine tr_ret ?_
          exact tr_ret1 rfl rfl ⟨_, rfl, H⟩
      · refine tr_region ?_
        refine tr_p (y_move rfl) rfl rfl ?_
        refine tr_p (y_len (ts := #[]) Try.runUnderlying23 (o := x0.ptr) (n := x0.len) (cap := x0.cap) rfl) rfl rfl ?_
        refine tr_p (y_gtr rfl rfl) rfl rfl ?_
        refine tr_p (y_move rfl) rfl rfl ?_
        refine tr_split (t := 10) rfl (fun g35 => ?_) (fun g35 => ?_)
        · replace H := H.1 g35
          refine tr_s rfl rfl ?_
          refine tr_s rfl rfl ?_
          refine tr_s rfl rfl ?_
          refine tr_p (y_pick_t rfl rfl) rfl rfl ?_
          refine tr_nil ?_
          refine tr_thenN ?_
          exact tr_join [(0, x0.enc), (1, x1.enc), (5, x5.enc), (14, (.bool true))] ⟨rfl, rfl, rfl, rfl, trivial⟩ ⟨_, _, _, _, rfl, H⟩
        · replace H := H.2 g35
          refine tr_p (y_move rfl) rfl rfl ?_
          refine tr_p (y_len (ts := #[]) Try.runUnderlying23 (o := x1.ptr) (n := x1.len) (cap := x1.cap) rfl) rfl rfl ?_
          refine tr_p (y_gtr rfl rfl) rfl rfl ?_
          refine tr_p (y_pick_f rfl rfl) rfl rfl ?_
          refine tr_nil ?_
          refine tr_thenN ?_
          exact tr_join [(0, x0.enc), (1, x1.enc), (5, x5.enc), (14, (.bool (decide ((x1.len : Int) > 0))))] ⟨rfl, rfl, rfl, rfl, trivial⟩ ⟨_, _, _, _, rfl, H⟩
/-- spate/merge.Lists[int] -/
def F.merge_Lists_int.fu : Nat → Sl → H → (Sl → H → Prop) → Prop
  | 0, _, _, _ => False
  | m0 + 1, p0, h, Q =>
    ((((p0.len : Int) == 0)) = true →
    Q (⟨none, 0, 0⟩ : Sl) h) ∧
    ((((p0.len : Int) == 0)) = false →
    ((((p0.len : Int) == 1)) = true →
    idxA p0 0 1 fun a3 =>
    ldL h a3 fun y5 =>
    F.merge_two_int y5 (⟨none, 0, 0⟩ : Sl) h fun r8 h7 =>
    Q r8 h7) ∧
    ((((p0.len : Int) == 1)) = false →
    (2 : Int) ≠ 0 ∧
    cutL p0 0 (IntKind.wrap .i64 (Int.tdiv (p0.len : Int) 2)) 1 fun s11 =>
    cutL p0 (IntKind.wrap .i64 (Int.tdiv (p0.len : Int) 2)) (p0.len : Int) 1 fun s13 =>
    (F.merge_Lists_int.fu m0) s11 h fun r15 h14 =>
    (F.merge_Lists_int.fu m0) s13 h14 fun r17 h16 =>
    F.merge_two_int r15 r17 h16 fun r19 h18 =>
    Q r19 h18))
theorem F.merge_Lists_int.fu_ok : ∀ (m0 : Nat) {p0 : Sl} {h : H} {Q : Sl → H → Prop}, F.merge_Lists_int.fu m0 p0 h Q → Fn PP 18 ([p0.enc] : List Value).toArray h fun r h' => ∃ r0, r = r0.enc ∧ Q r0 h' := by
  intro m0
  induction m0 with
  | zero => intro p0 h Q H; unfold F.merge_Lists_int.fu at H; exact H.elim
  | succ m0 IH =>
  intro p0 h Q H
  unfold F.merge_Lists_int.fu at H
  refine fn_of Try.func18 Try.ntmps18 rfl rfl fun w0 => ?_
  refine tr_sub [(0, p0.enc)] ⟨rfl, trivial⟩ ?_
  refine tr_seq ?_
  refine tr_region ?_
  refine tr_p (y_assign rfl) rfl rfl ?_
  refine tr_nil ?_
  refine tr_thenN ?_
  refine tr_seq ?_
  refine tr_seq ?_
  refine tr_region ?_
  refine tr_p (y_move rfl) rfl rfl ?_
  refine tr_p (y_len (ts := #[]) Try.runUnderlying25 (o := p0.ptr) (n := p0.len) (cap := p0.cap) rfl) rfl rfl ?_
  refine tr_nil ?_
  refine tr_thenN ?_
  refine tr_block ?_
  refine tr_seq ?_
  refine tr_region ?_
  refine tr_p (y_eql rfl rfl) rfl rfl ?_
  refine tr_p (y_assign rfl) rfl rfl ?_
  refine tr_nil ?_
  refine tr_thenN ?_
  refine tr_cond rfl (fun g1 => ?_) (fun g1 => ?_)
  · replace H := H.1 g1
    refine tr_seq ?_
    refine tr_region ?_
    refine tr_p (y_assign rfl) rfl rfl ?_
    refine tr_nil ?_
    refine tr_thenN ?_
    refine tr_ret ?_
    refine tr_blockR ?_
    refine tr_thenR ?_
    exact tr_ret1 rfl rfl ⟨_, rfl, H⟩
  · replace H := H.2 g1
    refine tr_seq ?_
    refine tr_region ?_
    refine tr_p (y_eql rfl rfl) rfl rfl ?_
    refine tr_p (y_assign rfl) rfl rfl ?_
    refine tr_nil ?_
    refine tr_thenN ?_
    refine tr_cond rfl (fun g2 => ?_) (fun g2 => ?_)
    · replace H := H.1 g2
      refine tr_seq ?_
      refine tr_region ?_
      refine tr_p (y_move rfl) rfl rfl ?_
      obtain ⟨a3, e4, H⟩ := H
      refine tr_p (f_idx (s := p0) Try.runUnderlying25 Try.sizeOf23 rfl rfl e4) rfl rfl ?_
      obtain ⟨y5, k6, H⟩ := H
      refine tr_h (y_ld Try.isAgg23 rfl) k6 rfl rfl ?_
      refine tr_e (e_call Try.call38 rfl (F.merge_two_int_ok H)) rfl rfl ?_
      rintro _ h7 ⟨r8, rfl, H⟩
      refine tr_p (y_assign rfl) rfl rfl ?_
      refine tr_nil ?_
      refine tr_thenN ?_
      refine tr_ret ?_
      refine tr_blockR ?_
      refine tr_thenR ?_
      exact tr_ret1 rfl rfl ⟨_, rfl, H⟩
    · replace H := H.2 g2
      refine tr_skip ?_
      refine tr_blockN ?_
      refine tr_thenN ?_
      refine tr_seq ?_
      refine tr_region ?_
      refine tr_p (y_move rfl) rfl rfl ?_
      refine tr_p (y_len (ts := #[]) Try.runUnderlying25 (o := p0.ptr) (n := p0.len) (cap := p0.cap) rfl) rfl rfl ?_
      obtain ⟨e9, H⟩ := H
      refine tr_p (y_quo rfl rfl e9) rfl rfl ?_
      refine tr_p (y_assign rfl) rfl rfl ?_
      refine tr_nil ?_
      refine tr_thenN ?_
      refine tr_seq ?_
      refine tr_draw mixed [0, 0, 3, 7, 0, 0, 48, 127, 255, 511] (by kernel_rfl) ?_
      refine g_p 0 1 rfl (by kernel_rfl) (y_move rfl) rfl rfl ?_
      refine g_p 1 3 rfl (by kernel_rfl) (y_move rfl) rfl rfl ?_
      obtain ⟨s11, e10, H⟩ := H
      refine g_p 2 7 rfl (by kernel_rfl) (f_cutL (s := p0) none (some (.i64, (IntKind.wrap .i64 (Int.tdiv (p0.len : Int) 2)))) Try.runUnderlying25 Try.sizeOf23 rfl rfl rfl e10) rfl rfl ?_
      refine g_p 4 23 rfl (by kernel_rfl) (y_move rfl) rfl rfl ?_
      refine g_p 5 55 rfl (by kernel_rfl) (y_move rfl) rfl rfl ?_
      obtain ⟨s13, e12, H⟩ := H
      refine g_p 6 119 rfl (by kernel_rfl) (f_cutL (s := p0) (some (.i64, (IntKind.wrap .i64 (Int.tdiv (p0.len : Int) 2)))) none Try.runUnderlying25 Try.sizeOf23 rfl rfl rfl e12) rfl rfl ?_
      refine g_e 3 127 [] (by kernel_rfl) rfl (by kernel_rfl) (e_call Try.call18 rfl (IH H)) rfl rfl ?_
      rintro _ h14 ⟨r15, rfl, H⟩
      refine ⟨trivial, ?_⟩
      refine g_e 7 255 [] (by kernel_rfl) rfl (by kernel_rfl) (e_call Try.call18 rfl (IH H)) rfl rfl ?_
      rintro _ h16 ⟨r17, rfl, H⟩
      refine ⟨trivial, ?_⟩
      refine g_e 8 511 [] (by kernel_rfl) rfl (by kernel_rfl) (e_call Try.call38 rfl (F.merge_two_int_ok H)) rfl rfl ?_
      rintro _ h18 ⟨r19, rfl, H⟩
      refine ⟨trivial, ?_⟩
      refine g_p 9 1023 rfl (by kernel_rfl) (y_assign rfl) rfl rfl ?_
      refine g_d (by kernel_rfl) ?_
      refine tr_thenN ?_
      refine tr_ret ?_
      exact tr_ret1 rfl rfl ⟨_, rfl, H⟩
def F.merge_Lists_int (p0 : Sl) (h : H) (Q : Sl → H → Prop) : Prop := ∃ m0, F.merge_Lists_int.fu m0 p0 h Q
theorem F.merge_Lists_int_ok {p0 : Sl} {h : H} {Q : Sl → H → Prop} (H : F.merge_Lists_int p0 h Q) : Fn PP 18 ([p0.enc] : List Value).toArray h fun r h' => ∃ r0, r = r0.enc ∧ Q r0 h' := by
  obtain ⟨m0, H⟩ := H
  exact F.merge_Lists_int.fu_ok m0 H
/-- spate/spatelaw8.known -/
def F.spatelaw8_known  (h : H) (Q : Bool → H → Prop) : Prop :=
  F.merge_Key (⟨0, (⟨#[97]⟩ : ByteArray), 0⟩ : S_api_Cell) h fun r2 r3 h1 =>
  F.merge_Cell (⟨#[0, 97, 0, 1, 128, 0, 0, 0, 0, 0, 0, 0]⟩ : ByteArray) h1 fun r5 r6 h4 =>
  new h4 (((⟨0, (⟨#[]⟩ : ByteArray), 0⟩ : S_api_Cell) : S_api_Cell).cells.toArray) ty_34 fun a8 h7 =>
  stH h7 a8 r5.cells fun h9 =>
  newL h9 #[(.int .i64 1), (.int .i64 3), (.int .i64 3)] ty_3 3 fun s11 h10 =>
  newL h10 #[(.int .i64 2), (.int .i64 3)] ty_3 2 fun s13 h12 =>
  newL h12 #[s11.enc, s13.enc] ty_23 2 fun s15 h14 =>
  F.merge_Lists_int s15 h14 fun r17 h16 =>
  (((r3 == 0)) = true →
  (((r6 == 0)) = true →
  ((r2.toList == (⟨#[0, 97, 0, 1, 128, 0, 0, 0, 0, 0, 0, 0]⟩ : ByteArray).toList) = true →
  ld_S_api_Cell h16 a8 fun y21 =>
  (((y21.View == (⟨0, (⟨#[97]⟩ : ByteArray), 0⟩ : S_api_Cell).View) && ((y21.Key.toList == (⟨0, (⟨#[97]⟩ : ByteArray), 0⟩ : S_api_Cell).Key.toList) && ((y21.Start == (⟨0, (⟨#[97]⟩ : ByteArray), 0⟩ : S_api_Cell).Start) && true))) = true →
  ((((r17.len : Int) == 3)) = true →
  idxA r17 0 1 fun a25 =>
  ldI .i64 h16 a25 fun y27 =>
  (((y27 == 1)) = true →
  idxA r17 1 1 fun a30 =>
  ldI .i64 h16 a30 fun y32 =>
  (((y32 == 2)) = true →
  idxA r17 2 1 fun a35 =>
  ldI .i64 h16 a35 fun y37 =>
  Q ((y37 == 3)) h16) ∧
  (((y32 == 2)) = false →
  Q false h16)) ∧
  (((y27 == 1)) = false →
  Q false h16)) ∧
  ((((r17.len : Int) == 3)) = false →
  Q false h16)) ∧
  (((y21.View == (⟨0, (⟨#[97]⟩ : ByteArray), 0⟩ : S_api_Cell).View) && ((y21.Key.toList == (⟨0, (⟨#[97]⟩ : ByteArray), 0⟩ : S_api_Cell).Key.toList) && ((y21.Start == (⟨0, (⟨#[97]⟩ : ByteArray), 0⟩ : S_api_Cell).Start) && true))) = false →
  Q false h16)) ∧
  ((r2.toList == (⟨#[0, 97, 0, 1, 128, 0, 0, 0, 0, 0, 0, 0]⟩ : ByteArray).toList) = false →
  Q false h16)) ∧
  (((r6 == 0)) = false →
  Q false h16)) ∧
  (((r3 == 0)) = false →
  Q false h16)
theorem F.spatelaw8_known_ok  {h : H} {Q : Bool → H → Prop} (H : F.spatelaw8_known  h Q) : Fn PP 15 ([] : List Value).toArray h fun r h' => ∃ r0, r = (.bool r0) ∧ Q r0 h' := by
  unfold F.spatelaw8_known at H
  refine fn_of Try.func15 Try.ntmps15 rfl rfl fun w0 => ?_
  refine tr_sub [] trivial ?_
  refine tr_seq ?_
  refine tr_region ?_
  refine tr_p (y_assign rfl) rfl rfl ?_
  refine tr_nil ?_
  refine tr_thenN ?_
  refine tr_seq ?_
  refine tr_region ?_
  refine tr_p (f_build rfl (bd_34_1 (⟨#[97]⟩ : ByteArray))) rfl rfl ?_
  refine tr_e (e_call Try.call23 rfl (F.merge_Key_ok H)) rfl rfl ?_
  rintro _ h1 ⟨r2, r3, rfl, H⟩
  refine tr_p (y_move rfl) rfl rfl ?_
  refine tr_p (y_ext rfl rfl) rfl rfl ?_
  refine tr_p (y_ext rfl rfl) rfl rfl ?_
  refine tr_p (y_assign rfl) rfl rfl ?_
  refine tr_p (y_assign rfl) rfl rfl ?_
  refine tr_nil ?_
  refine tr_thenN ?_
  refine tr_seq ?_
  refine tr_region ?_
  refine tr_e (e_call Try.call22 rfl (F.merge_Cell_ok H)) rfl rfl ?_
  rintro _ h4 ⟨r5, r6, rfl, H⟩
  refine tr_p (y_move rfl) rfl rfl ?_
  refine tr_p (y_ext rfl rfl) rfl rfl ?_
  refine tr_p (y_ext rfl rfl) rfl rfl ?_
  refine tr_e (f_alloc (cs := ((⟨0, (⟨#[]⟩ : ByteArray), 0⟩ : S_api_Cell) : S_api_Cell).cells.toArray) Try.zeroValue34 rfl H) rfl rfl ?_
  rintro _ h7 ⟨a8, rfl, H⟩
  refine tr_e (f_store (vs := r5.cells) Try.sizeOf34 rfl rfl cellsOfStruct rfl (by intro v hv; exact ones_S_api_Cell _ v hv) H) rfl rfl ?_
  rintro _ h9 ⟨rfl, H⟩
  refine tr_p (y_assign rfl) rfl rfl ?_
  refine tr_nil ?_
  refine tr_thenN ?_
  refine tr_seq ?_
  refine tr_region ?_
  refine tr_e (f_buildL (cs := #[(.int .i64 1), (.int .i64 3), (.int .i64 3)]) rfl rfl (bl_23_3_0_1_2 1 3 3) H) rfl rfl ?_
  rintro _ h10 ⟨s11, rfl, H⟩
  refine tr_e (f_buildL (cs := #[(.int .i64 2), (.int .i64 3)]) rfl rfl (bl_23_2_0_1 2 3) H) rfl rfl ?_
  rintro _ h12 ⟨s13, rfl, H⟩
  refine tr_e (f_buildL (cs := #[s11.enc, s13.enc]) rfl rfl (bl_25_2_0_1 s11 s13) H) rfl rfl ?_
  rintro _ h14 ⟨s15, rfl, H⟩
  refine tr_e (e_call Try.call18 rfl (F.merge_Lists_int_ok H)) rfl rfl ?_
  rintro _ h16 ⟨r17, rfl, H⟩
  refine tr_p (y_assign rfl) rfl rfl ?_
  refine tr_nil ?_
  refine tr_thenN ?_
  refine tr_seq ?_
  refine tr_region ?_
  refine tr_p (y_move rfl) rfl rfl ?_
  refine tr_p (y_eql rfl rfl) rfl rfl ?_
  refine tr_p (y_move rfl) rfl rfl ?_
  refine tr_split (t := 21) rfl (fun g18 => ?_) (fun g18 => ?_)
  · replace H := H.1 g18
    refine tr_p (y_move rfl) rfl rfl ?_
    refine tr_p (y_eql rfl rfl) rfl rfl ?_
    refine tr_p (y_pick_t rfl rfl) rfl rfl ?_
    refine tr_p (y_move rfl) rfl rfl ?_
    refine tr_split (t := 25) rfl (fun g19 => ?_) (fun g19 => ?_)
    · replace H := H.1 g19
      refine tr_p (y_move rfl) rfl rfl ?_
      refine tr_p (y_seql rfl rfl) rfl rfl ?_
      refine tr_p (y_pick_t rfl rfl) rfl rfl ?_
      refine tr_p (y_move rfl) rfl rfl ?_
      refine tr_split (t := 29) rfl (fun g20 => ?_) (fun g20 => ?_)
      · replace H := H.1 g20
        obtain ⟨y21, k22, H⟩ := H
        refine tr_h (y_ldS Try.isAgg34 Try.sizeOf34 rfl rfl) k22 rfl rfl ?_
        refine tr_p (f_build rfl (bd_34_1 (⟨#[97]⟩ : ByteArray))) rfl rfl ?_
        refine tr_p (st_eql (b := ((y21.View == (⟨0, (⟨#[97]⟩ : ByteArray), 0⟩ : S_api_Cell).View) && ((y21.Key.toList == (⟨0, (⟨#[97]⟩ : ByteArray), 0⟩ : S_api_Cell).Key.toList) && ((y21.Start == (⟨0, (⟨#[97]⟩ : ByteArray), 0⟩ : S_api_Cell).Start) && true)))) eqg_34 (fun w => eqst_34 y21 (⟨0, (⟨#[97]⟩ : ByteArray), 0⟩ : S_api_Cell) 9998 w) rfl rfl) rfl rfl ?_
        refine tr_p (y_pick_t rfl rfl) rfl rfl ?_
        refine tr_p (y_move rfl) rfl rfl ?_
        refine tr_split (t := 34) rfl (fun g23 => ?_) (fun g23 => ?_)
        · replace H := H.1 g23
          refine tr_p (y_move rfl) rfl rfl ?_
          refine tr_p (y_len (ts := #[]) Try.runUnderlying23 (o := r17.ptr) (n := r17.len) (cap := r17.cap) rfl) rfl rfl ?_
          refine tr_p (y_eql rfl rfl) rfl rfl ?_
          refine tr_p (y_pick_t rfl rfl) rfl rfl ?_
          refine tr_p (y_move rfl) rfl rfl ?_
          refine tr_split (t := 39) rfl (fun g24 => ?_) (fun g24 => ?_)
          · replace H := H.1 g24
            refine tr_p (y_move rfl) rfl rfl ?_
            obtain ⟨a25, e26, H⟩ := H
            refine tr_p (f_idx (s := r17) Try.runUnderlying23 Try.sizeOf3 rfl rfl e26) rfl rfl ?_
            obtain ⟨y27, k28, H⟩ := H
            refine tr_h (y_ld Try.isAgg3 rfl) k28 rfl rfl ?_
            refine tr_p (y_eql rfl rfl) rfl rfl ?_
            refine tr_p (y_pick_t rfl rfl) rfl rfl ?_
            refine tr_p (y_move rfl) rfl rfl ?_
            refine tr_split (t := 45) rfl (fun g29 => ?_) (fun g29 => ?_)
            · replace H := H.1 g29
              refine tr_p (y_move rfl) rfl rfl ?_
              obtain ⟨a30, e31, H⟩ := H
              refine tr_p (f_idx (s := r17) Try.runUnderlying23 Try.sizeOf3 rfl rfl e31) rfl rfl ?_
              obtain ⟨y32, k33, H⟩ := H
              refine tr_h (y_ld Try.isAgg3 rfl) k33 rfl rfl ?_
              refine tr_p (y_eql rfl rfl) rfl rfl ?_
              refine tr_p (y_pick_t rfl rfl) rfl rfl ?_
              refine tr_p (y_move rfl) rfl rfl ?_
              refine tr_split (t := 51) rfl (fun g34 => ?_) (fun g34 => ?_)
              · replace H := H.1 g34
                refine tr_p (y_move rfl) rfl rfl ?_
                obtain ⟨a35, e36, H⟩ := H
                refine tr_p (f_idx (s := r17) Try.runUnderlying23 Try.sizeOf3 rfl rfl e36) rfl rfl ?_
                obtain ⟨y37, k38, H⟩ := H
                refine tr_h (y_ld Try.isAgg3 rfl) k38 rfl rfl ?_
                refine tr_p (y_eql rfl rfl) rfl rfl ?_
                refine tr_p (y_pick_t rfl rfl) rfl rfl ?_
                refine tr_p (y_assign rfl) rfl rfl ?_
                refine tr_nil ?_
                refine tr_thenN ?_
                refine tr_ret ?_
                exact tr_ret1 rfl rfl ⟨_, rfl, H⟩
              · replace H := H.2 g34
                refine tr_s rfl rfl ?_
                refine tr_s rfl rfl ?_
                refine tr_s rfl rfl ?_
                refine tr_s rfl rfl ?_
                refine tr_p (y_pick_f rfl rfl) rfl rfl ?_
                refine tr_p (y_assign rfl) rfl rfl ?_
                refine tr_nil ?_
                refine tr_thenN ?_
                refine tr_ret ?_
                exact tr_ret1 rfl rfl ⟨_, rfl, H⟩
            · replace H := H.2 g29
              refine tr_s rfl rfl ?_
              refine tr_s rfl rfl ?_
              refine tr_s rfl rfl ?_
              refine tr_s rfl rfl ?_
              refine tr_p (y_pick_f rfl rfl) rfl rfl ?_
              refine tr_p (y_move rfl) rfl rfl ?_
              refine tr_s rfl rfl ?_
              refine tr_s rfl rfl ?_
              refine tr_s rfl rfl ?_
              refine tr_s rfl rfl ?_
              refine tr_p (y_pick_f rfl rfl) rfl rfl ?_
              refine tr_p (y_assign rfl) rfl rfl ?_
              refine tr_nil ?_
              refine tr_thenN ?_
              refine tr_ret ?_
              exact tr_ret1 rfl rfl ⟨_, rfl, H⟩
          · replace H := H.2 g24
            refine tr_s rfl rfl ?_
            refine tr_s rfl rfl ?_
            refine tr_s rfl rfl ?_
            refine tr_s rfl rfl ?_
            refine tr_p (y_pick_f rfl rfl) rfl rfl ?_
            refine tr_p (y_move rfl) rfl rfl ?_
            refine tr_s rfl rfl ?_
            refine tr_s rfl rfl ?_
            refine tr_s rfl rfl ?_
            refine tr_s rfl rfl ?_
            refine tr_p (y_pick_f rfl rfl) rfl rfl ?_
            refine tr_p (y_move rfl) rfl rfl ?_
            refine tr_s rfl rfl ?_
            refine tr_s rfl rfl ?_
            refine tr_s rfl rfl ?_
            refine tr_s rfl rfl ?_
            refine tr_p (y_pick_f rfl rfl) rfl rfl ?_
            refine tr_p (y_assign rfl) rfl rfl ?_
            refine tr_nil ?_
            refine tr_thenN ?_
            refine tr_ret ?_
            exact tr_ret1 rfl rfl ⟨_, rfl, H⟩
        · replace H := H.2 g23
          refine tr_s rfl rfl ?_
          refine tr_s rfl rfl ?_
          refine tr_s rfl rfl ?_
          refine tr_p (y_pick_f rfl rfl) rfl rfl ?_
          refine tr_p (y_move rfl) rfl rfl ?_
          refine tr_s rfl rfl ?_
          refine tr_s rfl rfl ?_
          refine tr_s rfl rfl ?_
          refine tr_s rfl rfl ?_
          refine tr_p (y_pick_f rfl rfl) rfl rfl ?_
          refine tr_p (y_move rfl) rfl rfl ?_
          refine tr_s rfl rfl ?_
          refine tr_s rfl rfl ?_
          refine tr_s rfl rfl ?_
          refine tr_s rfl rfl ?_
          refine tr_p (y_pick_f rfl rfl) rfl rfl ?_
          refine tr_p (y_move rfl) rfl rfl ?_
          refine tr_s rfl rfl ?_
          refine tr_s rfl rfl ?_
          refine tr_s rfl rfl ?_
          refine tr_s rfl rfl ?_
          refine tr_p (y_pick_f rfl rfl) rfl rfl ?_
          refine tr_p (y_assign rfl) rfl rfl ?_
          refine tr_nil ?_
          refine tr_thenN ?_
          refine tr_ret ?_
          exact tr_ret1 rfl rfl ⟨_, rfl, H⟩
      · replace H := H.2 g20
        refine tr_s rfl rfl ?_
        refine tr_s rfl rfl ?_
        refine tr_s rfl rfl ?_
        refine tr_p (y_pick_f rfl rfl) rfl rfl ?_
        refine tr_p (y_move rfl) rfl rfl ?_
        refine tr_s rfl rfl ?_
        refine tr_s rfl rfl ?_
        refine tr_s rfl rfl ?_
        refine tr_p (y_pick_f rfl rfl) rfl rfl ?_
        refine tr_p (y_move rfl) rfl rfl ?_
        refine tr_s rfl rfl ?_
        refine tr_s rfl rfl ?_
        refine tr_s rfl rfl ?_
        refine tr_s rfl rfl ?_
        refine tr_p (y_pick_f rfl rfl) rfl rfl ?_
        refine tr_p (y_move rfl) rfl rfl ?_
        refine tr_s rfl rfl ?_
        refine tr_s rfl rfl ?_
        refine tr_s rfl rfl ?_
        refine tr_s rfl rfl ?_
        refine tr_p (y_pick_f rfl rfl) rfl rfl ?_
        refine tr_p (y_move rfl) rfl rfl ?_
        refine tr_s rfl rfl ?_
        refine tr_s rfl rfl ?_
        refine tr_s rfl rfl ?_
        refine tr_s rfl rfl ?_
        refine tr_p (y_pick_f rfl rfl) rfl rfl ?_
        refine tr_p (y_assign rfl) rfl rfl ?_
        refine tr_nil ?_
        refine tr_thenN ?_
        refine tr_ret ?_
        exact tr_ret1 rfl rfl ⟨_, rfl, H⟩
    · replace H := H.2 g19
      refine tr_s rfl rfl ?_
      refine tr_s rfl rfl ?_
      refine tr_p (y_pick_f rfl rfl) rfl rfl ?_
      refine tr_p (y_move rfl) rfl rfl ?_
      refine tr_s rfl rfl ?_
      refine tr_s rfl rfl ?_
      refine tr_s rfl rfl ?_
      refine tr_p (y_pick_f rfl rfl) rfl rfl ?_
      refine tr_p (y_move rfl) rfl rfl ?_
      refine tr_s rfl rfl ?_
      refine tr_s rfl rfl ?_
      refine tr_s rfl rfl ?_
      refine tr_p (y_pick_f rfl rfl) rfl rfl ?_
      refine tr_p (y_move rfl) rfl rfl ?_
      refine tr_s rfl rfl ?_
      refine tr_s rfl rfl ?_
      refine tr_s rfl rfl ?_
      refine tr_s rfl rfl ?_
      refine tr_p (y_pick_f rfl rfl) rfl rfl ?_
      refine tr_p (y_move rfl) rfl rfl ?_
      refine tr_s rfl rfl ?_
      refine tr_s rfl rfl ?_
      refine tr_s rfl rfl ?_
      refine tr_s rfl rfl ?_
      refine tr_p (y_pick_f rfl rfl) rfl rfl ?_
      refine tr_p (y_move rfl) rfl rfl ?_
      refine tr_s rfl rfl ?_
      refine tr_s rfl rfl ?_
      refine tr_s rfl rfl ?_
      refine tr_s rfl rfl ?_
      refine tr_p (y_pick_f rfl rfl) rfl rfl ?_
      refine tr_p (y_assign rfl) rfl rfl ?_
      refine tr_nil ?_
      refine tr_thenN ?_
      refine tr_ret ?_
      exact tr_ret1 rfl rfl ⟨_, rfl, H⟩
  · replace H := H.2 g18
    refine tr_s rfl rfl ?_
    refine tr_s rfl rfl ?_
    refine tr_p (y_pick_f rfl rfl) rfl rfl ?_
    refine tr_p (y_move rfl) rfl rfl ?_
    refine tr_s rfl rfl ?_
    refine tr_s rfl rfl ?_
    refine tr_p (y_pick_f rfl rfl) rfl rfl ?_
    refine tr_p (y_move rfl) rfl rfl ?_
    refine tr_s rfl rfl ?_
    refine tr_s rfl rfl ?_
    refine tr_s rfl rfl ?_
    refine tr_p (y_pick_f rfl rfl) rfl rfl ?_
    refine tr_p (y_move rfl) rfl rfl ?_
    refine tr_s rfl rfl ?_
    refine tr_s rfl rfl ?_
    refine tr_s rfl rfl ?_
    refine tr_p (y_pick_f rfl rfl) rfl rfl ?_
    refine tr_p (y_move rfl) rfl rfl ?_
    refine tr_s rfl rfl ?_
    refine tr_s rfl rfl ?_
    refine tr_s rfl rfl ?_
    refine tr_s rfl rfl ?_
    refine tr_p (y_pick_f rfl rfl) rfl rfl ?_
    refine tr_p (y_move rfl) rfl rfl ?_
    refine tr_s rfl rfl ?_
    refine tr_s rfl rfl ?_
    refine tr_s rfl rfl ?_
    refine tr_s rfl rfl ?_
    refine tr_p (y_pick_f rfl rfl) rfl rfl ?_
    refine tr_p (y_move rfl) rfl rfl ?_
    refine tr_s rfl rfl ?_
    refine tr_s rfl rfl ?_
    refine tr_s rfl rfl ?_
    refine tr_s rfl rfl ?_
    refine tr_p (y_pick_f rfl rfl) rfl rfl ?_
    refine tr_p (y_assign rfl) rfl rfl ?_
    refine tr_nil ?_
    refine tr_thenN ?_
    refine tr_ret ?_
    exact tr_ret1 rfl rfl ⟨_, rfl, H⟩
def F.spatelaw8_rising.j4 (Q : Sl → H → Prop) (C1 : Sl → Sl → Int → H → Prop) (C2 : Sl → Sl → Int → Int → H → Prop) (x0 : Sl) (x3 : Sl) (x4 : Int) (x5 : Int) (h : H) : Prop :=
  C2 x0 x3 x4 (IntKind.wrap .i64 (x5 + 1)) h
def F.spatelaw8_rising.j5 (Q : Sl → H → Prop) (C1 : Sl → Sl → Int → H → Prop) (C2 : Sl → Sl → Int → Int → H → Prop) (x0 : Sl) (x3 : Sl) (x4 : Int) (x5 : Int) (x31 : Bool) (h : H) : Prop :=
  (x31 = true →
  F.spatelaw8_rising.j4 Q C1 C2 x0 x3 x4 x5 h) ∧
  (x31 = false →
  cutL x3 0 x5 1 fun s3 =>
  runL PP (Builtin.append_ #[23, 23] 23 #[(⟨none, 0, 0⟩ : Sl).enc, s3.enc]) h fun s5 h4 =>
  idxA x0 x4 1 fun a6 =>
  ldI .i64 h4 a6 fun y8 =>
  newL h4 #[(.int .i64 y8)] ty_3 1 fun s11 h10 =>
  runL PP (Builtin.append_ #[23, 23] 23 #[s5.enc, s11.enc]) h10 fun s13 h12 =>
  cutL x3 x5 (x3.len : Int) 1 fun s15 =>
  runL PP (Builtin.append_ #[23, 23] 23 #[s13.enc, s15.enc]) h12 fun s17 h16 =>
  C1 x0 s17 (IntKind.wrap .i64 (x4 + 1)) h16)
def F.spatelaw8_rising.l3 (Q : Sl → H → Prop) (C1 : Sl → Sl → Int → H → Prop) : Nat → Sl → Sl → Int → Int → H → Prop
  | 0, _, _, _, _, _ => False
  | q3 + 1, x0, x3, x4, x5, h =>
    ((decide (x5 < (x3.len : Int))) = true →
    idxA x3 x5 1 fun a19 =>
    ldI .i64 h a19 fun y21 =>
    idxA x0 x4 1 fun a23 =>
    ldI .i64 h a23 fun y25 =>
    F.spatelaw8_rising.j5 Q C1 (F.spatelaw8_rising.l3 Q C1 q3) x0 x3 x4 x5 (decide (y21 ≤ y25)) h) ∧
    ((decide (x5 < (x3.len : Int))) = false →
    F.spatelaw8_rising.j5 Q C1 (F.spatelaw8_rising.l3 Q C1 q3) x0 x3 x4 x5 false h)
def F.spatelaw8_rising.j2 (Q : Sl → H → Prop) (C1 : Sl → Sl → Int → H → Prop) (x0 : Sl) (x3 : Sl) (x4 : Int) (h : H) : Prop :=
  ∃ m, F.spatelaw8_rising.l3 Q C1 m x0 x3 x4 0 h
def F.spatelaw8_rising.j6 (Q : Sl → H → Prop) (C1 : Sl → Sl → Int → H → Prop) (x0 : Sl) (x3 : Sl) (x4 : Int) (x14 : Bool) (h : H) : Prop :=
  (x14 = true →
  F.spatelaw8_rising.j2 Q C1 x0 x3 x4 h) ∧
  (x14 = false →
  Q x3 h)
def F.spatelaw8_rising.l1 (Q : Sl → H → Prop) : Nat → Sl → Sl → Int → H → Prop
  | 0, _, _, _, _ => False
  | q1 + 1, x0, x3, x4, h =>
    ((decide (x4 < (x0.len : Int))) = true →
    F.spatelaw8_rising.j6 Q (F.spatelaw8_rising.l1 Q q1) x0 x3 x4 (decide (x4 < 200)) h) ∧
    ((decide (x4 < (x0.len : Int))) = false →
    F.spatelaw8_rising.j6 Q (F.spatelaw8_rising.l1 Q q1) x0 x3 x4 false h)
/-- spate/spatelaw8.rising -/
def F.spatelaw8_rising (p0 : Sl) (h : H) (Q : Sl → H → Prop) : Prop :=
  ∃ m, F.spatelaw8_rising.l1 Q m p0 (⟨none, 0, 0⟩ : Sl) 0 h
theorem F.spatelaw8_rising_ok {p0 : Sl} {h : H} {Q : Sl → H → Prop} (H : F.spatelaw8_rising p0 h Q) : Fn PP 16 ([p0.enc] : List Value).toArray h fun r h' => ∃ r0, r = r0.enc ∧ Q r0 h' := by
  unfold F.spatelaw8_rising at H
  refine fn_of Try.func16 Try.ntmps16 rfl rfl fun w0 => ?_
  refine tr_sub [(0, p0.enc)] ⟨rfl, trivial⟩ ?_
  refine tr_seq ?_
  refine tr_region ?_
  refine tr_p (y_assign rfl) rfl rfl ?_
  refine tr_nil ?_
  refine tr_thenN ?_
  refine tr_seq ?_
  refine tr_region ?_
  refine tr_p (y_assign rfl) rfl rfl ?_
  refine tr_nil ?_
  refine tr_thenN ?_
  refine tr_seq ?_
  refine tr_seq ?_
  refine tr_region ?_
  refine tr_p (y_assign rfl) rfl rfl ?_
  refine tr_nil ?_
  refine tr_thenN ?_
  refine tr_block ?_
  obtain ⟨m30, H⟩ := H
  refine tr_sub [(0, p0.enc), (3, (⟨none, 0, 0⟩ : Sl).enc), (4, (.int .i64 0))] ⟨rfl, rfl, rfl, trivial⟩ ?_
  refine tr_loop_j (fun m L' h => ∃ (x0 : Sl) (x3 : Sl) (x4 : Int), L' = [(0, x0.enc), (3, x3.enc), (4, (.int .i64 x4))] ∧ F.spatelaw8_rising.l1 Q m x0 x3 x4 h) ?_ ?_ m30 ⟨_, _, _, rfl, H⟩
  · rintro L' h ⟨_, _, _, _, H⟩; exact H
  · rintro q1 L' h ⟨x0, x3, x4, rfl, H⟩
    unfold F.spatelaw8_rising.l1 at H
    refine tr_seq_j (fun L' h => ∃ (x0 : Sl) (x3 : Sl) (x4 : Int), L' = [(0, x0.enc), (3, x3.enc), (4, (.int .i64 x4))] ∧ F.spatelaw8_rising.j2 Q (F.spatelaw8_rising.l1 Q q1) x0 x3 x4 h) ?_ ?_
    · rintro L' h ⟨x0, x3, x4, rfl, H⟩
      unfold F.spatelaw8_rising.j2 at H
      refine tr_seq ?_
      refine tr_block ?_
      refine tr_seq ?_
      refine tr_region ?_
      refine tr_p (y_assign rfl) rfl rfl ?_
      refine tr_nil ?_
      refine tr_thenN ?_
      refine tr_seq ?_
      refine tr_block ?_
      obtain ⟨m27, H⟩ := H
      refine tr_sub [(0, x0.enc), (3, x3.enc), (4, (.int .i64 x4)), (5, (.int .i64 0))] ⟨rfl, rfl, rfl, rfl, trivial⟩ ?_
      refine tr_loop_j (fun m L' h => ∃ (x0 : Sl) (x3 : Sl) (x4 : Int) (x5 : Int), L' = [(0, x0.enc), (3, x3.enc), (4, (.int .i64 x4)), (5, (.int .i64 x5))] ∧ F.spatelaw8_rising.l3 Q (F.spatelaw8_rising.l1 Q q1) m x0 x3 x4 x5 h) ?_ ?_ m27 ⟨_, _, _, _, rfl, H⟩
      · rintro L' h ⟨_, _, _, _, _, H⟩; exact H
      · rintro q3 L' h ⟨x0, x3, x4, x5, rfl, H⟩
        unfold F.spatelaw8_rising.l3 at H
        refine tr_seq_j (fun L' h => ∃ (x0 : Sl) (x3 : Sl) (x4 : Int) (x5 : Int), L' = [(0, x0.enc), (3, x3.enc), (4, (.int .i64 x4)), (5, (.int .i64 x5))] ∧ F.spatelaw8_rising.j4 Q (F.spatelaw8_rising.l1 Q q1) (F.spatelaw8_rising.l3 Q (F.spatelaw8_rising.l1 Q q1) q3) x0 x3 x4 x5 h) ?_ ?_
        · rintro L' h ⟨x0, x3, x4, x5, rfl, H⟩
          unfold F.spatelaw8_rising.j4 at H
          refine tr_block ?_
          refine tr_region ?_
          refine tr_p (y_move rfl) rfl rfl ?_
          refine tr_p (y_add rfl rfl) rfl rfl ?_
          refine tr_p (y_assign rfl) rfl rfl ?_
          refine tr_nil ?_
          refine tr_blockN ?_
          refine tr_thenN ?_
          exact tr_join [(0, x0.enc), (3, x3.enc), (4, (.int .i64 x4)), (5, (.int .i64 (IntKind.wrap .i64 (x5 + 1))))] ⟨rfl, rfl, rfl, rfl, trivial⟩ ⟨_, _, _, _, rfl, H⟩
        · refine tr_seq_j (fun L' h => ∃ (x0 : Sl) (x3 : Sl) (x4 : Int) (x5 : Int) (x31 : Bool), L' = [(0, x0.enc), (3, x3.enc), (4, (.int .i64 x4)), (5, (.int .i64 x5)), (31, (.bool x31))] ∧ F.spatelaw8_rising.j5 Q (F.spatelaw8_rising.l1 Q q1) (F.spatelaw8_rising.l3 Q (F.spatelaw8_rising.l1 Q q1) q3) x0 x3 x4 x5 x31 h) ?_ ?_
          · rintro L' h ⟨x0, x3, x4, x5, x31, rfl, H⟩
            unfold F.spatelaw8_rising.j5 at H
            refine tr_cond rfl (fun g1 => ?_) (fun g1 => ?_)
            · replace H := H.1 g1
              refine tr_skip ?_
              refine tr_thenN ?_
              exact tr_join [(0, x0.enc), (3, x3.enc), (4, (.int .i64 x4)), (5, (.int .i64 x5))] ⟨rfl, rfl, rfl, rfl, trivial⟩ ⟨_, _, _, _, rfl, H⟩
            · replace H := H.2 g1
              refine tr_exit ?_
              refine tr_thenE ?_
              refine tr_thenE ?_
              refine tr_hit ?_
              refine tr_thenN ?_
              refine tr_seq ?_
              refine tr_region ?_
              refine tr_p (y_assign rfl) rfl rfl ?_
              refine tr_nil ?_
              refine tr_thenN ?_
              refine tr_seq ?_
              refine tr_region ?_
              refine tr_p (y_move rfl) rfl rfl ?_
              refine tr_p (y_move rfl) rfl rfl ?_
              refine tr_p (y_move rfl) rfl rfl ?_
              obtain ⟨s3, e2, H⟩ := H
              refine tr_p (f_cutL (s := x3) none (some (.i64, x5)) Try.runUnderlying23 Try.sizeOf3 rfl rfl rfl e2) rfl rfl ?_
              refine tr_e (f_app rfl H) rfl rfl ?_
              rintro _ h4 ⟨s5, rfl, H⟩
              refine tr_p (y_assign rfl) rfl rfl ?_
              refine tr_nil ?_
              refine tr_thenN ?_
              refine tr_seq ?_
              refine tr_region ?_
              refine tr_p (y_move rfl) rfl rfl ?_
              refine tr_p (y_move rfl) rfl rfl ?_
              refine tr_p (y_move rfl) rfl rfl ?_
              obtain ⟨a6, e7, H⟩ := H
              refine tr_p (f_idx (s := x0) Try.runUnderlying23 Try.sizeOf3 rfl rfl e7) rfl rfl ?_
              obtain ⟨y8, k9, H⟩ := H
              refine tr_h (y_ld Try.isAgg3 rfl) k9 rfl rfl ?_
              refine tr_e (f_buildL (cs := #[(.int .i64 y8)]) rfl rfl (bl_23_1_0 y8) H) rfl rfl ?_
              rintro _ h10 ⟨s11, rfl, H⟩
              refine tr_e (f_app rfl H) rfl rfl ?_
              rintro _ h12 ⟨s13, rfl, H⟩
              refine tr_p (y_assign rfl) rfl rfl ?_
              refine tr_nil ?_
              refine tr_thenN ?_
              refine tr_region ?_
              refine tr_p (y_move rfl) rfl rfl ?_
              refine tr_p (y_move rfl) rfl rfl ?_
              refine tr_p (y_move rfl) rfl rfl ?_
              obtain ⟨s15, e14, H⟩ := H
              refine tr_p (f_cutL (s := x3) (some (.i64, x5)) none Try.runUnderlying23 Try.sizeOf3 rfl rfl rfl e14) rfl rfl ?_
              refine tr_e (f_app rfl H) rfl rfl ?_
              rintro _ h16 ⟨s17, rfl, H⟩
              refine tr_p (y_assign rfl) rfl rfl ?_
              refine tr_nil ?_
              refine tr_blockN ?_
              refine tr_thenN ?_
              refine tr_region ?_
              refine tr_p (y_move rfl) rfl rfl ?_
              refine tr_p (y_add rfl rfl) rfl rfl ?_
              refine tr_p (y_assign rfl) rfl rfl ?_
              refine tr_nil ?_
              refine tr_thenN ?_
              exact tr_join [(0, x0.enc), (3, s17.enc), (4, (.int .i64 (IntKind.wrap .i64 (x4 + 1))))] ⟨rfl, rfl, rfl, trivial⟩ ⟨_, _, _, rfl, H⟩
          · refine tr_draw mixed [0, 0, 2, 7, 15, 31, 31, 127, 255, 31, 31, 1567, 3615, 8191, 16383] (by kernel_rfl) ?_
            refine g_p 0 1 rfl (by kernel_rfl) (y_move rfl) rfl rfl ?_
            refine g_p 1 3 rfl (by kernel_rfl) (y_move rfl) rfl rfl ?_
            refine g_p 2 7 rfl (by kernel_rfl) (y_len (ts := #[]) Try.runUnderlying23 (o := x3.ptr) (n := x3.len) (cap := x3.cap) rfl) rfl rfl ?_
            refine g_p 3 15 rfl (by kernel_rfl) (y_lss rfl rfl) rfl rfl ?_
            refine g_p 4 31 rfl (by kernel_rfl) (y_move rfl) rfl rfl ?_
            refine g_split (t := 21) rfl (fun g18 => ?_) (fun g18 => ?_)
            · replace H := H.1 g18
              refine g_p 5 63 rfl (by kernel_rfl) (y_move rfl) rfl rfl ?_
              refine g_p 6 127 rfl (by kernel_rfl) (y_move rfl) rfl rfl ?_
              obtain ⟨a19, e20, H⟩ := H
              refine g_p 7 255 rfl (by kernel_rfl) (f_idx (s := x3) Try.runUnderlying23 Try.sizeOf3 rfl rfl e20) rfl rfl ?_
              obtain ⟨y21, k22, H⟩ := H
              refine g_h 8 511 rfl (by kernel_rfl) (y_ld Try.isAgg3 rfl) k22 rfl rfl ?_
              refine g_p 9 1023 rfl (by kernel_rfl) (y_move rfl) rfl rfl ?_
              refine g_p 10 2047 rfl (by kernel_rfl) (y_move rfl) rfl rfl ?_
              obtain ⟨a23, e24, H⟩ := H
              refine g_p 11 4095 rfl (by kernel_rfl) (f_idx (s := x0) Try.runUnderlying23 Try.sizeOf3 rfl rfl e24) rfl rfl ?_
              obtain ⟨y25, k26, H⟩ := H
              refine g_h 12 8191 rfl (by kernel_rfl) (y_ld Try.isAgg3 rfl) k26 rfl rfl ?_
              refine g_p 13 16383 rfl (by kernel_rfl) (y_leq rfl rfl) rfl rfl ?_
              refine g_p 14 32767 rfl (by kernel_rfl) (y_pick_t rfl rfl) rfl rfl ?_
              refine g_d (by kernel_rfl) ?_
              refine tr_thenN ?_
              exact tr_join [(0, x0.enc), (3, x3.enc), (4, (.int .i64 x4)), (5, (.int .i64 x5)), (31, (.bool (decide (y21 ≤ y25))))] ⟨rfl, rfl, rfl, rfl, rfl, trivial⟩ ⟨_, _, _, _, _, rfl, H⟩
            · replace H := H.2 g18
              refine g_s 5 63 rfl (by kernel_rfl) rfl rfl ?_
              refine g_s 6 127 rfl (by kernel_rfl) rfl rfl ?_
              refine g_s 7 255 rfl (by kernel_rfl) rfl rfl ?_
              refine g_s 8 511 rfl (by kernel_rfl) rfl rfl ?_
              refine g_s 9 1023 rfl (by kernel_rfl) rfl rfl ?_
              refine g_s 10 2047 rfl (by kernel_rfl) rfl rfl ?_
              refine g_s 11 4095 rfl (by kernel_rfl) rfl rfl ?_
              refine g_s 12 8191 rfl (by kernel_rfl) rfl rfl ?_
              refine g_s 13 16383 rfl (by kernel_rfl) rfl rfl ?_
              refine g_p 14 32767 rfl (by kernel_rfl) (y_pick_f rfl rfl) rfl rfl ?_
              refine g_d (by kernel_rfl) ?_
              refine tr_thenN ?_
              exact tr_join [(0, x0.enc), (3, x3.enc), (4, (.int .i64 x4)), (5, (.int .i64 x5)), (31, (.bool false))] ⟨rfl, rfl, rfl, rfl, rfl, trivial⟩ ⟨_, _, _, _, _, rfl, H⟩
    · refine tr_seq_j (fun L' h => ∃ (x0 : Sl) (x3 : Sl) (x4 : Int) (x14 : Bool), L' = [(0, x0.enc), (3, x3.enc), (4, (.int .i64 x4)), (14, (.bool x14))] ∧ F.spatelaw8_rising.j6 Q (F.spatelaw8_rising.l1 Q q1) x0 x3 x4 x14 h) ?_ ?_
      · rintro L' h ⟨x0, x3, x4, x14, rfl, H⟩
        unfold F.spatelaw8_rising.j6 at H
        refine tr_cond rfl (fun g28 => ?_) (fun g28 => ?_)
        · replace H := H.1 g28
          refine tr_skip ?_
          refine tr_thenN ?_
          exact tr_join [(0, x0.enc), (3, x3.enc), (4, (.int .i64 x4))] ⟨rfl, rfl, rfl, trivial⟩ ⟨_, _, _, rfl, H⟩
        · replace H := H.2 g28
          refine tr_exit ?_
          refine tr_thenE ?_
          refine tr_thenE ?_
          refine tr_hit ?_
          refine tr_thenN ?_
          refine tr_seq ?_
          refine tr_region ?_
          refine tr_p (y_move rfl) rfl rfl ?_
          refine tr_p (y_assign rfl) rfl rfl ?_
          refine tr_nil ?_
          refine tr_thenN ?_
          refine tr_ret ?_
          exact tr_ret1 rfl rfl ⟨_, rfl, H⟩
      · refine tr_region ?_
        refine tr_p (y_move rfl) rfl rfl ?_
        refine tr_p (y_move rfl) rfl rfl ?_
        refine tr_p (y_len (ts := #[]) Try.runUnderlying23 (o := x0.ptr) (n := x0.len) (cap := x0.cap) rfl) rfl rfl ?_
        refine tr_p (y_lss rfl rfl) rfl rfl ?_
        refine tr_p (y_move rfl) rfl rfl ?_
        refine tr_split (t := 11) rfl (fun g29 => ?_) (fun g29 => ?_)
        · replace H := H.1 g29
          refine tr_p (y_move rfl) rfl rfl ?_
          refine tr_p (y_lss rfl rfl) rfl rfl ?_
          refine tr_p (y_pick_t rfl rfl) rfl rfl ?_
          refine tr_nil ?_
          refine tr_thenN ?_
          exact tr_join [(0, x0.enc), (3, x3.enc), (4, (.int .i64 x4)), (14, (.bool (decide (x4 < 200))))] ⟨rfl, rfl, rfl, rfl, trivial⟩ ⟨_, _, _, _, rfl, H⟩
        · replace H := H.2 g29
          refine tr_s rfl rfl ?_
          refine tr_s rfl rfl ?_
          refine tr_p (y_pick_f rfl rfl) rfl rfl ?_
          refine tr_nil ?_
          refine tr_thenN ?_
          exact tr_join [(0, x0.enc), (3, x3.enc), (4, (.int .i64 x4)), (14, (.bool false))] ⟨rfl, rfl, rfl, rfl, trivial⟩ ⟨_, _, _, _, rfl, H⟩
def F.spateref8_Lists.j3 (Q : Sl → H → Prop) (C1 : Sl → Sl → Sl → H → Prop) (C2 : Sl → Sl → Sl → Int → Int → H → Prop) (x0 : Sl) (x3 : Sl) (x4 : Sl) (x5 : Int) (x6 : Int) (h : H) : Prop :=
  C2 x0 x3 x4 x5 (IntKind.wrap .i64 (x6 + 1)) h
def F.spateref8_Lists.j4 (Q : Sl → H → Prop) (C1 : Sl → Sl → Sl → H → Prop) (C2 : Sl → Sl → Sl → Int → Int → H → Prop) (x0 : Sl) (x3 : Sl) (x4 : Sl) (x5 : Int) (x6 : Int) (x53 : Bool) (h : H) : Prop :=
  (x53 = true →
  F.spateref8_Lists.j3 Q C1 C2 x0 x3 x4 x6 x6 h) ∧
  (x53 = false →
  F.spateref8_Lists.j3 Q C1 C2 x0 x3 x4 x5 x6 h)
def F.spateref8_Lists.j5 (Q : Sl → H → Prop) (C1 : Sl → Sl → Sl → H → Prop) (x0 : Sl) (x3 : Sl) (x4 : Sl) (x5 : Int) (h : H) : Prop :=
  idxA x4 x5 1 fun a52 =>
  ldI .i64 h a52 fun y54 =>
  idxA x4 x5 1 fun a56 =>
  stH h a56 [(.int .i64 (IntKind.wrap .i64 (y54 + 1)))] fun h58 =>
  C1 x0 x3 x4 h58
def F.spateref8_Lists.j6 (Q : Sl → H → Prop) (C1 : Sl → Sl → Sl → H → Prop) (x0 : Sl) (x3 : Sl) (x4 : Sl) (x5 : Int) (x7 : Int) (x80 : Bool) (h : H) : Prop :=
  (x80 = true →
  newL h #[(.int .i64 x7)] ty_3 1 fun s61 h60 =>
  runL PP (Builtin.append_ #[23, 23] 23 #[x3.enc, s61.enc]) h60 fun s63 h62 =>
  F.spateref8_Lists.j5 Q C1 x0 s63 x4 x5 h62) ∧
  (x80 = false →
  F.spateref8_Lists.j5 Q C1 x0 x3 x4 x5 h)
def F.spateref8_Lists.l2 (Q : Sl → H → Prop) (C1 : Sl → Sl → Sl → H → Prop) : Nat → Sl → Sl → Sl → Int → Int → H → Prop
  | 0, _, _, _, _, _, _ => False
  | q2 + 1, x0, x3, x4, x5, x6, h =>
    ((decide (x6 < (x0.len : Int))) = true →
    idxA x4 x6 1 fun a5 =>
    ldI .i64 h a5 fun y7 =>
    idxA x0 x6 1 fun a9 =>
    ldL h a9 fun y11 =>
    ((decide (y7 < (y11.len : Int))) = true →
    ((decide (x5 < 0)) = true →
    F.spateref8_Lists.j4 Q C1 (F.spateref8_Lists.l2 Q C1 q2) x0 x3 x4 x5 x6 true h) ∧
    ((decide (x5 < 0)) = false →
    idxA x0 x6 1 fun a15 =>
    ldL h a15 fun y17 =>
    idxA x4 x6 1 fun a19 =>
    ldI .i64 h a19 fun y21 =>
    idxA y17 y21 1 fun a23 =>
    ldI .i64 h a23 fun y25 =>
    idxA x0 x5 1 fun a27 =>
    ldL h a27 fun y29 =>
    idxA x4 x5 1 fun a31 =>
    ldI .i64 h a31 fun y33 =>
    idxA y29 y33 1 fun a35 =>
    ldI .i64 h a35 fun y37 =>
    F.spateref8_Lists.j4 Q C1 (F.spateref8_Lists.l2 Q C1 q2) x0 x3 x4 x5 x6 (decide (y25 < y37)) h)) ∧
    ((decide (y7 < (y11.len : Int))) = false →
    F.spateref8_Lists.j4 Q C1 (F.spateref8_Lists.l2 Q C1 q2) x0 x3 x4 x5 x6 false h)) ∧
    ((decide (x6 < (x0.len : Int))) = false →
    ((decide (x5 < 0)) = true →
    Q x3 h) ∧
    ((decide (x5 < 0)) = false →
    idxA x0 x5 1 fun a40 =>
    ldL h a40 fun y42 =>
    idxA x4 x5 1 fun a44 =>
    ldI .i64 h a44 fun y46 =>
    idxA y42 y46 1 fun a48 =>
    ldI .i64 h a48 fun y50 =>
    ((((x3.len : Int) == 0)) = true →
    F.spateref8_Lists.j6 Q C1 x0 x3 x4 x5 y50 true h) ∧
    ((((x3.len : Int) == 0)) = false →
    idxA x3 (IntKind.wrap .i64 ((x3.len : Int) - 1)) 1 fun a65 =>
    ldI .i64 h a65 fun y67 =>
    F.spateref8_Lists.j6 Q C1 x0 x3 x4 x5 y50 ((y67 != y50)) h)))
def F.spateref8_Lists.l1 (Q : Sl → H → Prop) : Nat → Sl → Sl → Sl → H → Prop
  | 0, _, _, _, _ => False
  | q1 + 1, x0, x3, x4, h =>
    ∃ m, F.spateref8_Lists.l2 Q (F.spateref8_Lists.l1 Q q1) m x0 x3 x4 (-1) 0 h
/-- spate/spateref8.Lists -/
def F.spateref8_Lists (p0 : Sl) (h : H) (Q : Sl → H → Prop) : Prop :=
  runL PP (Instr.makeSlice 23 (.int .i64 (p0.len : Int)) (.int .i64 (p0.len : Int))) h fun s2 h1 =>
  ∃ m, F.spateref8_Lists.l1 Q m p0 (⟨none, 0, 0⟩ : Sl) s2 h1
theorem F.spateref8_Lists_ok {p0 : Sl} {h : H} {Q : Sl → H → Prop} (H : F.spateref8_Lists p0 h Q) : Fn PP 17 ([p0.enc] : List Value).toArray h fun r h' => ∃ r0, r = r0.enc ∧ Q r0 h' := by
  unfold F.spateref8_Lists at H
  refine fn_of Try.func17 Try.ntmps17 rfl rfl fun w0 => ?_
  refine tr_sub [(0, p0.enc)] ⟨rfl, trivial⟩ ?_
  refine tr_seq ?_
  refine tr_region ?_
  refine tr_p (y_assign rfl) rfl rfl ?_
  refine tr_nil ?_
  refine tr_thenN ?_
  refine tr_seq ?_
  refine tr_region ?_
  refine tr_p (y_assign rfl) rfl rfl ?_
  refine tr_nil ?_
  refine tr_thenN ?_
  refine tr_seq ?_
  refine tr_region ?_
  refine tr_p (y_move rfl) rfl rfl ?_
  refine tr_p (y_len (ts := #[]) Try.runUnderlying25 (o := p0.ptr) (n := p0.len) (cap := p0.cap) rfl) rfl rfl ?_
  refine tr_e (f_make rfl rfl H) rfl rfl ?_
  rintro _ h1 ⟨s2, rfl, H⟩
  refine tr_p (y_assign rfl) rfl rfl ?_
  refine tr_nil ?_
  refine tr_thenN ?_
  refine tr_block ?_
  obtain ⟨m70, H⟩ := H
  refine tr_sub [(0, p0.enc), (3, (⟨none, 0, 0⟩ : Sl).enc), (4, s2.enc)] ⟨rfl, rfl, rfl, trivial⟩ ?_
  refine tr_loop_j (fun m L' h => ∃ (x0 : Sl) (x3 : Sl) (x4 : Sl), L' = [(0, x0.enc), (3, x3.enc), (4, x4.enc)] ∧ F.spateref8_Lists.l1 Q m x0 x3 x4 h) ?_ ?_ m70 ⟨_, _, _, rfl, H⟩
  · rintro L' h ⟨_, _, _, _, H⟩; exact H
  · rintro q1 L' h ⟨x0, x3, x4, rfl, H⟩
    unfold F.spateref8_Lists.l1 at H
    refine tr_block ?_
    refine tr_seq ?_
    refine tr_region ?_
    refine tr_p (y_assign rfl) rfl rfl ?_
    refine tr_nil ?_
    refine tr_thenN ?_
    refine tr_seq ?_
    refine tr_seq ?_
    refine tr_region ?_
    refine tr_p (y_assign rfl) rfl rfl ?_
    refine tr_nil ?_
    refine tr_thenN ?_
    refine tr_block ?_
    obtain ⟨m69, H⟩ := H
    refine tr_sub [(0, x0.enc), (3, x3.enc), (4, x4.enc), (5, (.int .i64 (-1))), (6, (.int .i64 0))] ⟨rfl, rfl, rfl, rfl, rfl, trivial⟩ ?_
    refine tr_loop_j (fun m L' h => ∃ (x0 : Sl) (x3 : Sl) (x4 : Sl) (x5 : Int) (x6 : Int), L' = [(0, x0.enc), (3, x3.enc), (4, x4.enc), (5, (.int .i64 x5)), (6, (.int .i64 x6))] ∧ F.spateref8_Lists.l2 Q (F.spateref8_Lists.l1 Q q1) m x0 x3 x4 x5 x6 h) ?_ ?_ m69 ⟨_, _, _, _, _, rfl, H⟩
    · rintro L' h ⟨_, _, _, _, _, _, H⟩; exact H
    · rintro q2 L' h ⟨x0, x3, x4, x5, x6, rfl, H⟩
      unfold F.spateref8_Lists.l2 at H
      refine tr_seq ?_
      refine tr_seq ?_
      refine tr_region ?_
      refine tr_p (y_move rfl) rfl rfl ?_
      refine tr_p (y_move rfl) rfl rfl ?_
      refine tr_p (y_len (ts := #[]) Try.runUnderlying25 (o := x0.ptr) (n := x0.len) (cap := x0.cap) rfl) rfl rfl ?_
      refine tr_p (y_lss rfl rfl) rfl rfl ?_
      refine tr_nil ?_
      refine tr_thenN ?_
      refine tr_cond rfl (fun g3 => ?_) (fun g3 => ?_)
      · replace H := H.1 g3
        refine tr_skip ?_
        refine tr_thenN ?_
        refine tr_seq_j (fun L' h => ∃ (x0 : Sl) (x3 : Sl) (x4 : Sl) (x5 : Int) (x6 : Int), L' = [(0, x0.enc), (3, x3.enc), (4, x4.enc), (5, (.int .i64 x5)), (6, (.int .i64 x6))] ∧ F.spateref8_Lists.j3 Q (F.spateref8_Lists.l1 Q q1) (F.spateref8_Lists.l2 Q (F.spateref8_Lists.l1 Q q1) q2) x0 x3 x4 x5 x6 h) ?_ ?_
        · rintro L' h ⟨x0, x3, x4, x5, x6, rfl, H⟩
          unfold F.spateref8_Lists.j3 at H
          refine tr_region ?_
          refine tr_p (y_move rfl) rfl rfl ?_
          refine tr_p (y_add rfl rfl) rfl rfl ?_
          refine tr_p (y_assign rfl) rfl rfl ?_
          refine tr_nil ?_
          refine tr_thenN ?_
          exact tr_join [(0, x0.enc), (3, x3.enc), (4, x4.enc), (5, (.int .i64 x5)), (6, (.int .i64 (IntKind.wrap .i64 (x6 + 1))))] ⟨rfl, rfl, rfl, rfl, rfl, trivial⟩ ⟨_, _, _, _, _, rfl, H⟩
        · refine tr_block ?_
          refine tr_seq_j (fun L' h => ∃ (x0 : Sl) (x3 : Sl) (x4 : Sl) (x5 : Int) (x6 : Int) (x53 : Bool), L' = [(0, x0.enc), (3, x3.enc), (4, x4.enc), (5, (.int .i64 x5)), (6, (.int .i64 x6)), (53, (.bool x53))] ∧ F.spateref8_Lists.j4 Q (F.spateref8_Lists.l1 Q q1) (F.spateref8_Lists.l2 Q (F.spateref8_Lists.l1 Q q1) q2) x0 x3 x4 x5 x6 x53 h) ?_ ?_
          · rintro L' h ⟨x0, x3, x4, x5, x6, x53, rfl, H⟩
            unfold F.spateref8_Lists.j4 at H
            refine tr_cond rfl (fun g4 => ?_) (fun g4 => ?_)
            · replace H := H.1 g4
              refine tr_region ?_
              refine tr_p (y_move rfl) rfl rfl ?_
              refine tr_p (y_assign rfl) rfl rfl ?_
              refine tr_nil ?_
              refine tr_blockN ?_
              refine tr_thenN ?_
              exact tr_join [(0, x0.enc), (3, x3.enc), (4, x4.enc), (5, (.int .i64 x6)), (6, (.int .i64 x6))] ⟨rfl, rfl, rfl, rfl, rfl, trivial⟩ ⟨_, _, _, _, _, rfl, H⟩
            · replace H := H.2 g4
              refine tr_skip ?_
              refine tr_blockN ?_
              refine tr_thenN ?_
              exact tr_join [(0, x0.enc), (3, x3.enc), (4, x4.enc), (5, (.int .i64 x5)), (6, (.int .i64 x6))] ⟨rfl, rfl, rfl, rfl, rfl, trivial⟩ ⟨_, _, _, _, _, rfl, H⟩
          · refine tr_draw mixed [0, 0, 3, 7, 0, 0, 48, 112, 240, 511, 1023, 2047, 4095, 8191, 16383, 16383, 65535, 131071, 16383, 16383, 802815, 1851391, 4194303, 8388607, 16383, 16383, 50348031, 117456895, 16383, 16383, 805322751, 1879064575, 4278206463, 8573173759, 17179869183, 34359738367, 68719476735] (by kernel_rfl) ?_
            refine g_p 0 1 rfl (by kernel_rfl) (y_move rfl) rfl rfl ?_
            refine g_p 1 3 rfl (by kernel_rfl) (y_move rfl) rfl rfl ?_
            obtain ⟨a5, e6, H⟩ := H
            refine g_p 2 7 rfl (by kernel_rfl) (f_idx (s := x4) Try.runUnderlying23 Try.sizeOf3 rfl rfl e6) rfl rfl ?_
            obtain ⟨y7, k8, H⟩ := H
            refine g_h 3 15 rfl (by kernel_rfl) (y_ld Try.isAgg3 rfl) k8 rfl rfl ?_
            refine g_p 4 31 rfl (by kernel_rfl) (y_move rfl) rfl rfl ?_
            refine g_p 5 63 rfl (by kernel_rfl) (y_move rfl) rfl rfl ?_
            obtain ⟨a9, e10, H⟩ := H
            refine g_p 6 127 rfl (by kernel_rfl) (f_idx (s := x0) Try.runUnderlying25 Try.sizeOf23 rfl rfl e10) rfl rfl ?_
            obtain ⟨y11, k12, H⟩ := H
            refine g_h 7 255 rfl (by kernel_rfl) (y_ld Try.isAgg23 rfl) k12 rfl rfl ?_
            refine g_p 8 511 rfl (by kernel_rfl) (y_len (ts := #[]) Try.runUnderlying23 (o := y11.ptr) (n := y11.len) (cap := y11.cap) rfl) rfl rfl ?_
            refine g_p 9 1023 rfl (by kernel_rfl) (y_lss rfl rfl) rfl rfl ?_
            refine g_p 10 2047 rfl (by kernel_rfl) (y_move rfl) rfl rfl ?_
            refine g_split (t := 27) rfl (fun g13 => ?_) (fun g13 => ?_)
            · replace H := H.1 g13
              refine g_p 11 4095 rfl (by kernel_rfl) (y_move rfl) rfl rfl ?_
              refine g_p 12 8191 rfl (by kernel_rfl) (y_lss rfl rfl) rfl rfl ?_
              refine g_p 13 16383 rfl (by kernel_rfl) (y_move rfl) rfl rfl ?_
              refine g_split (t := 30) rfl (fun g14 => ?_) (fun g14 => ?_)
              · replace H := H.1 g14
                refine g_s 14 32767 rfl (by kernel_rfl) rfl rfl ?_
                refine g_s 15 65535 rfl (by kernel_rfl) rfl rfl ?_
                refine g_s 16 131071 rfl (by kernel_rfl) rfl rfl ?_
                refine g_s 17 262143 rfl (by kernel_rfl) rfl rfl ?_
                refine g_s 18 524287 rfl (by kernel_rfl) rfl rfl ?_
                refine g_s 19 1048575 rfl (by kernel_rfl) rfl rfl ?_
                refine g_s 20 2097151 rfl (by kernel_rfl) rfl rfl ?_
                refine g_s 21 4194303 rfl (by kernel_rfl) rfl rfl ?_
                refine g_s 22 8388607 rfl (by kernel_rfl) rfl rfl ?_
                refine g_s 23 16777215 rfl (by kernel_rfl) rfl rfl ?_
                refine g_s 24 33554431 rfl (by kernel_rfl) rfl rfl ?_
                refine g_s 25 67108863 rfl (by kernel_rfl) rfl rfl ?_
                refine g_s 26 134217727 rfl (by kernel_rfl) rfl rfl ?_
                refine g_s 27 268435455 rfl (by kernel_rfl) rfl rfl ?_
                refine g_s 28 536870911 rfl (by kernel_rfl) rfl rfl ?_
                refine g_s 29 1073741823 rfl (by kernel_rfl) rfl rfl ?_
                refine g_s 30 2147483647 rfl (by kernel_rfl) rfl rfl ?_
                refine g_s 31 4294967295 rfl (by kernel_rfl) rfl rfl ?_
                refine g_s 32 8589934591 rfl (by kernel_rfl) rfl rfl ?_
                refine g_s 33 17179869183 rfl (by kernel_rfl) rfl rfl ?_
                refine g_s 34 34359738367 rfl (by kernel_rfl) rfl rfl ?_
                refine g_p 35 68719476735 rfl (by kernel_rfl) (y_pick_t rfl rfl) rfl rfl ?_
                refine g_p 36 137438953471 rfl (by kernel_rfl) (y_pick_t rfl rfl) rfl rfl ?_
                refine g_d (by kernel_rfl) ?_
                refine tr_thenN ?_
                exact tr_join [(0, x0.enc), (3, x3.enc), (4, x4.enc), (5, (.int .i64 x5)), (6, (.int .i64 x6)), (53, (.bool true))] ⟨rfl, rfl, rfl, rfl, rfl, rfl, trivial⟩ ⟨_, _, _, _, _, _, rfl, H⟩
              · replace H := H.2 g14
                refine g_p 14 32767 rfl (by kernel_rfl) (y_move rfl) rfl rfl ?_
                refine g_p 15 65535 rfl (by kernel_rfl) (y_move rfl) rfl rfl ?_
                obtain ⟨a15, e16, H⟩ := H
                refine g_p 16 131071 rfl (by kernel_rfl) (f_idx (s := x0) Try.runUnderlying25 Try.sizeOf23 rfl rfl e16) rfl rfl ?_
                obtain ⟨y17, k18, H⟩ := H
                refine g_h 17 262143 rfl (by kernel_rfl) (y_ld Try.isAgg23 rfl) k18 rfl rfl ?_
                refine g_p 18 524287 rfl (by kernel_rfl) (y_move rfl) rfl rfl ?_
                refine g_p 19 1048575 rfl (by kernel_rfl) (y_move rfl) rfl rfl ?_
                obtain ⟨a19, e20, H⟩ := H
                refine g_p 20 2097151 rfl (by kernel_rfl) (f_idx (s := x4) Try.runUnderlying23 Try.sizeOf3 rfl rfl e20) rfl rfl ?_
                obtain ⟨y21, k22, H⟩ := H
                refine g_h 21 4194303 rfl (by kernel_rfl) (y_ld Try.isAgg3 rfl) k22 rfl rfl ?_
                obtain ⟨a23, e24, H⟩ := H
                refine g_p 22 8388607 rfl (by kernel_rfl) (f_idx (s := y17) Try.runUnderlying23 Try.sizeOf3 rfl rfl e24) rfl rfl ?_
                obtain ⟨y25, k26, H⟩ := H
                refine g_h 23 16777215 rfl (by kernel_rfl) (y_ld Try.isAgg3 rfl) k26 rfl rfl ?_
                refine g_p 24 33554431 rfl (by kernel_rfl) (y_move rfl) rfl rfl ?_
                refine g_p 25 67108863 rfl (by kernel_rfl) (y_move rfl) rfl rfl ?_
                obtain ⟨a27, e28, H⟩ := H
                refine g_p 26 134217727 rfl (by kernel_rfl) (f_idx (s := x0) Try.runUnderlying25 Try.sizeOf23 rfl rfl e28) rfl rfl ?_
                obtain ⟨y29, k30, H⟩ := H
                refine g_h 27 268435455 rfl (by kernel_rfl) (y_ld Try.isAgg23 rfl) k30 rfl rfl ?_
                refine g_p 28 536870911 rfl (by kernel_rfl) (y_move rfl) rfl rfl ?_
                refine g_p 29 1073741823 rfl (by kernel_rfl) (y_move rfl) rfl rfl ?_
                obtain ⟨a31, e32, H⟩ := H
                refine g_p 30 2147483647 rfl (by kernel_rfl) (f_idx (s := x4) Try.runUnderlying23 Try.sizeOf3 rfl rfl e32) rfl rfl ?_
                obtain ⟨y33, k34, H⟩ := H
                refine g_h 31 4294967295 rfl (by kernel_rfl) (y_ld Try.isAgg3 rfl) k34 rfl rfl ?_
                obtain ⟨a35, e36, H⟩ := H
                refine g_p 32 8589934591 rfl (by kernel_rfl) (f_idx (s := y29) Try.runUnderlying23 Try.sizeOf3 rfl rfl e36) rfl rfl ?_
                obtain ⟨y37, k38, H⟩ := H
                refine g_h 33 17179869183 rfl (by kernel_rfl) (y_ld Try.isAgg3 rfl) k38 rfl rfl ?_
                refine g_p 34 34359738367 rfl (by kernel_rfl) (y_lss rfl rfl) rfl rfl ?_
                refine g_p 35 68719476735 rfl (by kernel_rfl) (y_pick_f rfl rfl) rfl rfl ?_
                refine g_p 36 137438953471 rfl (by kernel_rfl) (y_pick_t rfl rfl) rfl rfl ?_
                refine g_d (by kernel_rfl) ?_
                refine tr_thenN ?_
                exact tr_join [(0, x0.enc), (3, x3.enc), (4, x4.enc), (5, (.int .i64 x5)), (6, (.int .i64 x6)), (53, (.bool (decide (y25 < y37))))] ⟨rfl, rfl, rfl, rfl, rfl, rfl, trivial⟩ ⟨_, _, _, _, _, _, rfl, H⟩
            · replace H := H.2 g13
              refine g_s 11 4095 rfl (by kernel_rfl) rfl rfl ?_
              refine g_s 12 8191 rfl (by kernel_rfl) rfl rfl ?_
              refine g_s 13 16383 rfl (by kernel_rfl) rfl rfl ?_
              refine g_s 14 32767 rfl (by kernel_rfl) rfl rfl ?_
              refine g_s 15 65535 rfl (by kernel_rfl) rfl rfl ?_
              refine g_s 16 131071 rfl (by kernel_rfl) rfl rfl ?_
              refine g_s 17 262143 rfl (by kernel_rfl) rfl rfl ?_
              refine g_s 18 524287 rfl (by kernel_rfl) rfl rfl ?_
              refine g_s 19 1048575 rfl (by kernel_rfl) rfl rfl ?_
              refine g_s 20 2097151 rfl (by kernel_rfl) rfl rfl ?_
              refine g_s 21 4194303 rfl (by kernel_rfl) rfl rfl ?_
              refine g_s 22 8388607 rfl (by kernel_rfl) rfl rfl ?_
              refine g_s 23 16777215 rfl (by kernel_rfl) rfl rfl ?_
              refine g_s 24 33554431 rfl (by kernel_rfl) rfl rfl ?_
              refine g_s 25 67108863 rfl (by kernel_rfl) rfl rfl ?_
              refine g_s 26 134217727 rfl (by kernel_rfl) rfl rfl ?_
              refine g_s 27 268435455 rfl (by kernel_rfl) rfl rfl ?_
              refine g_s 28 536870911 rfl (by kernel_rfl) rfl rfl ?_
              refine g_s 29 1073741823 rfl (by kernel_rfl) rfl rfl ?_
              refine g_s 30 2147483647 rfl (by kernel_rfl) rfl rfl ?_
              refine g_s 31 4294967295 rfl (by kernel_rfl) rfl rfl ?_
              refine g_s 32 8589934591 rfl (by kernel_rfl) rfl rfl ?_
              refine g_s 33 17179869183 rfl (by kernel_rfl) rfl rfl ?_
              refine g_s 34 34359738367 rfl (by kernel_rfl) rfl rfl ?_
              refine g_s 35 68719476735 rfl (by kernel_rfl) rfl rfl ?_
              refine g_p 36 137438953471 rfl (by kernel_rfl) (y_pick_f rfl rfl) rfl rfl ?_
              refine g_d (by kernel_rfl) ?_
              refine tr_thenN ?_
              exact tr_join [(0, x0.enc), (3, x3.enc), (4, x4.enc), (5, (.int .i64 x5)), (6, (.int .i64 x6)), (53, (.bool false))] ⟨rfl, rfl, rfl, rfl, rfl, rfl, trivial⟩ ⟨_, _, _, _, _, _, rfl, H⟩
      · replace H := H.2 g3
        refine tr_exit ?_
        refine tr_thenE ?_
        refine tr_thenE ?_
        refine tr_hit ?_
        refine tr_thenN ?_
        refine tr_seq ?_
        refine tr_seq ?_
        refine tr_region ?_
        refine tr_p (y_move rfl) rfl rfl ?_
        refine tr_p (y_lss rfl rfl) rfl rfl ?_
        refine tr_nil ?_
        refine tr_thenN ?_
        refine tr_cond rfl (fun g39 => ?_) (fun g39 => ?_)
        · replace H := H.1 g39
          refine tr_seq ?_
          refine tr_region ?_
          refine tr_p (y_move rfl) rfl rfl ?_
          refine tr_p (y_assign rfl) rfl rfl ?_
          refine tr_nil ?_
          refine tr_thenN ?_
          refine tr_ret ?_
          refine tr_thenR ?_
          refine tr_blockR ?_
          refine tr_thenR ?_
          refine tr_blockR ?_
          exact tr_ret1 rfl rfl ⟨_, rfl, H⟩
        · replace H := H.2 g39
          refine tr_skip ?_
          refine tr_thenN ?_
          refine tr_seq ?_
          refine tr_draw mixed [0, 0, 3, 7, 0, 0, 48, 112, 255, 511, 1023] (by kernel_rfl) ?_
          refine g_p 0 1 rfl (by kernel_rfl) (y_move rfl) rfl rfl ?_
          refine g_p 1 3 rfl (by kernel_rfl) (y_move rfl) rfl rfl ?_
          obtain ⟨a40, e41, H⟩ := H
          refine g_p 2 7 rfl (by kernel_rfl) (f_idx (s := x0) Try.runUnderlying25 Try.sizeOf23 rfl rfl e41) rfl rfl ?_
          obtain ⟨y42, k43, H⟩ := H
          refine g_h 3 15 rfl (by kernel_rfl) (y_ld Try.isAgg23 rfl) k43 rfl rfl ?_
          refine g_p 4 31 rfl (by kernel_rfl) (y_move rfl) rfl rfl ?_
          refine g_p 5 63 rfl (by kernel_rfl) (y_move rfl) rfl rfl ?_
          obtain ⟨a44, e45, H⟩ := H
          refine g_p 6 127 rfl (by kernel_rfl) (f_idx (s := x4) Try.runUnderlying23 Try.sizeOf3 rfl rfl e45) rfl rfl ?_
          obtain ⟨y46, k47, H⟩ := H
          refine g_h 7 255 rfl (by kernel_rfl) (y_ld Try.isAgg3 rfl) k47 rfl rfl ?_
          obtain ⟨a48, e49, H⟩ := H
          refine g_p 8 511 rfl (by kernel_rfl) (f_idx (s := y42) Try.runUnderlying23 Try.sizeOf3 rfl rfl e49) rfl rfl ?_
          obtain ⟨y50, k51, H⟩ := H
          refine g_h 9 1023 rfl (by kernel_rfl) (y_ld Try.isAgg3 rfl) k51 rfl rfl ?_
          refine g_p 10 2047 rfl (by kernel_rfl) (y_assign rfl) rfl rfl ?_
          refine g_d (by kernel_rfl) ?_
          refine tr_thenN ?_
          refine tr_seq_j (fun L' h => ∃ (x0 : Sl) (x3 : Sl) (x4 : Sl) (x5 : Int), L' = [(0, x0.enc), (3, x3.enc), (4, x4.enc), (5, (.int .i64 x5))] ∧ F.spateref8_Lists.j5 Q (F.spateref8_Lists.l1 Q q1) x0 x3 x4 x5 h) ?_ ?_
          · rintro L' h ⟨x0, x3, x4, x5, rfl, H⟩
            unfold F.spateref8_Lists.j5 at H
            refine tr_region ?_
            refine tr_p (y_move rfl) rfl rfl ?_
            refine tr_p (y_move rfl) rfl rfl ?_
            obtain ⟨a52, e53, H⟩ := H
            refine tr_p (f_idx (s := x4) Try.runUnderlying23 Try.sizeOf3 rfl rfl e53) rfl rfl ?_
            obtain ⟨y54, k55, H⟩ := H
            refine tr_h (y_ld Try.isAgg3 rfl) k55 rfl rfl ?_
            refine tr_p (y_add rfl rfl) rfl rfl ?_
            obtain ⟨a56, e57, H⟩ := H
            refine tr_p (f_idx (s := x4) Try.runUnderlying23 Try.sizeOf3 rfl rfl e57) rfl rfl ?_
            refine tr_e (f_store (vs := [(.int .i64 (IntKind.wrap .i64 (y54 + 1)))]) Try.sizeOf3 rfl rfl rfl rfl (one1 rfl) H) rfl rfl ?_
            rintro _ h58 ⟨rfl, H⟩
            refine tr_nil ?_
            refine tr_blockN ?_
            refine tr_thenN ?_
            exact tr_join [(0, x0.enc), (3, x3.enc), (4, x4.enc)] ⟨rfl, rfl, rfl, trivial⟩ ⟨_, _, _, rfl, H⟩
          · refine tr_seq_j (fun L' h => ∃ (x0 : Sl) (x3 : Sl) (x4 : Sl) (x5 : Int) (x7 : Int) (x80 : Bool), L' = [(0, x0.enc), (3, x3.enc), (4, x4.enc), (5, (.int .i64 x5)), (7, (.int .i64 x7)), (80, (.bool x80))] ∧ F.spateref8_Lists.j6 Q (F.spateref8_Lists.l1 Q q1) x0 x3 x4 x5 x7 x80 h) ?_ ?_
            · rintro L' h ⟨x0, x3, x4, x5, x7, x80, rfl, H⟩
              unfold F.spateref8_Lists.j6 at H
              refine tr_cond rfl (fun g59 => ?_) (fun g59 => ?_)
              · replace H := H.1 g59
                refine tr_region ?_
                refine tr_p (y_move rfl) rfl rfl ?_
                refine tr_p (y_move rfl) rfl rfl ?_
                refine tr_e (f_buildL (cs := #[(.int .i64 x7)]) rfl rfl (bl_23_1_0 x7) H) rfl rfl ?_
                rintro _ h60 ⟨s61, rfl, H⟩
                refine tr_e (f_app rfl H) rfl rfl ?_
                rintro _ h62 ⟨s63, rfl, H⟩
                refine tr_p (y_assign rfl) rfl rfl ?_
                refine tr_nil ?_
                refine tr_thenN ?_
                exact tr_join [(0, x0.enc), (3, s63.enc), (4, x4.enc), (5, (.int .i64 x5))] ⟨rfl, rfl, rfl, rfl, trivial⟩ ⟨_, _, _, _, rfl, H⟩
              · replace H := H.2 g59
                refine tr_skip ?_
                refine tr_thenN ?_
                exact tr_join [(0, x0.enc), (3, x3.enc), (4, x4.enc), (5, (.int .i64 x5))] ⟨rfl, rfl, rfl, rfl, trivial⟩ ⟨_, _, _, _, rfl, H⟩
            · refine tr_region ?_
              refine tr_p (y_move rfl) rfl rfl ?_
              refine tr_p (y_len (ts := #[]) Try.runUnderlying23 (o := x3.ptr) (n := x3.len) (cap := x3.cap) rfl) rfl rfl ?_
              refine tr_p (y_eql rfl rfl) rfl rfl ?_
              refine tr_p (y_move rfl) rfl rfl ?_
              refine tr_split (t := 71) rfl (fun g64 => ?_) (fun g64 => ?_)
              · replace H := H.1 g64
                refine tr_s rfl rfl ?_
                refine tr_s rfl rfl ?_
                refine tr_s rfl rfl ?_
                refine tr_s rfl rfl ?_
                refine tr_s rfl rfl ?_
                refine tr_s rfl rfl ?_
                refine tr_s rfl rfl ?_
                refine tr_s rfl rfl ?_
                refine tr_p (y_pick_t rfl rfl) rfl rfl ?_
                refine tr_nil ?_
                refine tr_thenN ?_
                exact tr_join [(0, x0.enc), (3, x3.enc), (4, x4.enc), (5, (.int .i64 x5)), (7, (.int .i64 y50)), (80, (.bool true))] ⟨rfl, rfl, rfl, rfl, rfl, rfl, trivial⟩ ⟨_, _, _, _, _, _, rfl, H⟩
              · replace H := H.2 g64
                refine tr_p (y_move rfl) rfl rfl ?_
                refine tr_p (y_move rfl) rfl rfl ?_
                refine tr_p (y_len (ts := #[]) Try.runUnderlying23 (o := x3.ptr) (n := x3.len) (cap := x3.cap) rfl) rfl rfl ?_
                refine tr_p (y_sub rfl rfl) rfl rfl ?_
                obtain ⟨a65, e66, H⟩ := H
                refine tr_p (f_idx (s := x3) Try.runUnderlying23 Try.sizeOf3 rfl rfl e66) rfl rfl ?_
                obtain ⟨y67, k68, H⟩ := H
                refine tr_h (y_ld Try.isAgg3 rfl) k68 rfl rfl ?_
                refine tr_p (y_move rfl) rfl rfl ?_
                refine tr_p (y_neq rfl rfl) rfl rfl ?_
                refine tr_p (y_pick_f rfl rfl) rfl rfl ?_
                refine tr_nil ?_
                refine tr_thenN ?_
                exact tr_join [(0, x0.enc), (3, x3.enc), (4, x4.enc), (5, (.int .i64 x5)), (7, (.int .i64 y50)), (80, (.bool ((y67 != y50))))] ⟨rfl, rfl, rfl, rfl, rfl, rfl, trivial⟩ ⟨_, _, _, _, _, _, rfl, H⟩
def F.spatelaw8_same.l1 (Q : Bool → H → Prop) : Nat → Sl → Sl → Int → H → Prop
  | 0, _, _, _, _ => False
  | q1 + 1, x0, x1, x5, h =>
    ((decide (x5 < (x0.len : Int))) = true →
    idxA x0 x5 1 fun a3 =>
    ldI .i64 h a3 fun y5 =>
    idxA x1 x5 1 fun a7 =>
    ldI .i64 h a7 fun y9 =>
    (((y5 != y9)) = true →
    Q false h) ∧
    (((y5 != y9)) = false →
    (F.spatelaw8_same.l1 Q q1) x0 x1 (IntKind.wrap .i64 (x5 + 1)) h)) ∧
    ((decide (x5 < (x0.len : Int))) = false →
    Q true h)
/-- spate/spatelaw8.same -/
def F.spatelaw8_same (p0 : Sl) (p1 : Sl) (h : H) (Q : Bool → H → Prop) : Prop :=
  ((((p0.len : Int) != (p1.len : Int))) = true →
  Q false h) ∧
  ((((p0.len : Int) != (p1.len : Int))) = false →
  ∃ m, F.spatelaw8_same.l1 Q m p0 p1 0 h)
theorem F.spatelaw8_same_ok {p0 : Sl} {p1 : Sl} {h : H} {Q : Bool → H → Prop} (H : F.spatelaw8_same p0 p1 h Q) : Fn PP 19 ([p0.enc, p1.enc] : List Value).toArray h fun r h' => ∃ r0, r = (.bool r0) ∧ Q r0 h' := by
  unfold F.spatelaw8_same at H
  refine fn_of Try.func19 Try.ntmps19 rfl rfl fun w0 => ?_
  refine tr_sub [(0, p0.enc), (1, p1.enc)] ⟨rfl, rfl, trivial⟩ ?_
  refine tr_seq ?_
  refine tr_region ?_
  refine tr_p (y_assign rfl) rfl rfl ?_
  refine tr_nil ?_
  refine tr_thenN ?_
  refine tr_seq ?_
  refine tr_seq ?_
  refine tr_region ?_
  refine tr_p (y_move rfl) rfl rfl ?_
  refine tr_p (y_len (ts := #[]) Try.runUnderlying23 (o := p0.ptr) (n := p0.len) (cap := p0.cap) rfl) rfl rfl ?_
  refine tr_p (y_move rfl) rfl rfl ?_
  refine tr_p (y_len (ts := #[]) Try.runUnderlying23 (o := p1.ptr) (n := p1.len) (cap := p1.cap) rfl) rfl rfl ?_
  refine tr_p (y_neq rfl rfl) rfl rfl ?_
  refine tr_nil ?_
  refine tr_thenN ?_
  refine tr_cond rfl (fun g1 => ?_) (fun g1 => ?_)
  · replace H := H.1 g1
    refine tr_seq ?_
    refine tr_region ?_
    refine tr_p (y_assign rfl) rfl rfl ?_
    refine tr_nil ?_
    refine tr_thenN ?_
    refine tr_ret ?_
    refine tr_thenR ?_
    exact tr_ret1 rfl rfl ⟨_, rfl, H⟩
  · replace H := H.2 g1
    refine tr_skip ?_
    refine tr_thenN ?_
    refine tr_seq ?_
    refine tr_seq ?_
    refine tr_region ?_
    refine tr_p (y_assign rfl) rfl rfl ?_
    refine tr_nil ?_
    refine tr_thenN ?_
    refine tr_block ?_
    obtain ⟨m12, H⟩ := H
    refine tr_sub [(0, p0.enc), (1, p1.enc), (5, (.int .i64 0))] ⟨rfl, rfl, rfl, trivial⟩ ?_
    refine tr_loop_j (fun m L' h => ∃ (x0 : Sl) (x1 : Sl) (x5 : Int), L' = [(0, x0.enc), (1, x1.enc), (5, (.int .i64 x5))] ∧ F.spatelaw8_same.l1 Q m x0 x1 x5 h) ?_ ?_ m12 ⟨_, _, _, rfl, H⟩
    · rintro L' h ⟨_, _, _, _, H⟩; exact H
    · rintro q1 L' h ⟨x0, x1, x5, rfl, H⟩
      unfold F.spatelaw8_same.l1 at H
      refine tr_seq ?_
      refine tr_seq ?_
      refine tr_region ?_
      refine tr_p (y_move rfl) rfl rfl ?_
      refine tr_p (y_move rfl) rfl rfl ?_
      refine tr_p (y_len (ts := #[]) Try.runUnderlying23 (o := x0.ptr) (n := x0.len) (cap := x0.cap) rfl) rfl rfl ?_
      refine tr_p (y_lss rfl rfl) rfl rfl ?_
      refine tr_nil ?_
      refine tr_thenN ?_
      refine tr_cond rfl (fun g2 => ?_) (fun g2 => ?_)
      · replace H := H.1 g2
        refine tr_skip ?_
        refine tr_thenN ?_
        refine tr_seq ?_
        refine tr_block ?_
        refine tr_seq ?_
        refine tr_draw mixed [0, 0, 3, 7, 0, 0, 48, 112, 255] (by kernel_rfl) ?_
        refine g_p 0 1 rfl (by kernel_rfl) (y_move rfl) rfl rfl ?_
        refine g_p 1 3 rfl (by kernel_rfl) (y_move rfl) rfl rfl ?_
        obtain ⟨a3, e4, H⟩ := H
        refine g_p 2 7 rfl (by kernel_rfl) (f_idx (s := x0) Try.runUnderlying23 Try.sizeOf3 rfl rfl e4) rfl rfl ?_
        obtain ⟨y5, k6, H⟩ := H
        refine g_h 3 15 rfl (by kernel_rfl) (y_ld Try.isAgg3 rfl) k6 rfl rfl ?_
        refine g_p 4 31 rfl (by kernel_rfl) (y_move rfl) rfl rfl ?_
        refine g_p 5 63 rfl (by kernel_rfl) (y_move rfl) rfl rfl ?_
        obtain ⟨a7, e8, H⟩ := H
        refine g_p 6 127 rfl (by kernel_rfl) (f_idx (s := x1) Try.runUnderlying23 Try.sizeOf3 rfl rfl e8) rfl rfl ?_
        obtain ⟨y9, k10, H⟩ := H
        refine g_h 7 255 rfl (by kernel_rfl) (y_ld Try.isAgg3 rfl) k10 rfl rfl ?_
        refine g_p 8 511 rfl (by kernel_rfl) (y_neq rfl rfl) rfl rfl ?_
        refine g_d (by kernel_rfl) ?_
        refine tr_thenN ?_
        refine tr_cond rfl (fun g11 => ?_) (fun g11 => ?_)
        · replace H := H.1 g11
          refine tr_seq ?_
          refine tr_region ?_
          refine tr_p (y_assign rfl) rfl rfl ?_
          refine tr_nil ?_
          refine tr_thenN ?_
          refine tr_ret ?_
          refine tr_blockR ?_
          refine tr_thenR ?_
          refine tr_thenR ?_
          refine tr_blockR ?_
          refine tr_thenR ?_
          exact tr_ret1 rfl rfl ⟨_, rfl, H⟩
        · replace H := H.2 g11
          refine tr_skip ?_
          refine tr_blockN ?_
          refine tr_thenN ?_
          refine tr_region ?_
          refine tr_p (y_move rfl) rfl rfl ?_
          refine tr_p (y_add rfl rfl) rfl rfl ?_
          refine tr_p (y_assign rfl) rfl rfl ?_
          refine tr_nil ?_
          refine tr_thenN ?_
          exact tr_join [(0, x0.enc), (1, x1.enc), (5, (.int .i64 (IntKind.wrap .i64 (x5 + 1))))] ⟨rfl, rfl, rfl, trivial⟩ ⟨_, _, _, rfl, H⟩
      · replace H := H.2 g2
        refine tr_exit ?_
        refine tr_thenE ?_
        refine tr_thenE ?_
        refine tr_hit ?_
        refine tr_thenN ?_
        refine tr_seq ?_
        refine tr_region ?_
        refine tr_p (y_assign rfl) rfl rfl ?_
        refine tr_nil ?_
        refine tr_thenN ?_
        refine tr_ret ?_
        exact tr_ret1 rfl rfl ⟨_, rfl, H⟩
end Go.Proofs.Ytidpbnbjpglhfaa.V
namespace Go.Proofs.Ytidpbnbjpglhfaa.V
open Go
set_option linter.unusedVariables false
set_option maxRecDepth 100000
/-- cmp.isNaN[int] -/
def F.cmp_isNaN_int (p0 : Int) (h : H) (Q : Bool → H → Prop) : Prop :=
  Q ((p0 != p0)) h
theorem F.cmp_isNaN_int_ok {p0 : Int} {h : H} {Q : Bool → H → Prop} (H : F.cmp_isNaN_int p0 h Q) : Fn PP 51 ([(.int .i64 p0)] : List Value).toArray h fun r h' => ∃ r0, r = (.bool r0) ∧ Q r0 h' := by
  unfold F.cmp_isNaN_int at H
  refine fn_of Try.func51 Try.ntmps51 rfl rfl fun w0 => ?_
  refine tr_sub [(0, (.int .i64 p0))] ⟨rfl, trivial⟩ ?_
  refine tr_seq ?_
  refine tr_region ?_
  refine tr_p (y_assign rfl) rfl rfl ?_
  refine tr_nil ?_
  refine tr_thenN ?_
  refine tr_seq ?_
  refine tr_region ?_
  refine tr_p (y_move rfl) rfl rfl ?_
  refine tr_p (y_move rfl) rfl rfl ?_
  refine tr_p (y_neq rfl rfl) rfl rfl ?_
  refine tr_p (y_assign rfl) rfl rfl ?_
  refine tr_nil ?_
  refine tr_thenN ?_
  refine tr_ret ?_
  exact tr_ret1 rfl rfl ⟨_, rfl, H⟩
/-- cmp.Compare[int] -/
def F.cmp_Compare_int (p0 : Int) (p1 : Int) (h : H) (Q : Int → H → Prop) : Prop :=
  F.cmp_isNaN_int p0 h fun r2 h1 =>
  F.cmp_isNaN_int p1 h1 fun r4 h3 =>
  (r2 = true →
  (r4 = true →
  Q 0 h3) ∧
  (r4 = false →
  Q (-1) h3)) ∧
  (r2 = false →
  (r4 = true →
  Q 1 h3) ∧
  (r4 = false →
  ((decide (p0 < p1)) = true →
  Q (-1) h3) ∧
  ((decide (p0 < p1)) = false →
  ((decide (p0 > p1)) = true →
  Q 1 h3) ∧
  ((decide (p0 > p1)) = false →
  Q 0 h3))))
theorem F.cmp_Compare_int_ok {p0 : Int} {p1 : Int} {h : H} {Q : Int → H → Prop} (H : F.cmp_Compare_int p0 p1 h Q) : Fn PP 43 ([(.int .i64 p0), (.int .i64 p1)] : List Value).toArray h fun r h' => ∃ r0, r = (.int .i64 r0) ∧ Q r0 h' := by
  unfold F.cmp_Compare_int at H
  refine fn_of Try.func43 Try.ntmps43 rfl rfl fun w0 => ?_
  refine tr_sub [(0, (.int .i64 p0)), (1, (.int .i64 p1))] ⟨rfl, rfl, trivial⟩ ?_
  refine tr_seq ?_
  refine tr_region ?_
  refine tr_p (y_assign rfl) rfl rfl ?_
  refine tr_nil ?_
  refine tr_thenN ?_
  refine tr_seq ?_
  refine tr_region ?_
  refine tr_p (y_move rfl) rfl rfl ?_
  refine tr_e (e_call Try.call51 rfl (F.cmp_isNaN_int_ok H)) rfl rfl ?_
  rintro _ h1 ⟨r2, rfl, H⟩
  refine tr_p (y_assign rfl) rfl rfl ?_
  refine tr_nil ?_
  refine tr_thenN ?_
  refine tr_seq ?_
  refine tr_region ?_
  refine tr_p (y_move rfl) rfl rfl ?_
  refine tr_e (e_call Try.call51 rfl (F.cmp_isNaN_int_ok H)) rfl rfl ?_
  rintro _ h3 ⟨r4, rfl, H⟩
  refine tr_p (y_assign rfl) rfl rfl ?_
  refine tr_nil ?_
  refine tr_thenN ?_
  refine tr_seq ?_
  refine tr_seq ?_
  refine tr_region ?_
  refine tr_p (y_move rfl) rfl rfl ?_
  refine tr_nil ?_
  refine tr_thenN ?_
  refine tr_cond rfl (fun g5 => ?_) (fun g5 => ?_)
  · replace H := H.1 g5
    refine tr_seq ?_
    refine tr_seq ?_
    refine tr_region ?_
    refine tr_p (y_move rfl) rfl rfl ?_
    refine tr_nil ?_
    refine tr_thenN ?_
    refine tr_cond rfl (fun g6 => ?_) (fun g6 => ?_)
    · replace H := H.1 g6
      refine tr_seq ?_
      refine tr_region ?_
      refine tr_p (y_assign rfl) rfl rfl ?_
      refine tr_nil ?_
      refine tr_thenN ?_
      refine tr_ret ?_
      refine tr_thenR ?_
      refine tr_thenR ?_
      exact tr_ret1 rfl rfl ⟨_, rfl, H⟩
    · replace H := H.2 g6
      refine tr_skip ?_
      refine tr_thenN ?_
      refine tr_seq ?_
      refine tr_region ?_
      refine tr_p (y_assign rfl) rfl rfl ?_
      refine tr_nil ?_
      refine tr_thenN ?_
      refine tr_ret ?_
      refine tr_thenR ?_
      exact tr_ret1 rfl rfl ⟨_, rfl, H⟩
  · replace H := H.2 g5
    refine tr_skip ?_
    refine tr_thenN ?_
    refine tr_seq ?_
    refine tr_seq ?_
    refine tr_region ?_
    refine tr_p (y_move rfl) rfl rfl ?_
    refine tr_nil ?_
    refine tr_thenN ?_
    refine tr_cond rfl (fun g7 => ?_) (fun g7 => ?_)
    · replace H := H.1 g7
      refine tr_seq ?_
      refine tr_region ?_
      refine tr_p (y_assign rfl) rfl rfl ?_
      refine tr_nil ?_
      refine tr_thenN ?_
      refine tr_ret ?_
      refine tr_thenR ?_
      exact tr_ret1 rfl rfl ⟨_, rfl, H⟩
    · replace H := H.2 g7
      refine tr_skip ?_
      refine tr_thenN ?_
      refine tr_seq ?_
      refine tr_seq ?_
      refine tr_region ?_
      refine tr_p (y_move rfl) rfl rfl ?_
      refine tr_p (y_move rfl) rfl rfl ?_
      refine tr_p (y_lss rfl rfl) rfl rfl ?_
      refine tr_nil ?_
      refine tr_thenN ?_
      refine tr_cond rfl (fun g8 => ?_) (fun g8 => ?_)
      · replace H := H.1 g8
        refine tr_seq ?_
        refine tr_region ?_
        refine tr_p (y_assign rfl) rfl rfl ?_
        refine tr_nil ?_
        refine tr_thenN ?_
        refine tr_ret ?_
        refine tr_thenR ?_
        exact tr_ret1 rfl rfl ⟨_, rfl, H⟩
      · replace H := H.2 g8
        refine tr_skip ?_
        refine tr_thenN ?_
        refine tr_seq ?_
        refine tr_seq ?_
        refine tr_region ?_
        refine tr_p (y_move rfl) rfl rfl ?_
        refine tr_p (y_move rfl) rfl rfl ?_
        refine tr_p (y_gtr rfl rfl) rfl rfl ?_
        refine tr_nil ?_
        refine tr_thenN ?_
        refine tr_cond rfl (fun g9 => ?_) (fun g9 => ?_)
        · replace H := H.1 g9
          refine tr_seq ?_
          refine tr_region ?_
          refine tr_p (y_assign rfl) rfl rfl ?_
          refine tr_nil ?_
          refine tr_thenN ?_
          refine tr_ret ?_
          refine tr_thenR ?_
          exact tr_ret1 rfl rfl ⟨_, rfl, H⟩
        · replace H := H.2 g9
          refine tr_skip ?_
          refine tr_thenN ?_
          refine tr_seq ?_
          refine tr_region ?_
          refine tr_p (y_assign rfl) rfl rfl ?_
          refine tr_nil ?_
          refine tr_thenN ?_
          refine tr_ret ?_
          exact tr_ret1 rfl rfl ⟨_, rfl, H⟩
/-- internal/bytealg.CompareString -/
def F.internal_bytealg_CompareString (p0 : ByteArray) (p1 : ByteArray) (h : H) (Q : Int → H → Prop) : Prop :=
  Q (cmpM p0 p1) h
theorem F.internal_bytealg_CompareString_ok {p0 : ByteArray} {p1 : ByteArray} {h : H} {Q : Int → H → Prop} (H : F.internal_bytealg_CompareString p0 p1 h Q) : Fn PP 52 ([(.string p0), (.string p1)] : List Value).toArray h fun r h' => ∃ r0, r = (.int .i64 r0) ∧ Q r0 h' := by
  unfold F.internal_bytealg_CompareString at H
  refine fn_of Try.func52 Try.ntmps52 rfl rfl fun w0 => ?_
  refine tr_sub [(0, (.string p0)), (1, (.string p1))] ⟨rfl, rfl, trivial⟩ ?_
  refine tr_seq ?_
  refine tr_region ?_
  refine tr_p (y_assign rfl) rfl rfl ?_
  refine tr_nil ?_
  refine tr_thenN ?_
  refine tr_seq ?_
  refine tr_region ?_
  refine tr_p (y_move rfl) rfl rfl ?_
  refine tr_p (y_move rfl) rfl rfl ?_
  refine tr_p (y_cmpS cmpS_56 rfl) rfl rfl ?_
  refine tr_p (y_assign rfl) rfl rfl ?_
  refine tr_nil ?_
  refine tr_thenN ?_
  refine tr_ret ?_
  exact tr_ret1 rfl rfl ⟨_, rfl, H⟩
/-- strings.Compare -/
def F.strings_Compare (p0 : ByteArray) (p1 : ByteArray) (h : H) (Q : Int → H → Prop) : Prop :=
  F.internal_bytealg_CompareString p0 p1 h fun r2 h1 =>
  Q r2 h1
theorem F.strings_Compare_ok {p0 : ByteArray} {p1 : ByteArray} {h : H} {Q : Int → H → Prop} (H : F.strings_Compare p0 p1 h Q) : Fn PP 44 ([(.string p0), (.string p1)] : List Value).toArray h fun r h' => ∃ r0, r = (.int .i64 r0) ∧ Q r0 h' := by
  unfold F.strings_Compare at H
  refine fn_of Try.func44 Try.ntmps44 rfl rfl fun w0 => ?_
  refine tr_sub [(0, (.string p0)), (1, (.string p1))] ⟨rfl, rfl, trivial⟩ ?_
  refine tr_seq ?_
  refine tr_region ?_
  refine tr_p (y_assign rfl) rfl rfl ?_
  refine tr_nil ?_
  refine tr_thenN ?_
  refine tr_seq ?_
  refine tr_region ?_
  refine tr_p (y_move rfl) rfl rfl ?_
  refine tr_p (y_move rfl) rfl rfl ?_
  refine tr_e (e_call Try.call52 rfl (F.internal_bytealg_CompareString_ok H)) rfl rfl ?_
  rintro _ h1 ⟨r2, rfl, H⟩
  refine tr_p (y_assign rfl) rfl rfl ?_
  refine tr_nil ?_
  refine tr_thenN ?_
  refine tr_ret ?_
  exact tr_ret1 rfl rfl ⟨_, rfl, H⟩
/-- cmp.isNaN[int64] -/
def F.cmp_isNaN_int64 (p0 : Int) (h : H) (Q : Bool → H → Prop) : Prop :=
  Q ((p0 != p0)) h
theorem F.cmp_isNaN_int64_ok {p0 : Int} {h : H} {Q : Bool → H → Prop} (H : F.cmp_isNaN_int64 p0 h Q) : Fn PP 53 ([(.int .i64 p0)] : List Value).toArray h fun r h' => ∃ r0, r = (.bool r0) ∧ Q r0 h' := by
  unfold F.cmp_isNaN_int64 at H
  refine fn_of Try.func53 Try.ntmps53 rfl rfl fun w0 => ?_
  refine tr_sub [(0, (.int .i64 p0))] ⟨rfl, trivial⟩ ?_
  refine tr_seq ?_
  refine tr_region ?_
  refine tr_p (y_assign rfl) rfl rfl ?_
  refine tr_nil ?_
  refine tr_thenN ?_
  refine tr_seq ?_
  refine tr_region ?_
  refine tr_p (y_move rfl) rfl rfl ?_
  refine tr_p (y_move rfl) rfl rfl ?_
  refine tr_p (y_neq rfl rfl) rfl rfl ?_
  refine tr_p (y_assign rfl) rfl rfl ?_
  refine tr_nil ?_
  refine tr_thenN ?_
  refine tr_ret ?_
  exact tr_ret1 rfl rfl ⟨_, rfl, H⟩
/-- cmp.Compare[int64] -/
def F.cmp_Compare_int64 (p0 : Int) (p1 : Int) (h : H) (Q : Int → H → Prop) : Prop :=
  F.cmp_isNaN_int64 p0 h fun r2 h1 =>
  F.cmp_isNaN_int64 p1 h1 fun r4 h3 =>
  (r2 = true →
  (r4 = true →
  Q 0 h3) ∧
  (r4 = false →
  Q (-1) h3)) ∧
  (r2 = false →
  (r4 = true →
  Q 1 h3) ∧
  (r4 = false →
  ((decide (p0 < p1)) = true →
  Q (-1) h3) ∧
  ((decide (p0 < p1)) = false →
  ((decide (p0 > p1)) = true →
  Q 1 h3) ∧
  ((decide (p0 > p1)) = false →
  Q 0 h3))))
theorem F.cmp_Compare_int64_ok {p0 : Int} {p1 : Int} {h : H} {Q : Int → H → Prop} (H : F.cmp_Compare_int64 p0 p1 h Q) : Fn PP 45 ([(.int .i64 p0), (.int .i64 p1)] : List Value).toArray h fun r h' => ∃ r0, r = (.int .i64 r0) ∧ Q r0 h' := by
  unfold F.cmp_Compare_int64 at H
  refine fn_of Try.func45 Try.ntmps45 rfl rfl fun w0 => ?_
  refine tr_sub [(0, (.int .i64 p0)), (1, (.int .i64 p1))] ⟨rfl, rfl, trivial⟩ ?_
  refine tr_seq ?_
  refine tr_region ?_
  refine tr_p (y_assign rfl) rfl rfl ?_
  refine tr_nil ?_
  refine tr_thenN ?_
  refine tr_seq ?_
  refine tr_region ?_
  refine tr_p (y_move rfl) rfl rfl ?_
  refine tr_e (e_call Try.call53 rfl (F.cmp_isNaN_int64_ok H)) rfl rfl ?_
  rintro _ h1 ⟨r2, rfl, H⟩
  refine tr_p (y_assign rfl) rfl rfl ?_
  refine tr_nil ?_
  refine tr_thenN ?_
  refine tr_seq ?_
  refine tr_region ?_
  refine tr_p (y_move rfl) rfl rfl ?_
  refine tr_e (e_call Try.call53 rfl (F.cmp_isNaN_int64_ok H)) rfl rfl ?_
  rintro _ h3 ⟨r4, rfl, H⟩
  refine tr_p (y_assign rfl) rfl rfl ?_
  refine tr_nil ?_
  refine tr_thenN ?_
  refine tr_seq ?_
  refine tr_seq ?_
  refine tr_region ?_
  refine tr_p (y_move rfl) rfl rfl ?_
  refine tr_nil ?_
  refine tr_thenN ?_
  refine tr_cond rfl (fun g5 => ?_) (fun g5 => ?_)
  · replace H := H.1 g5
    refine tr_seq ?_
    refine tr_seq ?_
    refine tr_region ?_
    refine tr_p (y_move rfl) rfl rfl ?_
    refine tr_nil ?_
    refine tr_thenN ?_
    refine tr_cond rfl (fun g6 => ?_) (fun g6 => ?_)
    · replace H := H.1 g6
      refine tr_seq ?_
      refine tr_region ?_
      refine tr_p (y_assign rfl) rfl rfl ?_
      refine tr_nil ?_
      refine tr_thenN ?_
      refine tr_ret ?_
      refine tr_thenR ?_
      refine tr_thenR ?_
      exact tr_ret1 rfl rfl ⟨_, rfl, H⟩
    · replace H := H.2 g6
      refine tr_skip ?_
      refine tr_thenN ?_
      refine tr_seq ?_
      refine tr_region ?_
      refine tr_p (y_assign rfl) rfl rfl ?_
      refine tr_nil ?_
      refine tr_thenN ?_
      refine tr_ret ?_
      refine tr_thenR ?_
      exact tr_ret1 rfl rfl ⟨_, rfl, H⟩
  · replace H := H.2 g5
    refine tr_skip ?_
    refine tr_thenN ?_
    refine tr_seq ?_
    refine tr_seq ?_
    refine tr_region ?_
    refine tr_p (y_move rfl) rfl rfl ?_
    refine tr_nil ?_
    refine tr_thenN ?_
    refine tr_cond rfl (fun g7 => ?_) (fun g7 => ?_)
    · replace H := H.1 g7
      refine tr_seq ?_
      refine tr_region ?_
      refine tr_p (y_assign rfl) rfl rfl ?_
      refine tr_nil ?_
      refine tr_thenN ?_
      refine tr_ret ?_
      refine tr_thenR ?_
      exact tr_ret1 rfl rfl ⟨_, rfl, H⟩
    · replace H := H.2 g7
      refine tr_skip ?_
      refine tr_thenN ?_
      refine tr_seq ?_
      refine tr_seq ?_
      refine tr_region ?_
      refine tr_p (y_move rfl) rfl rfl ?_
      refine tr_p (y_move rfl) rfl rfl ?_
      refine tr_p (y_lss rfl rfl) rfl rfl ?_
      refine tr_nil ?_
      refine tr_thenN ?_
      refine tr_cond rfl (fun g8 => ?_) (fun g8 => ?_)
      · replace H := H.1 g8
        refine tr_seq ?_
        refine tr_region ?_
        refine tr_p (y_assign rfl) rfl rfl ?_
        refine tr_nil ?_
        refine tr_thenN ?_
        refine tr_ret ?_
        refine tr_thenR ?_
        exact tr_ret1 rfl rfl ⟨_, rfl, H⟩
      · replace H := H.2 g8
        refine tr_skip ?_
        refine tr_thenN ?_
        refine tr_seq ?_
        refine tr_seq ?_
        refine tr_region ?_
        refine tr_p (y_move rfl) rfl rfl ?_
        refine tr_p (y_move rfl) rfl rfl ?_
        refine tr_p (y_gtr rfl rfl) rfl rfl ?_
        refine tr_nil ?_
        refine tr_thenN ?_
        refine tr_cond rfl (fun g9 => ?_) (fun g9 => ?_)
        · replace H := H.1 g9
          refine tr_seq ?_
          refine tr_region ?_
          refine tr_p (y_assign rfl) rfl rfl ?_
          refine tr_nil ?_
          refine tr_thenN ?_
          refine tr_ret ?_
          refine tr_thenR ?_
          exact tr_ret1 rfl rfl ⟨_, rfl, H⟩
        · replace H := H.2 g9
          refine tr_skip ?_
          refine tr_thenN ?_
          refine tr_seq ?_
          refine tr_region ?_
          refine tr_p (y_assign rfl) rfl rfl ?_
          refine tr_nil ?_
          refine tr_thenN ?_
          refine tr_ret ?_
          exact tr_ret1 rfl rfl ⟨_, rfl, H⟩
def F.cmp_Or_int.l1 (Q : Int → H → Prop) : Nat → Int → Sl → Int → Int → H → Prop
  | 0, _, _, _, _, _ => False
  | q1 + 1, x3, x6, x7, x8, h =>
    ((decide (x8 < x7)) = true →
    idxA x6 x8 1 fun a2 =>
    ldI .i64 h a2 fun y4 =>
    (((y4 != x3)) = true →
    Q y4 h) ∧
    (((y4 != x3)) = false →
    (F.cmp_Or_int.l1 Q q1) x3 x6 x7 (IntKind.wrap .i64 (x8 + 1)) h)) ∧
    ((decide (x8 < x7)) = false →
    Q x3 h)
/-- cmp.Or[int] -/
def F.cmp_Or_int (p0 : Sl) (h : H) (Q : Int → H → Prop) : Prop :=
  ∃ m, F.cmp_Or_int.l1 Q m 0 p0 (p0.len : Int) 0 h
theorem F.cmp_Or_int_ok {p0 : Sl} {h : H} {Q : Int → H → Prop} (H : F.cmp_Or_int p0 h Q) : Fn PP 42 ([p0.enc] : List Value).toArray h fun r h' => ∃ r0, r = (.int .i64 r0) ∧ Q r0 h' := by
  unfold F.cmp_Or_int at H
  refine fn_of Try.func42 Try.ntmps42 rfl rfl fun w0 => ?_
  refine tr_sub [(0, p0.enc)] ⟨rfl, trivial⟩ ?_
  refine tr_seq ?_
  refine tr_region ?_
  refine tr_p (y_assign rfl) rfl rfl ?_
  refine tr_nil ?_
  refine tr_thenN ?_
  refine tr_seq ?_
  refine tr_region ?_
  refine tr_p (y_assign rfl) rfl rfl ?_
  refine tr_nil ?_
  refine tr_thenN ?_
  refine tr_seq ?_
  refine tr_seq ?_
  refine tr_region ?_
  refine tr_p (y_move rfl) rfl rfl ?_
  refine tr_p (y_len (ts := #[]) Try.runUnderlying23 (o := p0.ptr) (n := p0.len) (cap := p0.cap) rfl) rfl rfl ?_
  refine tr_p (y_move rfl) rfl rfl ?_
  refine tr_nil ?_
  refine tr_thenN ?_
  refine tr_block ?_
  obtain ⟨m7, H⟩ := H
  refine tr_sub [(3, (.int .i64 0)), (6, p0.enc), (7, (.int .i64 (p0.len : Int))), (8, (.int .i64 0))] ⟨rfl, rfl, rfl, rfl, trivial⟩ ?_
  refine tr_loop_j (fun m L' h => ∃ (x3 : Int) (x6 : Sl) (x7 : Int) (x8 : Int), L' = [(3, (.int .i64 x3)), (6, x6.enc), (7, (.int .i64 x7)), (8, (.int .i64 x8))] ∧ F.cmp_Or_int.l1 Q m x3 x6 x7 x8 h) ?_ ?_ m7 ⟨_, _, _, _, rfl, H⟩
  · rintro L' h ⟨_, _, _, _, _, H⟩; exact H
  · rintro q1 L' h ⟨x3, x6, x7, x8, rfl, H⟩
    unfold F.cmp_Or_int.l1 at H
    refine tr_seq ?_
    refine tr_region ?_
    refine tr_p (y_lss rfl rfl) rfl rfl ?_
    refine tr_nil ?_
    refine tr_thenN ?_
    refine tr_seq ?_
    refine tr_cond rfl (fun g1 => ?_) (fun g1 => ?_)
    · replace H := H.1 g1
      refine tr_skip ?_
      refine tr_thenN ?_
      refine tr_seq ?_
      refine tr_block ?_
      refine tr_seq ?_
      refine tr_region ?_
      obtain ⟨a2, e3, H⟩ := H
      refine tr_p (f_idx (s := x6) Try.runUnderlying23 Try.sizeOf3 rfl rfl e3) rfl rfl ?_
      obtain ⟨y4, k5, H⟩ := H
      refine tr_h (y_ld Try.isAgg3 rfl) k5 rfl rfl ?_
      refine tr_p (y_assign rfl) rfl rfl ?_
      refine tr_nil ?_
      refine tr_thenN ?_
      refine tr_seq ?_
      refine tr_region ?_
      refine tr_p (y_move rfl) rfl rfl ?_
      refine tr_p (y_move rfl) rfl rfl ?_
      refine tr_p (y_neq rfl rfl) rfl rfl ?_
      refine tr_nil ?_
      refine tr_thenN ?_
      refine tr_cond rfl (fun g6 => ?_) (fun g6 => ?_)
      · replace H := H.1 g6
        refine tr_seq ?_
        refine tr_region ?_
        refine tr_p (y_move rfl) rfl rfl ?_
        refine tr_p (y_assign rfl) rfl rfl ?_
        refine tr_nil ?_
        refine tr_thenN ?_
        refine tr_ret ?_
        refine tr_blockR ?_
        refine tr_thenR ?_
        refine tr_thenR ?_
        refine tr_blockR ?_
        refine tr_thenR ?_
        exact tr_ret1 rfl rfl ⟨_, rfl, H⟩
      · replace H := H.2 g6
        refine tr_skip ?_
        refine tr_blockN ?_
        refine tr_thenN ?_
        refine tr_region ?_
        refine tr_p (y_add rfl rfl) rfl rfl ?_
        refine tr_p (y_move rfl) rfl rfl ?_
        refine tr_nil ?_
        refine tr_thenN ?_
        exact tr_join [(3, (.int .i64 x3)), (6, x6.enc), (7, (.int .i64 x7)), (8, (.int .i64 (IntKind.wrap .i64 (x8 + 1))))] ⟨rfl, rfl, rfl, rfl, trivial⟩ ⟨_, _, _, _, rfl, H⟩
    · replace H := H.2 g1
      refine tr_exit ?_
      refine tr_thenE ?_
      refine tr_thenE ?_
      refine tr_hit ?_
      refine tr_thenN ?_
      refine tr_seq ?_
      refine tr_region ?_
      refine tr_p (y_move rfl) rfl rfl ?_
      refine tr_p (y_assign rfl) rfl rfl ?_
      refine tr_nil ?_
      refine tr_thenN ?_
      refine tr_ret ?_
      exact tr_ret1 rfl rfl ⟨_, rfl, H⟩
/-- spate/merge.Compare -/
def F.merge_Compare (p0 : S_api_Cell) (p1 : S_api_Cell) (h : H) (Q : Int → H → Prop) : Prop :=
  new h p0.cells.toArray ty_34 fun a2 h1 =>
  new h1 p1.cells.toArray ty_34 fun a4 h3 =>
  ldI .i64 h3 (a2.add 0) fun y5 =>
  ldI .i64 h3 (a4.add 0) fun y7 =>
  ldS h3 (a2.add 1) fun y9 =>
  ldS h3 (a4.add 1) fun y11 =>
  ldI .i64 h3 (a2.add 2) fun y13 =>
  ldI .i64 h3 (a4.add 2) fun y15 =>
  F.cmp_Compare_int y5 y7 h3 fun r18 h17 =>
  cellH h17 (a4.add 2) = some (.int .i64 y15) ∧
  cellH h17 (a2.add 2) = some (.int .i64 y13) ∧
  cellH h17 (a4.add 1) = some (.string y11) ∧
  cellH h17 (a2.add 1) = some (.string y9) ∧
  F.strings_Compare y9 y11 h17 fun r24 h23 =>
  cellH h23 (a4.add 2) = some (.int .i64 y15) ∧
  cellH h23 (a2.add 2) = some (.int .i64 y13) ∧
  F.cmp_Compare_int64 y13 y15 h23 fun r28 h27 =>
  newL h27 #[(.int .i64 r18), (.int .i64 r24), (.int .i64 r28)] ty_3 3 fun s30 h29 =>
  F.cmp_Or_int s30 h29 fun r32 h31 =>
  Q r32 h31
theorem F.merge_Compare_ok {p0 : S_api_Cell} {p1 : S_api_Cell} {h : H} {Q : Int → H → Prop} (H : F.merge_Compare p0 p1 h Q) : Fn PP 26 ([(.agg p0.cells.toArray), (.agg p1.cells.toArray)] : List Value).toArray h fun r h' => ∃ r0, r = (.int .i64 r0) ∧ Q r0 h' := by
  unfold F.merge_Compare at H
  refine fn_of Try.func26 Try.ntmps26 rfl rfl fun w0 => ?_
  refine tr_sub [(0, (.agg p0.cells.toArray)), (1, (.agg p1.cells.toArray))] ⟨rfl, rfl, trivial⟩ ?_
  refine tr_seq ?_
  refine tr_region ?_
  refine tr_e (f_box (cs := p0.cells.toArray) rfl rfl H) rfl rfl ?_
  rintro _ h1 ⟨a2, rfl, H⟩
  refine tr_e (f_box (cs := p1.cells.toArray) rfl rfl H) rfl rfl ?_
  rintro _ h3 ⟨a4, rfl, H⟩
  refine tr_p (y_assign rfl) rfl rfl ?_
  refine tr_nil ?_
  refine tr_thenN ?_
  refine tr_seq ?_
  refine tr_draw mixed [0, 1, 0, 4, 15, 0, 32, 0, 128, 511, 0, 1024, 0, 4096, 16383, 32767, 65535, 131071] (by kernel_rfl) ?_
  refine g_p 0 1 rfl (by kernel_rfl) (y_fa (off := 0) Try.runUnderlying34 fo_34_0 rfl) rfl rfl ?_
  obtain ⟨y5, k6, H⟩ := H
  refine g_h 1 3 rfl (by kernel_rfl) (y_ld Try.isAgg3 rfl) k6 rfl rfl ?_
  refine g_p 2 7 rfl (by kernel_rfl) (y_fa (off := 0) Try.runUnderlying34 fo_34_0 rfl) rfl rfl ?_
  obtain ⟨y7, k8, H⟩ := H
  refine g_h 3 15 rfl (by kernel_rfl) (y_ld Try.isAgg3 rfl) k8 rfl rfl ?_
  refine g_p 5 47 rfl (by kernel_rfl) (y_fa (off := 1) Try.runUnderlying34 fo_34_1 rfl) rfl rfl ?_
  obtain ⟨y9, k10, H⟩ := H
  refine g_h 6 111 rfl (by kernel_rfl) (y_ld Try.isAgg9 rfl) k10 rfl rfl ?_
  refine g_p 7 239 rfl (by kernel_rfl) (y_fa (off := 1) Try.runUnderlying34 fo_34_1 rfl) rfl rfl ?_
  obtain ⟨y11, k12, H⟩ := H
  refine g_h 8 495 rfl (by kernel_rfl) (y_ld Try.isAgg9 rfl) k12 rfl rfl ?_
  refine g_p 10 1519 rfl (by kernel_rfl) (y_fa (off := 2) Try.runUnderlying34 fo_34_2 rfl) rfl rfl ?_
  obtain ⟨y13, k14, H⟩ := H
  refine g_h 11 3567 rfl (by kernel_rfl) (y_ld Try.isAgg2 rfl) k14 rfl rfl ?_
  refine g_p 12 7663 rfl (by kernel_rfl) (y_fa (off := 2) Try.runUnderlying34 fo_34_2 rfl) rfl rfl ?_
  obtain ⟨y15, k16, H⟩ := H
  refine g_h 13 15855 rfl (by kernel_rfl) (y_ld Try.isAgg2 rfl) k16 rfl rfl ?_
  refine g_e 4 15871 [(13, fun h => cellH h (a4.add 2) = some (.int .i64 y15)), (11, fun h => cellH h (a2.add 2) = some (.int .i64 y13)), (8, fun h => cellH h (a4.add 1) = some (.string y11)), (6, fun h => cellH h (a2.add 1) = some (.string y9))] (by kernel_rfl) rfl (by kernel_rfl) (e_call Try.call43 rfl (F.cmp_Compare_int_ok H)) rfl rfl ?_
  rintro _ h17 ⟨r18, rfl, H⟩
  obtain ⟨k19, k20, k21, k22, H⟩ := H
  refine ⟨And.intro k19 (And.intro k20 (And.intro k21 (And.intro k22 trivial))), ?_⟩
  refine g_e 9 16383 [(13, fun h => cellH h (a4.add 2) = some (.int .i64 y15)), (11, fun h => cellH h (a2.add 2) = some (.int .i64 y13))] (by kernel_rfl) rfl (by kernel_rfl) (e_call Try.call44 rfl (F.strings_Compare_ok H)) rfl rfl ?_
  rintro _ h23 ⟨r24, rfl, H⟩
  obtain ⟨k25, k26, H⟩ := H
  refine ⟨And.intro k25 (And.intro k26 trivial), ?_⟩
  refine g_e 14 32767 [] (by kernel_rfl) rfl (by kernel_rfl) (e_call Try.call45 rfl (F.cmp_Compare_int64_ok H)) rfl rfl ?_
  rintro _ h27 ⟨r28, rfl, H⟩
  refine ⟨trivial, ?_⟩
  refine g_e 15 65535 [] (by kernel_rfl) rfl (by kernel_rfl) (f_buildL (cs := #[(.int .i64 r18), (.int .i64 r24), (.int .i64 r28)]) rfl rfl (bl_23_3_0_1_2 r18 r24 r28) H) rfl rfl ?_
  rintro _ h29 ⟨s30, rfl, H⟩
  refine ⟨trivial, ?_⟩
  refine g_e 16 131071 [] (by kernel_rfl) rfl (by kernel_rfl) (e_call Try.call42 rfl (F.cmp_Or_int_ok H)) rfl rfl ?_
  rintro _ h31 ⟨r32, rfl, H⟩
  refine ⟨trivial, ?_⟩
  refine g_p 17 262143 rfl (by kernel_rfl) (y_assign rfl) rfl rfl ?_
  refine g_d (by kernel_rfl) ?_
  refine tr_thenN ?_
  refine tr_ret ?_
  exact tr_ret1 rfl rfl ⟨_, rfl, H⟩
/-- spate/spateref8.sign -/
def F.spateref8_sign (p0 : Bool) (h : H) (Q : Int → H → Prop) : Prop :=
  (p0 = true →
  Q (-1) h) ∧
  (p0 = false →
  Q 1 h)
theorem F.spateref8_sign_ok {p0 : Bool} {h : H} {Q : Int → H → Prop} (H : F.spateref8_sign p0 h Q) : Fn PP 46 ([(.bool p0)] : List Value).toArray h fun r h' => ∃ r0, r = (.int .i64 r0) ∧ Q r0 h' := by
  unfold F.spateref8_sign at H
  refine fn_of Try.func46 Try.ntmps46 rfl rfl fun w0 => ?_
  refine tr_sub [(0, (.bool p0))] ⟨rfl, trivial⟩ ?_
  refine tr_seq ?_
  refine tr_region ?_
  refine tr_p (y_assign rfl) rfl rfl ?_
  refine tr_nil ?_
  refine tr_thenN ?_
  refine tr_seq ?_
  refine tr_seq ?_
  refine tr_region ?_
  refine tr_p (y_move rfl) rfl rfl ?_
  refine tr_nil ?_
  refine tr_thenN ?_
  refine tr_cond rfl (fun g1 => ?_) (fun g1 => ?_)
  · replace H := H.1 g1
    refine tr_seq ?_
    refine tr_region ?_
    refine tr_p (y_assign rfl) rfl rfl ?_
    refine tr_nil ?_
    refine tr_thenN ?_
    refine tr_ret ?_
    refine tr_thenR ?_
    exact tr_ret1 rfl rfl ⟨_, rfl, H⟩
  · replace H := H.2 g1
    refine tr_skip ?_
    refine tr_thenN ?_
    refine tr_seq ?_
    refine tr_region ?_
    refine tr_p (y_assign rfl) rfl rfl ?_
    refine tr_nil ?_
    refine tr_thenN ?_
    refine tr_ret ?_
    exact tr_ret1 rfl rfl ⟨_, rfl, H⟩
/-- spate/spateref8.Compare -/
def F.spateref8_Compare (p0 : S_api_Cell) (p1 : S_api_Cell) (h : H) (Q : Int → H → Prop) : Prop :=
  new h p0.cells.toArray ty_34 fun a2 h1 =>
  new h1 p1.cells.toArray ty_34 fun a4 h3 =>
  ldI .i64 h3 (a2.add 0) fun y5 =>
  ldI .i64 h3 (a4.add 0) fun y7 =>
  (((y5 != y7)) = true →
  ldI .i64 h3 (a2.add 0) fun y10 =>
  ldI .i64 h3 (a4.add 0) fun y12 =>
  F.spateref8_sign (decide (y10 < y12)) h3 fun r15 h14 =>
  Q r15 h14) ∧
  (((y5 != y7)) = false →
  ldS h3 (a2.add 1) fun y16 =>
  ldS h3 (a4.add 1) fun y18 =>
  ((!(y16.toList == y18.toList)) = true →
  ldS h3 (a2.add 1) fun y21 =>
  ldS h3 (a4.add 1) fun y23 =>
  F.spateref8_sign (Op.bytesLess y21.toList y23.toList) h3 fun r26 h25 =>
  Q r26 h25) ∧
  ((!(y16.toList == y18.toList)) = false →
  ldI .i64 h3 (a2.add 2) fun y27 =>
  ldI .i64 h3 (a4.add 2) fun y29 =>
  (((y27 != y29)) = true →
  ldI .i64 h3 (a2.add 2) fun y32 =>
  ldI .i64 h3 (a4.add 2) fun y34 =>
  F.spateref8_sign (decide (y32 < y34)) h3 fun r37 h36 =>
  Q r37 h36) ∧
  (((y27 != y29)) = false →
  Q 0 h3)))
theorem F.spateref8_Compare_ok {p0 : S_api_Cell} {p1 : S_api_Cell} {h : H} {Q : Int → H → Prop} (H : F.spateref8_Compare p0 p1 h Q) : Fn PP 27 ([(.agg p0.cells.toArray), (.agg p1.cells.toArray)] : List Value).toArray h fun r h' => ∃ r0, r = (.int .i64 r0) ∧ Q r0 h' := by
  unfold F.spateref8_Compare at H
  refine fn_of Try.func27 Try.ntmps27 rfl rfl fun w0 => ?_
  refine tr_sub [(0, (.agg p0.cells.toArray)), (1, (.agg p1.cells.toArray))] ⟨rfl, rfl, trivial⟩ ?_
  refine tr_seq ?_
  refine tr_region ?_
  refine tr_e (f_box (cs := p0.cells.toArray) rfl rfl H) rfl rfl ?_
  rintro _ h1 ⟨a2, rfl, H⟩
  refine tr_e (f_box (cs := p1.cells.toArray) rfl rfl H) rfl rfl ?_
  rintro _ h3 ⟨a4, rfl, H⟩
  refine tr_p (y_assign rfl) rfl rfl ?_
  refine tr_nil ?_
  refine tr_thenN ?_
  refine tr_seq ?_
  refine tr_block ?_
  refine tr_seq ?_
  refine tr_region ?_
  refine tr_p (y_fa (off := 0) Try.runUnderlying34 fo_34_0 rfl) rfl rfl ?_
  obtain ⟨y5, k6, H⟩ := H
  refine tr_h (y_ld Try.isAgg3 rfl) k6 rfl rfl ?_
  refine tr_p (y_fa (off := 0) Try.runUnderlying34 fo_34_0 rfl) rfl rfl ?_
  obtain ⟨y7, k8, H⟩ := H
  refine tr_h (y_ld Try.isAgg3 rfl) k8 rfl rfl ?_
  refine tr_p (y_neq rfl rfl) rfl rfl ?_
  refine tr_p (y_assign rfl) rfl rfl ?_
  refine tr_nil ?_
  refine tr_thenN ?_
  refine tr_cond rfl (fun g9 => ?_) (fun g9 => ?_)
  · replace H := H.1 g9
    refine tr_seq ?_
    refine tr_region ?_
    refine tr_p (y_fa (off := 0) Try.runUnderlying34 fo_34_0 rfl) rfl rfl ?_
    obtain ⟨y10, k11, H⟩ := H
    refine tr_h (y_ld Try.isAgg3 rfl) k11 rfl rfl ?_
    refine tr_p (y_fa (off := 0) Try.runUnderlying34 fo_34_0 rfl) rfl rfl ?_
    obtain ⟨y12, k13, H⟩ := H
    refine tr_h (y_ld Try.isAgg3 rfl) k13 rfl rfl ?_
    refine tr_p (y_lss rfl rfl) rfl rfl ?_
    refine tr_e (e_call Try.call46 rfl (F.spateref8_sign_ok H)) rfl rfl ?_
    rintro _ h14 ⟨r15, rfl, H⟩
    refine tr_p (y_assign rfl) rfl rfl ?_
    refine tr_nil ?_
    refine tr_thenN ?_
    refine tr_ret ?_
    refine tr_blockR ?_
    refine tr_thenR ?_
    exact tr_ret1 rfl rfl ⟨_, rfl, H⟩
  · replace H := H.2 g9
    refine tr_seq ?_
    refine tr_region ?_
    refine tr_p (y_fa (off := 1) Try.runUnderlying34 fo_34_1 rfl) rfl rfl ?_
    obtain ⟨y16, k17, H⟩ := H
    refine tr_h (y_ld Try.isAgg9 rfl) k17 rfl rfl ?_
    refine tr_p (y_fa (off := 1) Try.runUnderlying34 fo_34_1 rfl) rfl rfl ?_
    obtain ⟨y18, k19, H⟩ := H
    refine tr_h (y_ld Try.isAgg9 rfl) k19 rfl rfl ?_
    refine tr_p (y_sneq rfl rfl) rfl rfl ?_
    refine tr_p (y_assign rfl) rfl rfl ?_
    refine tr_nil ?_
    refine tr_thenN ?_
    refine tr_cond rfl (fun g20 => ?_) (fun g20 => ?_)
    · replace H := H.1 g20
      refine tr_seq ?_
      refine tr_region ?_
      refine tr_p (y_fa (off := 1) Try.runUnderlying34 fo_34_1 rfl) rfl rfl ?_
      obtain ⟨y21, k22, H⟩ := H
      refine tr_h (y_ld Try.isAgg9 rfl) k22 rfl rfl ?_
      refine tr_p (y_fa (off := 1) Try.runUnderlying34 fo_34_1 rfl) rfl rfl ?_
      obtain ⟨y23, k24, H⟩ := H
      refine tr_h (y_ld Try.isAgg9 rfl) k24 rfl rfl ?_
      refine tr_p (y_slss rfl rfl) rfl rfl ?_
      refine tr_e (e_call Try.call46 rfl (F.spateref8_sign_ok H)) rfl rfl ?_
      rintro _ h25 ⟨r26, rfl, H⟩
      refine tr_p (y_assign rfl) rfl rfl ?_
      refine tr_nil ?_
      refine tr_thenN ?_
      refine tr_ret ?_
      refine tr_blockR ?_
      refine tr_thenR ?_
      exact tr_ret1 rfl rfl ⟨_, rfl, H⟩
    · replace H := H.2 g20
      refine tr_seq ?_
      refine tr_region ?_
      refine tr_p (y_fa (off := 2) Try.runUnderlying34 fo_34_2 rfl) rfl rfl ?_
      obtain ⟨y27, k28, H⟩ := H
      refine tr_h (y_ld Try.isAgg2 rfl) k28 rfl rfl ?_
      refine tr_p (y_fa (off := 2) Try.runUnderlying34 fo_34_2 rfl) rfl rfl ?_
      obtain ⟨y29, k30, H⟩ := H
      refine tr_h (y_ld Try.isAgg2 rfl) k30 rfl rfl ?_
      refine tr_p (y_neq rfl rfl) rfl rfl ?_
      refine tr_p (y_assign rfl) rfl rfl ?_
      refine tr_nil ?_
      refine tr_thenN ?_
      refine tr_cond rfl (fun g31 => ?_) (fun g31 => ?_)
      · replace H := H.1 g31
        refine tr_seq ?_
        refine tr_region ?_
        refine tr_p (y_fa (off := 2) Try.runUnderlying34 fo_34_2 rfl) rfl rfl ?_
        obtain ⟨y32, k33, H⟩ := H
        refine tr_h (y_ld Try.isAgg2 rfl) k33 rfl rfl ?_
        refine tr_p (y_fa (off := 2) Try.runUnderlying34 fo_34_2 rfl) rfl rfl ?_
        obtain ⟨y34, k35, H⟩ := H
        refine tr_h (y_ld Try.isAgg2 rfl) k35 rfl rfl ?_
        refine tr_p (y_lss rfl rfl) rfl rfl ?_
        refine tr_e (e_call Try.call46 rfl (F.spateref8_sign_ok H)) rfl rfl ?_
        rintro _ h36 ⟨r37, rfl, H⟩
        refine tr_p (y_assign rfl) rfl rfl ?_
        refine tr_nil ?_
        refine tr_thenN ?_
        refine tr_ret ?_
        refine tr_blockR ?_
        refine tr_thenR ?_
        exact tr_ret1 rfl rfl ⟨_, rfl, H⟩
      · replace H := H.2 g31
        refine tr_skip ?_
        refine tr_blockN ?_
        refine tr_thenN ?_
        refine tr_seq ?_
        refine tr_region ?_
        refine tr_p (y_assign rfl) rfl rfl ?_
        refine tr_nil ?_
        refine tr_thenN ?_
        refine tr_ret ?_
        exact tr_ret1 rfl rfl ⟨_, rfl, H⟩
def F.spatelaw8_ordered.j3 (Q : Sl → H → Prop) (C1 : Sl → Sl → Int → H → Prop) (x0 : Sl) (x3 : Sl) (x4 : Int) (h : H) : Prop :=
  C1 x0 x3 (IntKind.wrap .i64 (x4 + 1)) h
def F.spatelaw8_ordered.j5 (Q : Sl → H → Prop) (C1 : Sl → Sl → Int → H → Prop) (C2 : Sl → Sl → Int → Int → H → Prop) (x0 : Sl) (x3 : Sl) (x4 : Int) (x5 : Int) (h : H) : Prop :=
  C2 x0 x3 x4 (IntKind.wrap .i64 (x5 + 1)) h
def F.spatelaw8_ordered.j7 (Q : Sl → H → Prop) (C1 : Sl → Sl → Int → H → Prop) (x0 : Sl) (x3 : Sl) (x4 : Int) (x5 : Int) (h : H) : Prop :=
  cutL x3 0 x5 7 fun s3 =>
  runL PP (Builtin.append_ #[51, 51] 51 #[(⟨none, 0, 0⟩ : Sl).enc, s3.enc]) h fun s5 h4 =>
  idxA x0 x4 7 fun a6 =>
  ld_S_api_Row h4 a6 fun y8 =>
  newL h4 ((y8.cells).toArray) ty_66 1 fun s11 h10 =>
  runL PP (Builtin.append_ #[51, 51] 51 #[s5.enc, s11.enc]) h10 fun s13 h12 =>
  cutL x3 x5 (x3.len : Int) 7 fun s15 =>
  runL PP (Builtin.append_ #[51, 51] 51 #[s13.enc, s15.enc]) h12 fun s17 h16 =>
  F.spatelaw8_ordered.j3 Q C1 x0 s17 x4 h16
def F.spatelaw8_ordered.j8 (Q : Sl → H → Prop) (C1 : Sl → Sl → Int → H → Prop) (x0 : Sl) (x3 : Sl) (x4 : Int) (x5 : Int) (x53 : Bool) (h : H) : Prop :=
  (x53 = true →
  F.spatelaw8_ordered.j3 Q C1 x0 x3 x4 h) ∧
  (x53 = false →
  F.spatelaw8_ordered.j7 Q C1 x0 x3 x4 x5 h)
def F.spatelaw8_ordered.j6 (Q : Sl → H → Prop) (C1 : Sl → Sl → Int → H → Prop) (C2 : Sl → Sl → Int → Int → H → Prop) (x0 : Sl) (x3 : Sl) (x4 : Int) (x5 : Int) (x34 : Bool) (h : H) : Prop :=
  (x34 = true →
  F.spatelaw8_ordered.j5 Q C1 C2 x0 x3 x4 x5 h) ∧
  (x34 = false →
  ((decide (x5 < (x3.len : Int))) = true →
  idxA x3 x5 7 fun a20 =>
  ld_S_api_Cell h (a20.add 0) fun y22 =>
  idxA x0 x4 7 fun a24 =>
  ld_S_api_Cell h (a24.add 0) fun y26 =>
  F.spatelaw8_ordered.j8 Q C1 x0 x3 x4 x5 ((y22.View == y26.View) && ((y22.Key.toList == y26.Key.toList) && ((y22.Start == y26.Start) && true))) h) ∧
  ((decide (x5 < (x3.len : Int))) = false →
  F.spatelaw8_ordered.j8 Q C1 x0 x3 x4 x5 false h))
def F.spatelaw8_ordered.l4 (Q : Sl → H → Prop) (C1 : Sl → Sl → Int → H → Prop) : Nat → Sl → Sl → Int → Int → H → Prop
  | 0, _, _, _, _, _ => False
  | q4 + 1, x0, x3, x4, x5, h =>
    ((decide (x5 < (x3.len : Int))) = true →
    idxA x3 x5 7 fun a29 =>
    ld_S_api_Cell h (a29.add 0) fun y31 =>
    idxA x0 x4 7 fun a33 =>
    ld_S_api_Cell h (a33.add 0) fun y35 =>
    F.spateref8_Compare y31 y35 h fun r38 h37 =>
    F.spatelaw8_ordered.j6 Q C1 (F.spatelaw8_ordered.l4 Q C1 q4) x0 x3 x4 x5 (decide (r38 < 0)) h37) ∧
    ((decide (x5 < (x3.len : Int))) = false →
    F.spatelaw8_ordered.j6 Q C1 (F.spatelaw8_ordered.l4 Q C1 q4) x0 x3 x4 x5 false h)
def F.spatelaw8_ordered.j2 (Q : Sl → H → Prop) (C1 : Sl → Sl → Int → H → Prop) (x0 : Sl) (x3 : Sl) (x4 : Int) (h : H) : Prop :=
  ∃ m, F.spatelaw8_ordered.l4 Q C1 m x0 x3 x4 0 h
def F.spatelaw8_ordered.j9 (Q : Sl → H → Prop) (C1 : Sl → Sl → Int → H → Prop) (x0 : Sl) (x3 : Sl) (x4 : Int) (x14 : Bool) (h : H) : Prop :=
  (x14 = true →
  F.spatelaw8_ordered.j2 Q C1 x0 x3 x4 h) ∧
  (x14 = false →
  Q x3 h)
def F.spatelaw8_ordered.l1 (Q : Sl → H → Prop) : Nat → Sl → Sl → Int → H → Prop
  | 0, _, _, _, _ => False
  | q1 + 1, x0, x3, x4, h =>
    ((decide (x4 < (x0.len : Int))) = true →
    F.spatelaw8_ordered.j9 Q (F.spatelaw8_ordered.l1 Q q1) x0 x3 x4 (decide (x4 < 200)) h) ∧
    ((decide (x4 < (x0.len : Int))) = false →
    F.spatelaw8_ordered.j9 Q (F.spatelaw8_ordered.l1 Q q1) x0 x3 x4 false h)
/-- spate/spatelaw8.ordered -/
def F.spatelaw8_ordered (p0 : Sl) (h : H) (Q : Sl → H → Prop) : Prop :=
  ∃ m, F.spatelaw8_ordered.l1 Q m p0 (⟨none, 0, 0⟩ : Sl) 0 h
theorem F.spatelaw8_ordered_ok {p0 : Sl} {h : H} {Q : Sl → H → Prop} (H : F.spatelaw8_ordered p0 h Q) : Fn PP 29 ([p0.enc] : List Value).toArray h fun r h' => ∃ r0, r = r0.enc ∧ Q r0 h' := by
  unfold F.spatelaw8_ordered at H
  refine fn_of Try.func29 Try.ntmps29 rfl rfl fun w0 => ?_
  refine tr_sub [(0, p0.enc)] ⟨rfl, trivial⟩ ?_
  refine tr_seq ?_
  refine tr_region ?_
  refine tr_p (y_assign rfl) rfl rfl ?_
  refine tr_nil ?_
  refine tr_thenN ?_
  refine tr_seq ?_
  refine tr_region ?_
  refine tr_p (y_assign rfl) rfl rfl ?_
  refine tr_nil ?_
  refine tr_thenN ?_
  refine tr_seq ?_
  refine tr_seq ?_
  refine tr_region ?_
  refine tr_p (y_assign rfl) rfl rfl ?_
  refine tr_nil ?_
  refine tr_thenN ?_
  refine tr_block ?_
  obtain ⟨m42, H⟩ := H
  refine tr_sub [(0, p0.enc), (3, (⟨none, 0, 0⟩ : Sl).enc), (4, (.int .i64 0))] ⟨rfl, rfl, rfl, trivial⟩ ?_
  refine tr_loop_j (fun m L' h => ∃ (x0 : Sl) (x3 : Sl) (x4 : Int), L' = [(0, x0.enc), (3, x3.enc), (4, (.int .i64 x4))] ∧ F.spatelaw8_ordered.l1 Q m x0 x3 x4 h) ?_ ?_ m42 ⟨_, _, _, rfl, H⟩
  · rintro L' h ⟨_, _, _, _, H⟩; exact H
  · rintro q1 L' h ⟨x0, x3, x4, rfl, H⟩
    unfold F.spatelaw8_ordered.l1 at H
    refine tr_seq_j (fun L' h => ∃ (x0 : Sl) (x3 : Sl) (x4 : Int), L' = [(0, x0.enc), (3, x3.enc), (4, (.int .i64 x4))] ∧ F.spatelaw8_ordered.j2 Q (F.spatelaw8_ordered.l1 Q q1) x0 x3 x4 h) ?_ ?_
    · rintro L' h ⟨x0, x3, x4, rfl, H⟩
      unfold F.spatelaw8_ordered.j2 at H
      refine tr_seq_j (fun L' h => ∃ (x0 : Sl) (x3 : Sl) (x4 : Int), L' = [(0, x0.enc), (3, x3.enc), (4, (.int .i64 x4))] ∧ F.spatelaw8_ordered.j3 Q (F.spatelaw8_ordered.l1 Q q1) x0 x3 x4 h) ?_ ?_
      · rintro L' h ⟨x0, x3, x4, rfl, H⟩
        unfold F.spatelaw8_ordered.j3 at H
        refine tr_region ?_
        refine tr_p (y_move rfl) rfl rfl ?_
        refine tr_p (y_add rfl rfl) rfl rfl ?_
        refine tr_p (y_assign rfl) rfl rfl ?_
        refine tr_nil ?_
        refine tr_thenN ?_
        exact tr_join [(0, x0.enc), (3, x3.enc), (4, (.int .i64 (IntKind.wrap .i64 (x4 + 1))))] ⟨rfl, rfl, rfl, trivial⟩ ⟨_, _, _, rfl, H⟩
      · refine tr_block ?_
        refine tr_seq ?_
        refine tr_region ?_
        refine tr_p (y_assign rfl) rfl rfl ?_
        refine tr_nil ?_
        refine tr_thenN ?_
        refine tr_seq ?_
        refine tr_block ?_
        obtain ⟨m39, H⟩ := H
        refine tr_sub [(0, x0.enc), (3, x3.enc), (4, (.int .i64 x4)), (5, (.int .i64 0))] ⟨rfl, rfl, rfl, rfl, trivial⟩ ?_
        refine tr_loop_j (fun m L' h => ∃ (x0 : Sl) (x3 : Sl) (x4 : Int) (x5 : Int), L' = [(0, x0.enc), (3, x3.enc), (4, (.int .i64 x4)), (5, (.int .i64 x5))] ∧ F.spatelaw8_ordered.l4 Q (F.spatelaw8_ordered.l1 Q q1) m x0 x3 x4 x5 h) ?_ ?_ m39 ⟨_, _, _, _, rfl, H⟩
        · rintro L' h ⟨_, _, _, _, _, H⟩; exact H
        · rintro q4 L' h ⟨x0, x3, x4, x5, rfl, H⟩
          unfold F.spatelaw8_ordered.l4 at H
          refine tr_seq_j (fun L' h => ∃ (x0 : Sl) (x3 : Sl) (x4 : Int) (x5 : Int), L' = [(0, x0.enc), (3, x3.enc), (4, (.int .i64 x4)), (5, (.int .i64 x5))] ∧ F.spatelaw8_ordered.j5 Q (F.spatelaw8_ordered.l1 Q q1) (F.spatelaw8_ordered.l4 Q (F.spatelaw8_ordered.l1 Q q1) q4) x0 x3 x4 x5 h) ?_ ?_
          · rintro L' h ⟨x0, x3, x4, x5, rfl, H⟩
            unfold F.spatelaw8_ordered.j5 at H
            refine tr_block ?_
            refine tr_region ?_
            refine tr_p (y_move rfl) rfl rfl ?_
            refine tr_p (y_add rfl rfl) rfl rfl ?_
            refine tr_p (y_assign rfl) rfl rfl ?_
            refine tr_nil ?_
            refine tr_blockN ?_
            refine tr_thenN ?_
            exact tr_join [(0, x0.enc), (3, x3.enc), (4, (.int .i64 x4)), (5, (.int .i64 (IntKind.wrap .i64 (x5 + 1))))] ⟨rfl, rfl, rfl, rfl, trivial⟩ ⟨_, _, _, _, rfl, H⟩
          · refine tr_seq_j (fun L' h => ∃ (x0 : Sl) (x3 : Sl) (x4 : Int) (x5 : Int) (x34 : Bool), L' = [(0, x0.enc), (3, x3.enc), (4, (.int .i64 x4)), (5, (.int .i64 x5)), (34, (.bool x34))] ∧ F.spatelaw8_ordered.j6 Q (F.spatelaw8_ordered.l1 Q q1) (F.spatelaw8_ordered.l4 Q (F.spatelaw8_ordered.l1 Q q1) q4) x0 x3 x4 x5 x34 h) ?_ ?_
            · rintro L' h ⟨x0, x3, x4, x5, x34, rfl, H⟩
              unfold F.spatelaw8_ordered.j6 at H
              refine tr_cond rfl (fun g1 => ?_) (fun g1 => ?_)
              · replace H := H.1 g1
                refine tr_skip ?_
                refine tr_thenN ?_
                exact tr_join [(0, x0.enc), (3, x3.enc), (4, (.int .i64 x4)), (5, (.int .i64 x5))] ⟨rfl, rfl, rfl, rfl, trivial⟩ ⟨_, _, _, _, rfl, H⟩
              · replace H := H.2 g1
                refine tr_exit ?_
                refine tr_thenE ?_
                refine tr_thenE ?_
                refine tr_hit ?_
                refine tr_thenN ?_
                refine tr_seq_j (fun L' h => ∃ (x0 : Sl) (x3 : Sl) (x4 : Int) (x5 : Int), L' = [(0, x0.enc), (3, x3.enc), (4, (.int .i64 x4)), (5, (.int .i64 x5))] ∧ F.spatelaw8_ordered.j7 Q (F.spatelaw8_ordered.l1 Q q1) x0 x3 x4 x5 h) ?_ ?_
                · rintro L' h ⟨x0, x3, x4, x5, rfl, H⟩
                  unfold F.spatelaw8_ordered.j7 at H
                  refine tr_seq ?_
                  refine tr_region ?_
                  refine tr_p (y_assign rfl) rfl rfl ?_
                  refine tr_nil ?_
                  refine tr_thenN ?_
                  refine tr_seq ?_
                  refine tr_region ?_
                  refine tr_p (y_move rfl) rfl rfl ?_
                  refine tr_p (y_move rfl) rfl rfl ?_
                  refine tr_p (y_move rfl) rfl rfl ?_
                  obtain ⟨s3, e2, H⟩ := H
                  refine tr_p (f_cutL (s := x3) none (some (.i64, x5)) Try.runUnderlying51 Try.sizeOf66 rfl rfl rfl e2) rfl rfl ?_
                  refine tr_e (f_app rfl H) rfl rfl ?_
                  rintro _ h4 ⟨s5, rfl, H⟩
                  refine tr_p (y_assign rfl) rfl rfl ?_
                  refine tr_nil ?_
                  refine tr_thenN ?_
                  refine tr_seq ?_
                  refine tr_region ?_
                  refine tr_p (y_move rfl) rfl rfl ?_
                  refine tr_p (y_move rfl) rfl rfl ?_
                  refine tr_p (y_move rfl) rfl rfl ?_
                  obtain ⟨a6, e7, H⟩ := H
                  refine tr_p (f_idx (s := x0) Try.runUnderlying51 Try.sizeOf66 rfl rfl e7) rfl rfl ?_
                  obtain ⟨y8, k9, H⟩ := H
                  refine tr_h (y_ldS Try.isAgg66 Try.sizeOf66 rfl rfl) k9 rfl rfl ?_
                  refine tr_e (f_buildL (cs := (y8.cells).toArray) rfl rfl (bl_51_1_0 y8) H) rfl rfl ?_
                  rintro _ h10 ⟨s11, rfl, H⟩
                  refine tr_e (f_app rfl H) rfl rfl ?_
                  rintro _ h12 ⟨s13, rfl, H⟩
                  refine tr_p (y_assign rfl) rfl rfl ?_
                  refine tr_nil ?_
                  refine tr_thenN ?_
                  refine tr_region ?_
                  refine tr_p (y_move rfl) rfl rfl ?_
                  refine tr_p (y_move rfl) rfl rfl ?_
                  refine tr_p (y_move rfl) rfl rfl ?_
                  obtain ⟨s15, e14, H⟩ := H
                  refine tr_p (f_cutL (s := x3) (some (.i64, x5)) none Try.runUnderlying51 Try.sizeOf66 rfl rfl rfl e14) rfl rfl ?_
                  refine tr_e (f_app rfl H) rfl rfl ?_
                  rintro _ h16 ⟨s17, rfl, H⟩
                  refine tr_p (y_assign rfl) rfl rfl ?_
                  refine tr_nil ?_
                  refine tr_blockN ?_
                  refine tr_thenN ?_
                  exact tr_join [(0, x0.enc), (3, s17.enc), (4, (.int .i64 x4))] ⟨rfl, rfl, rfl, trivial⟩ ⟨_, _, _, rfl, H⟩
                · refine tr_seq_j (fun L' h => ∃ (x0 : Sl) (x3 : Sl) (x4 : Int) (x5 : Int) (x53 : Bool), L' = [(0, x0.enc), (3, x3.enc), (4, (.int .i64 x4)), (5, (.int .i64 x5)), (53, (.bool x53))] ∧ F.spatelaw8_ordered.j8 Q (F.spatelaw8_ordered.l1 Q q1) x0 x3 x4 x5 x53 h) ?_ ?_
                  · rintro L' h ⟨x0, x3, x4, x5, x53, rfl, H⟩
                    unfold F.spatelaw8_ordered.j8 at H
                    refine tr_cond rfl (fun g18 => ?_) (fun g18 => ?_)
                    · replace H := H.1 g18
                      refine tr_exit ?_
                      refine tr_thenE ?_
                      refine tr_hit ?_
                      refine tr_thenN ?_
                      exact tr_join [(0, x0.enc), (3, x3.enc), (4, (.int .i64 x4))] ⟨rfl, rfl, rfl, trivial⟩ ⟨_, _, _, rfl, H⟩
                    · replace H := H.2 g18
                      refine tr_skip ?_
                      refine tr_thenN ?_
                      exact tr_join [(0, x0.enc), (3, x3.enc), (4, (.int .i64 x4)), (5, (.int .i64 x5))] ⟨rfl, rfl, rfl, rfl, trivial⟩ ⟨_, _, _, _, rfl, H⟩
                  · refine tr_draw mixed [0, 0, 2, 7, 15, 31, 31, 127, 255, 511, 31, 31, 3103, 7199, 15391, 32767, 65535] (by kernel_rfl) ?_
                    refine g_p 0 1 rfl (by kernel_rfl) (y_move rfl) rfl rfl ?_
                    refine g_p 1 3 rfl (by kernel_rfl) (y_move rfl) rfl rfl ?_
                    refine g_p 2 7 rfl (by kernel_rfl) (y_len (ts := #[]) Try.runUnderlying51 (o := x3.ptr) (n := x3.len) (cap := x3.cap) rfl) rfl rfl ?_
                    refine g_p 3 15 rfl (by kernel_rfl) (y_lss rfl rfl) rfl rfl ?_
                    refine g_p 4 31 rfl (by kernel_rfl) (y_move rfl) rfl rfl ?_
                    refine g_split (t := 41) rfl (fun g19 => ?_) (fun g19 => ?_)
                    · replace H := H.1 g19
                      refine g_p 5 63 rfl (by kernel_rfl) (y_move rfl) rfl rfl ?_
                      refine g_p 6 127 rfl (by kernel_rfl) (y_move rfl) rfl rfl ?_
                      obtain ⟨a20, e21, H⟩ := H
                      refine g_p 7 255 rfl (by kernel_rfl) (f_idx (s := x3) Try.runUnderlying51 Try.sizeOf66 rfl rfl e21) rfl rfl ?_
                      refine g_p 8 511 rfl (by kernel_rfl) (y_fa (off := 0) Try.runUnderlying66 fo_66_0 rfl) rfl rfl ?_
                      obtain ⟨y22, k23, H⟩ := H
                      refine g_h 9 1023 rfl (by kernel_rfl) (y_ldS Try.isAgg34 Try.sizeOf34 rfl rfl) k23 rfl rfl ?_
                      refine g_p 10 2047 rfl (by kernel_rfl) (y_move rfl) rfl rfl ?_
                      refine g_p 11 4095 rfl (by kernel_rfl) (y_move rfl) rfl rfl ?_
                      obtain ⟨a24, e25, H⟩ := H
                      refine g_p 12 8191 rfl (by kernel_rfl) (f_idx (s := x0) Try.runUnderlying51 Try.sizeOf66 rfl rfl e25) rfl rfl ?_
                      refine g_p 13 16383 rfl (by kernel_rfl) (y_fa (off := 0) Try.runUnderlying66 fo_66_0 rfl) rfl rfl ?_
                      obtain ⟨y26, k27, H⟩ := H
                      refine g_h 14 32767 rfl (by kernel_rfl) (y_ldS Try.isAgg34 Try.sizeOf34 rfl rfl) k27 rfl rfl ?_
                      refine g_p 15 65535 rfl (by kernel_rfl) (st_eql (b := ((y22.View == y26.View) && ((y22.Key.toList == y26.Key.toList) && ((y22.Start == y26.Start) && true)))) eqg_34 (fun w => eqst_34 y22 y26 9998 w) rfl rfl) rfl rfl ?_
                      refine g_p 16 131071 rfl (by kernel_rfl) (y_pick_t rfl rfl) rfl rfl ?_
                      refine g_d (by kernel_rfl) ?_
                      refine tr_thenN ?_
                      exact tr_join [(0, x0.enc), (3, x3.enc), (4, (.int .i64 x4)), (5, (.int .i64 x5)), (53, (.bool ((y22.View == y26.View) && ((y22.Key.toList == y26.Key.toList) && ((y22.Start == y26.Start) && true)))))] ⟨rfl, rfl, rfl, rfl, rfl, trivial⟩ ⟨_, _, _, _, _, rfl, H⟩
                    · replace H := H.2 g19
                      refine g_s 5 63 rfl (by kernel_rfl) rfl rfl ?_
                      refine g_s 6 127 rfl (by kernel_rfl) rfl rfl ?_
                      refine g_s 7 255 rfl (by kernel_rfl) rfl rfl ?_
                      refine g_s 8 511 rfl (by kernel_rfl) rfl rfl ?_
                      refine g_s 9 1023 rfl (by kernel_rfl) rfl rfl ?_
                      refine g_s 10 2047 rfl (by kernel_rfl) rfl rfl ?_
                      refine g_s 11 4095 rfl (by kernel_rfl) rfl rfl ?_
                      refine g_s 12 8191 rfl (by kernel_rfl) rfl rfl ?_
                      refine g_s 13 16383 rfl (by kernel_rfl) rfl rfl ?_
                      refine g_s 14 32767 rfl (by kernel_rfl) rfl rfl ?_
                      refine g_s 15 65535 rfl (by kernel_rfl) rfl rfl ?_
                      refine g_p 16 131071 rfl (by kernel_rfl) (y_pick_f rfl rfl) rfl rfl ?_
                      refine g_d (by kernel_rfl) ?_
                      refine tr_thenN ?_
                      exact tr_join [(0, x0.enc), (3, x3.enc), (4, (.int .i64 x4)), (5, (.int .i64 x5)), (53, (.bool false))] ⟨rfl, rfl, rfl, rfl, rfl, trivial⟩ ⟨_, _, _, _, _, rfl, H⟩
            · refine tr_draw mixed [0, 0, 2, 7, 15, 31, 31, 127, 255, 511, 31, 31, 3103, 7199, 15391, 32767, 65535, 131071] (by kernel_rfl) ?_
              refine g_p 0 1 rfl (by kernel_rfl) (y_move rfl) rfl rfl ?_
              refine g_p 1 3 rfl (by kernel_rfl) (y_move rfl) rfl rfl ?_
              refine g_p 2 7 rfl (by kernel_rfl) (y_len (ts := #[]) Try.runUnderlying51 (o := x3.ptr) (n := x3.len) (cap := x3.cap) rfl) rfl rfl ?_
              refine g_p 3 15 rfl (by kernel_rfl) (y_lss rfl rfl) rfl rfl ?_
              refine g_p 4 31 rfl (by kernel_rfl) (y_move rfl) rfl rfl ?_
              refine g_split (t := 21) rfl (fun g28 => ?_) (fun g28 => ?_)
              · replace H := H.1 g28
                refine g_p 5 63 rfl (by kernel_rfl) (y_move rfl) rfl rfl ?_
                refine g_p 6 127 rfl (by kernel_rfl) (y_move rfl) rfl rfl ?_
                obtain ⟨a29, e30, H⟩ := H
                refine g_p 7 255 rfl (by kernel_rfl) (f_idx (s := x3) Try.runUnderlying51 Try.sizeOf66 rfl rfl e30) rfl rfl ?_
                refine g_p 8 511 rfl (by kernel_rfl) (y_fa (off := 0) Try.runUnderlying66 fo_66_0 rfl) rfl rfl ?_
                obtain ⟨y31, k32, H⟩ := H
                refine g_h 9 1023 rfl (by kernel_rfl) (y_ldS Try.isAgg34 Try.sizeOf34 rfl rfl) k32 rfl rfl ?_
                refine g_p 10 2047 rfl (by kernel_rfl) (y_move rfl) rfl rfl ?_
                refine g_p 11 4095 rfl (by kernel_rfl) (y_move rfl) rfl rfl ?_
                obtain ⟨a33, e34, H⟩ := H
                refine g_p 12 8191 rfl (by kernel_rfl) (f_idx (s := x0) Try.runUnderlying51 Try.sizeOf66 rfl rfl e34) rfl rfl ?_
                refine g_p 13 16383 rfl (by kernel_rfl) (y_fa (off := 0) Try.runUnderlying66 fo_66_0 rfl) rfl rfl ?_
                obtain ⟨y35, k36, H⟩ := H
                refine g_h 14 32767 rfl (by kernel_rfl) (y_ldS Try.isAgg34 Try.sizeOf34 rfl rfl) k36 rfl rfl ?_
                refine g_e 15 65535 [] (by kernel_rfl) rfl (by kernel_rfl) (e_call Try.call27 rfl (F.spateref8_Compare_ok H)) rfl rfl ?_
                rintro _ h37 ⟨r38, rfl, H⟩
                refine ⟨trivial, ?_⟩
                refine g_p 16 131071 rfl (by kernel_rfl) (y_lss rfl rfl) rfl rfl ?_
                refine g_p 17 262143 rfl (by kernel_rfl) (y_pick_t rfl rfl) rfl rfl ?_
                refine g_d (by kernel_rfl) ?_
                refine tr_thenN ?_
                exact tr_join [(0, x0.enc), (3, x3.enc), (4, (.int .i64 x4)), (5, (.int .i64 x5)), (34, (.bool (decide (r38 < 0))))] ⟨rfl, rfl, rfl, rfl, rfl, trivial⟩ ⟨_, _, _, _, _, rfl, H⟩
              · replace H := H.2 g28
                refine g_s 5 63 rfl (by kernel_rfl) rfl rfl ?_
                refine g_s 6 127 rfl (by kernel_rfl) rfl rfl ?_
                refine g_s 7 255 rfl (by kernel_rfl) rfl rfl ?_
                refine g_s 8 511 rfl (by kernel_rfl) rfl rfl ?_
                refine g_s 9 1023 rfl (by kernel_rfl) rfl rfl ?_
                refine g_s 10 2047 rfl (by kernel_rfl) rfl rfl ?_
                refine g_s 11 4095 rfl (by kernel_rfl) rfl rfl ?_
                refine g_s 12 8191 rfl (by kernel_rfl) rfl rfl ?_
                refine g_s 13 16383 rfl (by kernel_rfl) rfl rfl ?_
                refine g_s 14 32767 rfl (by kernel_rfl) rfl rfl ?_
                refine g_s 15 65535 rfl (by kernel_rfl) rfl rfl ?_
                refine g_s 16 131071 rfl (by kernel_rfl) rfl rfl ?_
                refine g_p 17 262143 rfl (by kernel_rfl) (y_pick_f rfl rfl) rfl rfl ?_
                refine g_d (by kernel_rfl) ?_
                refine tr_thenN ?_
                exact tr_join [(0, x0.enc), (3, x3.enc), (4, (.int .i64 x4)), (5, (.int .i64 x5)), (34, (.bool false))] ⟨rfl, rfl, rfl, rfl, rfl, trivial⟩ ⟨_, _, _, _, _, rfl, H⟩
    · refine tr_seq_j (fun L' h => ∃ (x0 : Sl) (x3 : Sl) (x4 : Int) (x14 : Bool), L' = [(0, x0.enc), (3, x3.enc), (4, (.int .i64 x4)), (14, (.bool x14))] ∧ F.spatelaw8_ordered.j9 Q (F.spatelaw8_ordered.l1 Q q1) x0 x3 x4 x14 h) ?_ ?_
      · rintro L' h ⟨x0, x3, x4, x14, rfl, H⟩
        unfold F.spatelaw8_ordered.j9 at H
        refine tr_cond rfl (fun g40 => ?_) (fun g40 => ?_)
        · replace H := H.1 g40
          refine tr_skip ?_
          refine tr_thenN ?_
          exact tr_join [(0, x0.enc), (3, x3.enc), (4, (.int .i64 x4))] ⟨rfl, rfl, rfl, trivial⟩ ⟨_, _, _, rfl, H⟩
        · replace H := H.2 g40
          refine tr_exit ?_
          refine tr_thenE ?_
          refine tr_thenE ?_
          refine tr_hit ?_
          refine tr_thenN ?_
          refine tr_seq ?_
          refine tr_region ?_
          refine tr_p (y_move rfl) rfl rfl ?_
          refine tr_p (y_assign rfl) rfl rfl ?_
          refine tr_nil ?_
          refine tr_thenN ?_
          refine tr_ret ?_
          exact tr_ret1 rfl rfl ⟨_, rfl, H⟩
      · refine tr_region ?_
        refine tr_p (y_move rfl) rfl rfl ?_
        refine tr_p (y_move rfl) rfl rfl ?_
        refine tr_p (y_len (ts := #[]) Try.runUnderlying51 (o := x0.ptr) (n := x0.len) (cap := x0.cap) rfl) rfl rfl ?_
        refine tr_p (y_lss rfl rfl) rfl rfl ?_
        refine tr_p (y_move rfl) rfl rfl ?_
        refine tr_split (t := 11) rfl (fun g41 => ?_) (fun g41 => ?_)
        · replace H := H.1 g41
          refine tr_p (y_move rfl) rfl rfl ?_
          refine tr_p (y_lss rfl rfl) rfl rfl ?_
          refine tr_p (y_pick_t rfl rfl) rfl rfl ?_
          refine tr_nil ?_
          refine tr_thenN ?_
          exact tr_join [(0, x0.enc), (3, x3.enc), (4, (.int .i64 x4)), (14, (.bool (decide (x4 < 200))))] ⟨rfl, rfl, rfl, rfl, trivial⟩ ⟨_, _, _, _, rfl, H⟩
        · replace H := H.2 g41
          refine tr_s rfl rfl ?_
          refine tr_s rfl rfl ?_
          refine tr_p (y_pick_f rfl rfl) rfl rfl ?_
          refine tr_nil ?_
          refine tr_thenN ?_
          exact tr_join [(0, x0.enc), (3, x3.enc), (4, (.int .i64 x4)), (14, (.bool false))] ⟨rfl, rfl, rfl, rfl, trivial⟩ ⟨_, _, _, _, rfl, H⟩
/-- (spate/merge.fronts).Len -/
def F.merge_fronts_Len (p0 : Sl) (h : H) (Q : Int → H → Prop) : Prop :=
  Q (p0.len : Int) h
theorem F.merge_fronts_Len_ok {p0 : Sl} {h : H} {Q : Int → H → Prop} (H : F.merge_fronts_Len p0 h Q) : Fn PP 74 ([p0.enc] : List Value).toArray h fun r h' => ∃ r0, r = (.int .i64 r0) ∧ Q r0 h' := by
  unfold F.merge_fronts_Len at H
  refine fn_of Try.func74 Try.ntmps74 rfl rfl fun w0 => ?_
  refine tr_sub [(0, p0.enc)] ⟨rfl, trivial⟩ ?_
  refine tr_seq ?_
  refine tr_region ?_
  refine tr_p (y_assign rfl) rfl rfl ?_
  refine tr_nil ?_
  refine tr_thenN ?_
  refine tr_seq ?_
  refine tr_region ?_
  refine tr_p (y_move rfl) rfl rfl ?_
  refine tr_p (y_len (ts := #[]) Try.runUnderlying86 (o := p0.ptr) (n := p0.len) (cap := p0.cap) rfl) rfl rfl ?_
  refine tr_p (y_assign rfl) rfl rfl ?_
  refine tr_nil ?_
  refine tr_thenN ?_
  refine tr_ret ?_
  exact tr_ret1 rfl rfl ⟨_, rfl, H⟩
/-- (spate/merge.fronts).Less -/
def F.merge_fronts_Less (p0 : Sl) (p1 : Int) (p2 : Int) (h : H) (Q : Bool → H → Prop) : Prop :=
  idxA p0 p1 2 fun a1 =>
  ldL h (a1.add 0) fun y3 =>
  idxA y3 0 7 fun a5 =>
  ld_S_api_Cell h (a5.add 0) fun y7 =>
  idxA p0 p2 2 fun a9 =>
  ldL h (a9.add 0) fun y11 =>
  idxA y11 0 7 fun a13 =>
  ld_S_api_Cell h (a13.add 0) fun y15 =>
  idxA p0 p1 2 fun a17 =>
  ldI .i64 h (a17.add 1) fun y19 =>
  idxA p0 p2 2 fun a21 =>
  ldI .i64 h (a21.add 1) fun y23 =>
  F.merge_Compare y7 y15 h fun r26 h25 =>
  cellH h25 (a21.add 1) = some (.int .i64 y23) ∧
  cellH h25 (a17.add 1) = some (.int .i64 y19) ∧
  F.cmp_Compare_int y19 y23 h25 fun r30 h29 =>
  newL h29 #[(.int .i64 r26), (.int .i64 r30)] ty_3 2 fun s32 h31 =>
  F.cmp_Or_int s32 h31 fun r34 h33 =>
  Q (decide (r34 < 0)) h33
theorem F.merge_fronts_Less_ok {p0 : Sl} {p1 : Int} {p2 : Int} {h : H} {Q : Bool → H → Prop} (H : F.merge_fronts_Less p0 p1 p2 h Q) : Fn PP 75 ([p0.enc, (.int .i64 p1), (.int .i64 p2)] : List Value).toArray h fun r h' => ∃ r0, r = (.bool r0) ∧ Q r0 h' := by
  unfold F.merge_fronts_Less at H
  refine fn_of Try.func75 Try.ntmps75 rfl rfl fun w0 => ?_
  refine tr_sub [(0, p0.enc), (1, (.int .i64 p1)), (2, (.int .i64 p2))] ⟨rfl, rfl, rfl, trivial⟩ ?_
  refine tr_seq ?_
  refine tr_region ?_
  refine tr_p (y_assign rfl) rfl rfl ?_
  refine tr_nil ?_
  refine tr_thenN ?_
  refine tr_seq ?_
  refine tr_draw mixed [0, 0, 3, 7, 15, 31, 63, 127, 0, 0, 768, 1792, 3840, 7936, 16128, 32512, 65535, 0, 0, 393216, 917504, 1966080, 0, 0, 12582912, 29360128, 62914560, 134217727, 268435455, 536870911, 1073741823, 2147483647] (by kernel_rfl) ?_
  refine g_p 0 1 rfl (by kernel_rfl) (y_move rfl) rfl rfl ?_
  refine g_p 1 3 rfl (by kernel_rfl) (y_move rfl) rfl rfl ?_
  obtain ⟨a1, e2, H⟩ := H
  refine g_p 2 7 rfl (by kernel_rfl) (f_idx (s := p0) Try.runUnderlying86 Try.sizeOf88 rfl rfl e2) rfl rfl ?_
  refine g_p 3 15 rfl (by kernel_rfl) (y_fa (off := 0) Try.runUnderlying88 fo_88_0 rfl) rfl rfl ?_
  obtain ⟨y3, k4, H⟩ := H
  refine g_h 4 31 rfl (by kernel_rfl) (y_ld Try.isAgg51 rfl) k4 rfl rfl ?_
  obtain ⟨a5, e6, H⟩ := H
  refine g_p 5 63 rfl (by kernel_rfl) (f_idx (s := y3) Try.runUnderlying51 Try.sizeOf66 rfl rfl e6) rfl rfl ?_
  refine g_p 6 127 rfl (by kernel_rfl) (y_fa (off := 0) Try.runUnderlying66 fo_66_0 rfl) rfl rfl ?_
  obtain ⟨y7, k8, H⟩ := H
  refine g_h 7 255 rfl (by kernel_rfl) (y_ldS Try.isAgg34 Try.sizeOf34 rfl rfl) k8 rfl rfl ?_
  refine g_p 8 511 rfl (by kernel_rfl) (y_move rfl) rfl rfl ?_
  refine g_p 9 1023 rfl (by kernel_rfl) (y_move rfl) rfl rfl ?_
  obtain ⟨a9, e10, H⟩ := H
  refine g_p 10 2047 rfl (by kernel_rfl) (f_idx (s := p0) Try.runUnderlying86 Try.sizeOf88 rfl rfl e10) rfl rfl ?_
  refine g_p 11 4095 rfl (by kernel_rfl) (y_fa (off := 0) Try.runUnderlying88 fo_88_0 rfl) rfl rfl ?_
  obtain ⟨y11, k12, H⟩ := H
  refine g_h 12 8191 rfl (by kernel_rfl) (y_ld Try.isAgg51 rfl) k12 rfl rfl ?_
  obtain ⟨a13, e14, H⟩ := H
  refine g_p 13 16383 rfl (by kernel_rfl) (f_idx (s := y11) Try.runUnderlying51 Try.sizeOf66 rfl rfl e14) rfl rfl ?_
  refine g_p 14 32767 rfl (by kernel_rfl) (y_fa (off := 0) Try.runUnderlying66 fo_66_0 rfl) rfl rfl ?_
  obtain ⟨y15, k16, H⟩ := H
  refine g_h 15 65535 rfl (by kernel_rfl) (y_ldS Try.isAgg34 Try.sizeOf34 rfl rfl) k16 rfl rfl ?_
  refine g_p 17 196607 rfl (by kernel_rfl) (y_move rfl) rfl rfl ?_
  refine g_p 18 458751 rfl (by kernel_rfl) (y_move rfl) rfl rfl ?_
  obtain ⟨a17, e18, H⟩ := H
  refine g_p 19 983039 rfl (by kernel_rfl) (f_idx (s := p0) Try.runUnderlying86 Try.sizeOf88 rfl rfl e18) rfl rfl ?_
  refine g_p 20 2031615 rfl (by kernel_rfl) (y_fa (off := 1) Try.runUnderlying88 fo_88_1 rfl) rfl rfl ?_
  obtain ⟨y19, k20, H⟩ := H
  refine g_h 21 4128767 rfl (by kernel_rfl) (y_ld Try.isAgg3 rfl) k20 rfl rfl ?_
  refine g_p 22 8323071 rfl (by kernel_rfl) (y_move rfl) rfl rfl ?_
  refine g_p 23 16711679 rfl (by kernel_rfl) (y_move rfl) rfl rfl ?_
  obtain ⟨a21, e22, H⟩ := H
  refine g_p 24 33488895 rfl (by kernel_rfl) (f_idx (s := p0) Try.runUnderlying86 Try.sizeOf88 rfl rfl e22) rfl rfl ?_
  refine g_p 25 67043327 rfl (by kernel_rfl) (y_fa (off := 1) Try.runUnderlying88 fo_88_1 rfl) rfl rfl ?_
  obtain ⟨y23, k24, H⟩ := H
  refine g_h 26 134152191 rfl (by kernel_rfl) (y_ld Try.isAgg3 rfl) k24 rfl rfl ?_
  refine g_e 16 134217727 [(26, fun h => cellH h (a21.add 1) = some (.int .i64 y23)), (21, fun h => cellH h (a17.add 1) = some (.int .i64 y19))] (by kernel_rfl) rfl (by kernel_rfl) (e_call Try.call26 rfl (F.merge_Compare_ok H)) rfl rfl ?_
  rintro _ h25 ⟨r26, rfl, H⟩
  obtain ⟨k27, k28, H⟩ := H
  refine ⟨And.intro k27 (And.intro k28 trivial), ?_⟩
  refine g_e 27 268435455 [] (by kernel_rfl) rfl (by kernel_rfl) (e_call Try.call43 rfl (F.cmp_Compare_int_ok H)) rfl rfl ?_
  rintro _ h29 ⟨r30, rfl, H⟩
  refine ⟨trivial, ?_⟩
  refine g_e 28 536870911 [] (by kernel_rfl) rfl (by kernel_rfl) (f_buildL (cs := #[(.int .i64 r26), (.int .i64 r30)]) rfl rfl (bl_23_2_0_1 r26 r30) H) rfl rfl ?_
  rintro _ h31 ⟨s32, rfl, H⟩
  refine ⟨trivial, ?_⟩
  refine g_e 29 1073741823 [] (by kernel_rfl) rfl (by kernel_rfl) (e_call Try.call42 rfl (F.cmp_Or_int_ok H)) rfl rfl ?_
  rintro _ h33 ⟨r34, rfl, H⟩
  refine ⟨trivial, ?_⟩
  refine g_p 30 2147483647 rfl (by kernel_rfl) (y_lss rfl rfl) rfl rfl ?_
  refine g_p 31 4294967295 rfl (by kernel_rfl) (y_assign rfl) rfl rfl ?_
  refine g_d (by kernel_rfl) ?_
  refine tr_thenN ?_
  refine tr_ret ?_
  exact tr_ret1 rfl rfl ⟨_, rfl, H⟩
/-- (spate/merge.fronts).Swap -/
def F.merge_fronts_Swap (p0 : Sl) (p1 : Int) (p2 : Int) (h : H) (Q : H → Prop) : Prop :=
  idxA p0 p2 2 fun a1 =>
  ld_S_merge_front h a1 fun y3 =>
  idxA p0 p1 2 fun a5 =>
  ld_S_merge_front h a5 fun y7 =>
  idxA p0 p1 2 fun a9 =>
  stH h a9 y3.cells fun h11 =>
  idxA p0 p2 2 fun a12 =>
  stH h11 a12 y7.cells fun h14 =>
  Q h14
theorem F.merge_fronts_Swap_ok {p0 : Sl} {p1 : Int} {p2 : Int} {h : H} {Q : H → Prop} (H : F.merge_fronts_Swap p0 p1 p2 h Q) : Fn PP 76 ([p0.enc, (.int .i64 p1), (.int .i64 p2)] : List Value).toArray h fun r h' => r = .tuple #[] ∧ Q  h' := by
  unfold F.merge_fronts_Swap at H
  refine fn_of Try.func76 Try.ntmps76 rfl rfl fun w0 => ?_
  refine tr_sub [(0, p0.enc), (1, (.int .i64 p1)), (2, (.int .i64 p2))] ⟨rfl, rfl, rfl, trivial⟩ ?_
  refine tr_draw mixed [0, 0, 0, 0, 0, 0, 48, 112, 0, 0, 768, 1792, 4083, 8179, 16383, 32767] (by kernel_rfl) ?_
  refine g_p 0 1 rfl (by kernel_rfl) (y_move rfl) rfl rfl ?_
  refine g_p 1 3 rfl (by kernel_rfl) (y_move rfl) rfl rfl ?_
  refine g_p 2 7 rfl (by kernel_rfl) (y_move rfl) rfl rfl ?_
  refine g_p 3 15 rfl (by kernel_rfl) (y_move rfl) rfl rfl ?_
  refine g_p 4 31 rfl (by kernel_rfl) (y_move rfl) rfl rfl ?_
  refine g_p 5 63 rfl (by kernel_rfl) (y_move rfl) rfl rfl ?_
  obtain ⟨a1, e2, H⟩ := H
  refine g_p 6 127 rfl (by kernel_rfl) (f_idx (s := p0) Try.runUnderlying86 Try.sizeOf88 rfl rfl e2) rfl rfl ?_
  obtain ⟨y3, k4, H⟩ := H
  refine g_h 7 255 rfl (by kernel_rfl) (y_ldS Try.isAgg88 Try.sizeOf88 rfl rfl) k4 rfl rfl ?_
  refine g_p 8 511 rfl (by kernel_rfl) (y_move rfl) rfl rfl ?_
  refine g_p 9 1023 rfl (by kernel_rfl) (y_move rfl) rfl rfl ?_
  obtain ⟨a5, e6, H⟩ := H
  refine g_p 10 2047 rfl (by kernel_rfl) (f_idx (s := p0) Try.runUnderlying86 Try.sizeOf88 rfl rfl e6) rfl rfl ?_
  obtain ⟨y7, k8, H⟩ := H
  refine g_h 11 4095 rfl (by kernel_rfl) (y_ldS Try.isAgg88 Try.sizeOf88 rfl rfl) k8 rfl rfl ?_
  obtain ⟨a9, e10, H⟩ := H
  refine g_p 12 8191 rfl (by kernel_rfl) (f_idx (s := p0) Try.runUnderlying86 Try.sizeOf88 rfl rfl e10) rfl rfl ?_
  refine g_e 13 16383 [] (by kernel_rfl) rfl (by kernel_rfl) (f_store (vs := y3.cells) Try.sizeOf88 rfl rfl cellsOfStruct rfl (by intro v hv; exact ones_S_merge_front _ v hv) H) rfl rfl ?_
  rintro _ h11 ⟨rfl, H⟩
  refine ⟨trivial, ?_⟩
  obtain ⟨a12, e13, H⟩ := H
  refine g_p 14 32767 rfl (by kernel_rfl) (f_idx (s := p0) Try.runUnderlying86 Try.sizeOf88 rfl rfl e13) rfl rfl ?_
  refine g_e 15 65535 [] (by kernel_rfl) rfl (by kernel_rfl) (f_store (vs := y7.cells) Try.sizeOf88 rfl rfl cellsOfStruct rfl (by intro v hv; exact ones_S_merge_front _ v hv) H) rfl rfl ?_
  rintro _ h14 ⟨rfl, H⟩
  refine ⟨trivial, ?_⟩
  refine g_d (by kernel_rfl) ?_
  exact tr_end0 rfl ⟨rfl, H⟩
def F.container_heap_down.j1 (Q : Bool → H → Prop) (x1 : Int) (x7 : Int) (h : H) : Prop :=
  Q (decide (x7 > x1)) h
def F.container_heap_down.j4 (Q : Bool → H → Prop) (C1 : (Option Addr) → Int → Int → Int → H → Prop) (x0 : Option Addr) (x1 : Int) (x2 : Int) (x7 : Int) (x9 : Int) (h : H) : Prop :=
  nn x0 fun a2 =>
  ldL h a2 fun y3 =>
  F.merge_fronts_Less y3 x9 x7 h fun r4 h1 =>
  ((!r4) = true →
  F.container_heap_down.j1 Q x1 x7 h1) ∧
  ((!r4) = false →
  nn x0 fun a7 =>
  ldL h1 a7 fun y8 =>
  F.merge_fronts_Swap y8 x7 x9 h1 fun h6 =>
  C1 x0 x1 x2 x9 h6)
def F.container_heap_down.j5 (Q : Bool → H → Prop) (C1 : (Option Addr) → Int → Int → Int → H → Prop) (x0 : Option Addr) (x1 : Int) (x2 : Int) (x7 : Int) (x9 : Int) (x10 : Int) (x33 : Bool) (h : H) : Prop :=
  (x33 = true →
  F.container_heap_down.j4 Q C1 x0 x1 x2 x7 x10 h) ∧
  (x33 = false →
  F.container_heap_down.j4 Q C1 x0 x1 x2 x7 x9 h)
def F.container_heap_down.j3 (Q : Bool → H → Prop) (C1 : (Option Addr) → Int → Int → Int → H → Prop) (x0 : Option Addr) (x1 : Int) (x2 : Int) (x7 : Int) (x8 : Int) (h : H) : Prop :=
  ((decide ((IntKind.wrap .i64 (x8 + 1)) < x2)) = true →
  nn x0 fun a12 =>
  ldL h a12 fun y13 =>
  F.merge_fronts_Less y13 (IntKind.wrap .i64 (x8 + 1)) x8 h fun r14 h11 =>
  F.container_heap_down.j5 Q C1 x0 x1 x2 x7 x8 (IntKind.wrap .i64 (x8 + 1)) r14 h11) ∧
  ((decide ((IntKind.wrap .i64 (x8 + 1)) < x2)) = false →
  F.container_heap_down.j5 Q C1 x0 x1 x2 x7 x8 (IntKind.wrap .i64 (x8 + 1)) false h)
def F.container_heap_down.j6 (Q : Bool → H → Prop) (C1 : (Option Addr) → Int → Int → Int → H → Prop) (x0 : Option Addr) (x1 : Int) (x2 : Int) (x7 : Int) (x8 : Int) (x21 : Bool) (h : H) : Prop :=
  (x21 = true →
  F.container_heap_down.j1 Q x1 x7 h) ∧
  (x21 = false →
  F.container_heap_down.j3 Q C1 x0 x1 x2 x7 x8 h)
def F.container_heap_down.l2 (Q : Bool → H → Prop) : Nat → (Option Addr) → Int → Int → Int → H → Prop
  | 0, _, _, _, _, _ => False
  | q2 + 1, x0, x1, x2, x7, h =>
    ((decide ((IntKind.wrap .i64 ((IntKind.wrap .i64 (2 * x7)) + 1)) ≥ x2)) = true →
    F.container_heap_down.j6 Q (F.container_heap_down.l2 Q q2) x0 x1 x2 x7 (IntKind.wrap .i64 ((IntKind.wrap .i64 (2 * x7)) + 1)) true h) ∧
    ((decide ((IntKind.wrap .i64 ((IntKind.wrap .i64 (2 * x7)) + 1)) ≥ x2)) = false →
    F.container_heap_down.j6 Q (F.container_heap_down.l2 Q q2) x0 x1 x2 x7 (IntKind.wrap .i64 ((IntKind.wrap .i64 (2 * x7)) + 1)) (decide ((IntKind.wrap .i64 ((IntKind.wrap .i64 (2 * x7)) + 1)) < 0)) h)
/-- container/heap.down -/
def F.container_heap_down (p0 : Option Addr) (p1 : Int) (p2 : Int) (h : H) (Q : Bool → H → Prop) : Prop :=
  ∃ m, F.container_heap_down.l2 Q m p0 p1 p2 p1 h
theorem F.container_heap_down_ok {p0 : Option Addr} {p1 : Int} {p2 : Int} {h : H} {Q : Bool → H → Prop} (H : F.container_heap_down p0 p1 p2 h Q) : Fn PP 54 ([(.iface 90 (.pointer p0)), (.int .i64 p1), (.int .i64 p2)] : List Value).toArray h fun r h' => ∃ r0, r = (.bool r0) ∧ Q r0 h' := by
  unfold F.container_heap_down at H
  refine fn_of Try.func54 Try.ntmps54 rfl rfl fun w0 => ?_
  refine tr_sub [(0, (.iface 90 (.pointer p0))), (1, (.int .i64 p1)), (2, (.int .i64 p2))] ⟨rfl, rfl, rfl, trivial⟩ ?_
  refine tr_seq ?_
  refine tr_region ?_
  refine tr_p (y_assign rfl) rfl rfl ?_
  refine tr_nil ?_
  refine tr_thenN ?_
  refine tr_seq ?_
  refine tr_region ?_
  refine tr_p (y_move rfl) rfl rfl ?_
  refine tr_p (y_assign rfl) rfl rfl ?_
  refine tr_nil ?_
  refine tr_thenN ?_
  refine tr_seq_j (fun L' h => ∃ (x1 : Int) (x7 : Int), L' = [(1, (.int .i64 x1)), (7, (.int .i64 x7))] ∧ F.container_heap_down.j1 Q x1 x7 h) ?_ ?_
  · rintro L' h ⟨x1, x7, rfl, H⟩
    unfold F.container_heap_down.j1 at H
    refine tr_seq ?_
    refine tr_region ?_
    refine tr_p (y_move rfl) rfl rfl ?_
    refine tr_p (y_move rfl) rfl rfl ?_
    refine tr_p (y_gtr rfl rfl) rfl rfl ?_
    refine tr_p (y_assign rfl) rfl rfl ?_
    refine tr_nil ?_
    refine tr_thenN ?_
    refine tr_ret ?_
    exact tr_ret1 rfl rfl ⟨_, rfl, H⟩
  · refine tr_block ?_
    obtain ⟨m17, H⟩ := H
    refine tr_sub [(0, (.iface 90 (.pointer p0))), (1, (.int .i64 p1)), (2, (.int .i64 p2)), (7, (.int .i64 p1))] ⟨rfl, rfl, rfl, rfl, trivial⟩ ?_
    refine tr_loop_j (fun m L' h => ∃ (x0 : Option Addr) (x1 : Int) (x2 : Int) (x7 : Int), L' = [(0, (.iface 90 (.pointer x0))), (1, (.int .i64 x1)), (2, (.int .i64 x2)), (7, (.int .i64 x7))] ∧ F.container_heap_down.l2 Q m x0 x1 x2 x7 h) ?_ ?_ m17 ⟨_, _, _, _, rfl, H⟩
    · rintro L' h ⟨_, _, _, _, _, H⟩; exact H
    · rintro q2 L' h ⟨x0, x1, x2, x7, rfl, H⟩
      unfold F.container_heap_down.l2 at H
      refine tr_block ?_
      refine tr_seq ?_
      refine tr_region ?_
      refine tr_p (y_move rfl) rfl rfl ?_
      refine tr_p (y_mul rfl rfl) rfl rfl ?_
      refine tr_p (y_add rfl rfl) rfl rfl ?_
      refine tr_p (y_assign rfl) rfl rfl ?_
      refine tr_nil ?_
      refine tr_thenN ?_
      refine tr_seq_j (fun L' h => ∃ (x0 : Option Addr) (x1 : Int) (x2 : Int) (x7 : Int) (x8 : Int), L' = [(0, (.iface 90 (.pointer x0))), (1, (.int .i64 x1)), (2, (.int .i64 x2)), (7, (.int .i64 x7)), (8, (.int .i64 x8))] ∧ F.container_heap_down.j3 Q (F.container_heap_down.l2 Q q2) x0 x1 x2 x7 x8 h) ?_ ?_
      · rintro L' h ⟨x0, x1, x2, x7, x8, rfl, H⟩
        unfold F.container_heap_down.j3 at H
        refine tr_seq ?_
        refine tr_region ?_
        refine tr_p (y_move rfl) rfl rfl ?_
        refine tr_p (y_assign rfl) rfl rfl ?_
        refine tr_nil ?_
        refine tr_thenN ?_
        refine tr_seq_j (fun L' h => ∃ (x0 : Option Addr) (x1 : Int) (x2 : Int) (x7 : Int) (x9 : Int), L' = [(0, (.iface 90 (.pointer x0))), (1, (.int .i64 x1)), (2, (.int .i64 x2)), (7, (.int .i64 x7)), (9, (.int .i64 x9))] ∧ F.container_heap_down.j4 Q (F.container_heap_down.l2 Q q2) x0 x1 x2 x7 x9 h) ?_ ?_
        · rintro L' h ⟨x0, x1, x2, x7, x9, rfl, H⟩
          unfold F.container_heap_down.j4 at H
          refine tr_seq ?_
          refine tr_seq ?_
          refine tr_region ?_
          refine tr_p (y_move rfl) rfl rfl ?_
          refine tr_p (y_move rfl) rfl rfl ?_
          refine tr_p (y_move rfl) rfl rfl ?_
          refine tr_e (e_invL mt_90_Less Try.isAgg86 Try.call75 rfl rfl (inv_map (fun y3 H => (F.merge_fronts_Less_ok H)) H)) rfl rfl ?_
          rintro _ h1 ⟨r4, rfl, H⟩
          refine tr_p (y_not rfl) rfl rfl ?_
          refine tr_nil ?_
          refine tr_thenN ?_
          refine tr_cond rfl (fun g5 => ?_) (fun g5 => ?_)
          · replace H := H.1 g5
            refine tr_exit ?_
            refine tr_thenE ?_
            refine tr_miss rfl ?_
            refine tr_thenE ?_
            refine tr_hit ?_
            refine tr_thenN ?_
            exact tr_join [(1, (.int .i64 x1)), (7, (.int .i64 x7))] ⟨rfl, rfl, trivial⟩ ⟨_, _, rfl, H⟩
          · replace H := H.2 g5
            refine tr_skip ?_
            refine tr_thenN ?_
            refine tr_seq ?_
            refine tr_region ?_
            refine tr_p (y_move rfl) rfl rfl ?_
            refine tr_p (y_move rfl) rfl rfl ?_
            refine tr_p (y_move rfl) rfl rfl ?_
            refine tr_e (e_invL mt_90_Swap Try.isAgg86 Try.call76 rfl rfl (inv_map (fun y8 H => (F.merge_fronts_Swap_ok H)) H)) rfl rfl ?_
            rintro _ h6 ⟨rfl, H⟩
            refine tr_nil ?_
            refine tr_thenN ?_
            refine tr_region ?_
            refine tr_p (y_move rfl) rfl rfl ?_
            refine tr_p (y_assign rfl) rfl rfl ?_
            refine tr_nil ?_
            refine tr_blockN ?_
            refine tr_thenN ?_
            exact tr_join [(0, (.iface 90 (.pointer x0))), (1, (.int .i64 x1)), (2, (.int .i64 x2)), (7, (.int .i64 x9))] ⟨rfl, rfl, rfl, rfl, trivial⟩ ⟨_, _, _, _, rfl, H⟩
        · refine tr_seq ?_
          refine tr_region ?_
          refine tr_p (y_move rfl) rfl rfl ?_
          refine tr_p (y_add rfl rfl) rfl rfl ?_
          refine tr_p (y_assign rfl) rfl rfl ?_
          refine tr_nil ?_
          refine tr_thenN ?_
          refine tr_seq_j (fun L' h => ∃ (x0 : Option Addr) (x1 : Int) (x2 : Int) (x7 : Int) (x9 : Int) (x10 : Int) (x33 : Bool), L' = [(0, (.iface 90 (.pointer x0))), (1, (.int .i64 x1)), (2, (.int .i64 x2)), (7, (.int .i64 x7)), (9, (.int .i64 x9)), (10, (.int .i64 x10)), (33, (.bool x33))] ∧ F.container_heap_down.j5 Q (F.container_heap_down.l2 Q q2) x0 x1 x2 x7 x9 x10 x33 h) ?_ ?_
          · rintro L' h ⟨x0, x1, x2, x7, x9, x10, x33, rfl, H⟩
            unfold F.container_heap_down.j5 at H
            refine tr_cond rfl (fun g9 => ?_) (fun g9 => ?_)
            · replace H := H.1 g9
              refine tr_region ?_
              refine tr_p (y_move rfl) rfl rfl ?_
              refine tr_p (y_assign rfl) rfl rfl ?_
              refine tr_nil ?_
              refine tr_thenN ?_
              exact tr_join [(0, (.iface 90 (.pointer x0))), (1, (.int .i64 x1)), (2, (.int .i64 x2)), (7, (.int .i64 x7)), (9, (.int .i64 x10))] ⟨rfl, rfl, rfl, rfl, rfl, trivial⟩ ⟨_, _, _, _, _, rfl, H⟩
            · replace H := H.2 g9
              refine tr_skip ?_
              refine tr_thenN ?_
              exact tr_join [(0, (.iface 90 (.pointer x0))), (1, (.int .i64 x1)), (2, (.int .i64 x2)), (7, (.int .i64 x7)), (9, (.int .i64 x9))] ⟨rfl, rfl, rfl, rfl, rfl, trivial⟩ ⟨_, _, _, _, _, rfl, H⟩
          · refine tr_region ?_
            refine tr_p (y_move rfl) rfl rfl ?_
            refine tr_p (y_move rfl) rfl rfl ?_
            refine tr_p (y_lss rfl rfl) rfl rfl ?_
            refine tr_p (y_move rfl) rfl rfl ?_
            refine tr_split (t := 28) rfl (fun g10 => ?_) (fun g10 => ?_)
            · replace H := H.1 g10
              refine tr_p (y_move rfl) rfl rfl ?_
              refine tr_p (y_move rfl) rfl rfl ?_
              refine tr_p (y_move rfl) rfl rfl ?_
              refine tr_e (e_invL mt_90_Less Try.isAgg86 Try.call75 rfl rfl (inv_map (fun y13 H => (F.merge_fronts_Less_ok H)) H)) rfl rfl ?_
              rintro _ h11 ⟨r14, rfl, H⟩
              refine tr_p (y_pick_t rfl rfl) rfl rfl ?_
              refine tr_nil ?_
              refine tr_thenN ?_
              exact tr_join [(0, (.iface 90 (.pointer x0))), (1, (.int .i64 x1)), (2, (.int .i64 x2)), (7, (.int .i64 x7)), (9, (.int .i64 x8)), (10, (.int .i64 (IntKind.wrap .i64 (x8 + 1)))), (33, (.bool r14))] ⟨rfl, rfl, rfl, rfl, rfl, rfl, rfl, trivial⟩ ⟨_, _, _, _, _, _, _, rfl, H⟩
            · replace H := H.2 g10
              refine tr_s rfl rfl ?_
              refine tr_s rfl rfl ?_
              refine tr_s rfl rfl ?_
              refine tr_s rfl rfl ?_
              refine tr_p (y_pick_f rfl rfl) rfl rfl ?_
              refine tr_nil ?_
              refine tr_thenN ?_
              exact tr_join [(0, (.iface 90 (.pointer x0))), (1, (.int .i64 x1)), (2, (.int .i64 x2)), (7, (.int .i64 x7)), (9, (.int .i64 x8)), (10, (.int .i64 (IntKind.wrap .i64 (x8 + 1)))), (33, (.bool false))] ⟨rfl, rfl, rfl, rfl, rfl, rfl, rfl, trivial⟩ ⟨_, _, _, _, _, _, _, rfl, H⟩
      · refine tr_seq_j (fun L' h => ∃ (x0 : Option Addr) (x1 : Int) (x2 : Int) (x7 : Int) (x8 : Int) (x21 : Bool), L' = [(0, (.iface 90 (.pointer x0))), (1, (.int .i64 x1)), (2, (.int .i64 x2)), (7, (.int .i64 x7)), (8, (.int .i64 x8)), (21, (.bool x21))] ∧ F.container_heap_down.j6 Q (F.container_heap_down.l2 Q q2) x0 x1 x2 x7 x8 x21 h) ?_ ?_
        · rintro L' h ⟨x0, x1, x2, x7, x8, x21, rfl, H⟩
          unfold F.container_heap_down.j6 at H
          refine tr_cond rfl (fun g15 => ?_) (fun g15 => ?_)
          · replace H := H.1 g15
            refine tr_exit ?_
            refine tr_thenE ?_
            refine tr_miss rfl ?_
            refine tr_thenE ?_
            refine tr_hit ?_
            refine tr_thenN ?_
            exact tr_join [(1, (.int .i64 x1)), (7, (.int .i64 x7))] ⟨rfl, rfl, trivial⟩ ⟨_, _, rfl, H⟩
          · replace H := H.2 g15
            refine tr_skip ?_
            refine tr_thenN ?_
            exact tr_join [(0, (.iface 90 (.pointer x0))), (1, (.int .i64 x1)), (2, (.int .i64 x2)), (7, (.int .i64 x7)), (8, (.int .i64 x8))] ⟨rfl, rfl, rfl, rfl, rfl, trivial⟩ ⟨_, _, _, _, _, rfl, H⟩
        · refine tr_region ?_
          refine tr_p (y_move rfl) rfl rfl ?_
          refine tr_p (y_move rfl) rfl rfl ?_
          refine tr_p (y_geq rfl rfl) rfl rfl ?_
          refine tr_p (y_move rfl) rfl rfl ?_
          refine tr_split (t := 18) rfl (fun g16 => ?_) (fun g16 => ?_)
          · replace H := H.1 g16
            refine tr_s rfl rfl ?_
            refine tr_s rfl rfl ?_
            refine tr_p (y_pick_t rfl rfl) rfl rfl ?_
            refine tr_nil ?_
            refine tr_thenN ?_
            exact tr_join [(0, (.iface 90 (.pointer x0))), (1, (.int .i64 x1)), (2, (.int .i64 x2)), (7, (.int .i64 x7)), (8, (.int .i64 (IntKind.wrap .i64 ((IntKind.wrap .i64 (2 * x7)) + 1)))), (21, (.bool true))] ⟨rfl, rfl, rfl, rfl, rfl, rfl, trivial⟩ ⟨_, _, _, _, _, _, rfl, H⟩
          · replace H := H.2 g16
            refine tr_p (y_move rfl) rfl rfl ?_
            refine tr_p (y_lss rfl rfl) rfl rfl ?_
            refine tr_p (y_pick_f rfl rfl) rfl rfl ?_
            refine tr_nil ?_
            refine tr_thenN ?_
            exact tr_join [(0, (.iface 90 (.pointer x0))), (1, (.int .i64 x1)), (2, (.int .i64 x2)), (7, (.int .i64 x7)), (8, (.int .i64 (IntKind.wrap .i64 ((IntKind.wrap .i64 (2 * x7)) + 1)))), (21, (.bool (decide ((IntKind.wrap .i64 ((IntKind.wrap .i64 (2 * x7)) + 1)) < 0))))] ⟨rfl, rfl, rfl, rfl, rfl, rfl, trivial⟩ ⟨_, _, _, _, _, _, rfl, H⟩
def F.container_heap_Init.l1 (Q : H → Prop) : Nat → (Option Addr) → Int → Int → H → Prop
  | 0, _, _, _, _ => False
  | q1 + 1, x0, x2, x3, h =>
    ((decide (x3 ≥ 0)) = true →
    F.container_heap_down x0 x3 x2 h fun r8 h7 =>
    (F.container_heap_Init.l1 Q q1) x0 x2 (IntKind.wrap .i64 (x3 - 1)) h7) ∧
    ((decide (x3 ≥ 0)) = false →
    Q h)
/-- container/heap.Init -/
def F.container_heap_Init (p0 : Option Addr) (h : H) (Q : H → Prop) : Prop :=
  nn p0 fun a2 =>
  ldL h a2 fun y3 =>
  F.merge_fronts_Len y3 h fun r4 h1 =>
  (2 : Int) ≠ 0 ∧
  ∃ m, F.container_heap_Init.l1 Q m p0 r4 (IntKind.wrap .i64 ((IntKind.wrap .i64 (Int.tdiv r4 2)) - 1)) h1
theorem F.container_heap_Init_ok {p0 : Option Addr} {h : H} {Q : H → Prop} (H : F.container_heap_Init p0 h Q) : Fn PP 48 ([(.iface 90 (.pointer p0))] : List Value).toArray h fun r h' => r = .tuple #[] ∧ Q  h' := by
  unfold F.container_heap_Init at H
  refine fn_of Try.func48 Try.ntmps48 rfl rfl fun w0 => ?_
  refine tr_sub [(0, (.iface 90 (.pointer p0)))] ⟨rfl, trivial⟩ ?_
  refine tr_seq ?_
  refine tr_region ?_
  refine tr_p (y_move rfl) rfl rfl ?_
  refine tr_e (e_invL mt_90_Len Try.isAgg86 Try.call74 rfl rfl (inv_map (fun y3 H => (F.merge_fronts_Len_ok H)) H)) rfl rfl ?_
  rintro _ h1 ⟨r4, rfl, H⟩
  refine tr_p (y_assign rfl) rfl rfl ?_
  refine tr_nil ?_
  refine tr_thenN ?_
  refine tr_seq ?_
  refine tr_region ?_
  refine tr_p (y_move rfl) rfl rfl ?_
  obtain ⟨e5, H⟩ := H
  refine tr_p (y_quo rfl rfl e5) rfl rfl ?_
  refine tr_p (y_sub rfl rfl) rfl rfl ?_
  refine tr_p (y_assign rfl) rfl rfl ?_
  refine tr_nil ?_
  refine tr_thenN ?_
  refine tr_block ?_
  obtain ⟨m9, H⟩ := H
  refine tr_sub [(0, (.iface 90 (.pointer p0))), (2, (.int .i64 r4)), (3, (.int .i64 (IntKind.wrap .i64 ((IntKind.wrap .i64 (Int.tdiv r4 2)) - 1))))] ⟨rfl, rfl, rfl, trivial⟩ ?_
  refine tr_loop_j (fun m L' h => ∃ (x0 : Option Addr) (x2 : Int) (x3 : Int), L' = [(0, (.iface 90 (.pointer x0))), (2, (.int .i64 x2)), (3, (.int .i64 x3))] ∧ F.container_heap_Init.l1 Q m x0 x2 x3 h) ?_ ?_ m9 ⟨_, _, _, rfl, H⟩
  · rintro L' h ⟨_, _, _, _, H⟩; exact H
  · rintro q1 L' h ⟨x0, x2, x3, rfl, H⟩
    unfold F.container_heap_Init.l1 at H
    refine tr_seq ?_
    refine tr_seq ?_
    refine tr_region ?_
    refine tr_p (y_move rfl) rfl rfl ?_
    refine tr_p (y_geq rfl rfl) rfl rfl ?_
    refine tr_nil ?_
    refine tr_thenN ?_
    refine tr_cond rfl (fun g6 => ?_) (fun g6 => ?_)
    · replace H := H.1 g6
      refine tr_skip ?_
      refine tr_thenN ?_
      refine tr_seq ?_
      refine tr_block ?_
      refine tr_region ?_
      refine tr_p (y_move rfl) rfl rfl ?_
      refine tr_p (y_move rfl) rfl rfl ?_
      refine tr_p (y_move rfl) rfl rfl ?_
      refine tr_e (e_call Try.call54 rfl (F.container_heap_down_ok H)) rfl rfl ?_
      rintro _ h7 ⟨r8, rfl, H⟩
      refine tr_nil ?_
      refine tr_blockN ?_
      refine tr_thenN ?_
      refine tr_region ?_
      refine tr_p (y_move rfl) rfl rfl ?_
      refine tr_p (y_sub rfl rfl) rfl rfl ?_
      refine tr_p (y_assign rfl) rfl rfl ?_
      refine tr_nil ?_
      refine tr_thenN ?_
      exact tr_join [(0, (.iface 90 (.pointer x0))), (2, (.int .i64 x2)), (3, (.int .i64 (IntKind.wrap .i64 (x3 - 1))))] ⟨rfl, rfl, rfl, trivial⟩ ⟨_, _, _, rfl, H⟩
    · replace H := H.2 g6
      refine tr_exit ?_
      refine tr_thenE ?_
      refine tr_thenE ?_
      refine tr_hit ?_
      exact tr_end0 rfl ⟨rfl, H⟩
/-- (*spate/merge.fronts).Pop -/
def F.merge_fronts_Pop (p0 : Option Addr) (h : H) (Q : Value → H → Prop) : Prop :=
  nn p0 fun a1 =>
  ldL h a1 fun y3 =>
  idxA y3 (IntKind.wrap .i64 ((y3.len : Int) - 1)) 2 fun a5 =>
  ld_S_merge_front h a5 fun y7 =>
  new h (((⟨(⟨none, 0, 0⟩ : Sl), 0⟩ : S_merge_front) : S_merge_front).cells.toArray) ty_88 fun a10 h9 =>
  stH h9 a10 y7.cells fun h11 =>
  cutL y3 0 (IntKind.wrap .i64 ((y3.len : Int) - 1)) 2 fun s13 =>
  nn p0 fun a14 =>
  stH h11 a14 [s13.enc] fun h16 =>
  ld_S_merge_front h16 a10 fun y17 =>
  Q (.iface 88 (.agg y17.cells.toArray)) h16
theorem F.merge_fronts_Pop_ok {p0 : Option Addr} {h : H} {Q : Value → H → Prop} (H : F.merge_fronts_Pop p0 h Q) : Fn PP 77 ([(.pointer p0)] : List Value).toArray h fun r h' => ∃ r0, r = r0 ∧ Q r0 h' := by
  unfold F.merge_fronts_Pop at H
  refine fn_of Try.func77 Try.ntmps77 rfl rfl fun w0 => ?_
  refine tr_sub [(0, (.pointer p0))] ⟨rfl, trivial⟩ ?_
  refine tr_seq ?_
  refine tr_region ?_
  refine tr_p (y_assign rfl) rfl rfl ?_
  refine tr_nil ?_
  refine tr_thenN ?_
  refine tr_seq ?_
  refine tr_region ?_
  refine tr_p (y_move rfl) rfl rfl ?_
  obtain ⟨a1, e2, H⟩ := H
  refine tr_p (f_nn rfl e2) rfl rfl ?_
  obtain ⟨y3, k4, H⟩ := H
  refine tr_h (y_ld Try.isAgg86 rfl) k4 rfl rfl ?_
  refine tr_p (y_assign rfl) rfl rfl ?_
  refine tr_nil ?_
  refine tr_thenN ?_
  refine tr_seq ?_
  refine tr_region ?_
  refine tr_p (y_move rfl) rfl rfl ?_
  refine tr_p (y_move rfl) rfl rfl ?_
  refine tr_p (y_len (ts := #[]) Try.runUnderlying86 (o := y3.ptr) (n := y3.len) (cap := y3.cap) rfl) rfl rfl ?_
  refine tr_p (y_sub rfl rfl) rfl rfl ?_
  obtain ⟨a5, e6, H⟩ := H
  refine tr_p (f_idx (s := y3) Try.runUnderlying86 Try.sizeOf88 rfl rfl e6) rfl rfl ?_
  obtain ⟨y7, k8, H⟩ := H
  refine tr_h (y_ldS Try.isAgg88 Try.sizeOf88 rfl rfl) k8 rfl rfl ?_
  refine tr_e (f_alloc (cs := ((⟨(⟨none, 0, 0⟩ : Sl), 0⟩ : S_merge_front) : S_merge_front).cells.toArray) Try.zeroValue88 rfl H) rfl rfl ?_
  rintro _ h9 ⟨a10, rfl, H⟩
  refine tr_e (f_store (vs := y7.cells) Try.sizeOf88 rfl rfl cellsOfStruct rfl (by intro v hv; exact ones_S_merge_front _ v hv) H) rfl rfl ?_
  rintro _ h11 ⟨rfl, H⟩
  refine tr_nil ?_
  refine tr_thenN ?_
  refine tr_seq ?_
  refine tr_region ?_
  refine tr_p (y_move rfl) rfl rfl ?_
  refine tr_p (y_move rfl) rfl rfl ?_
  refine tr_p (y_move rfl) rfl rfl ?_
  refine tr_p (y_len (ts := #[]) Try.runUnderlying86 (o := y3.ptr) (n := y3.len) (cap := y3.cap) rfl) rfl rfl ?_
  refine tr_p (y_sub rfl rfl) rfl rfl ?_
  obtain ⟨s13, e12, H⟩ := H
  refine tr_p (f_cutL (s := y3) none (some (.i64, (IntKind.wrap .i64 ((y3.len : Int) - 1)))) Try.runUnderlying86 Try.sizeOf88 rfl rfl rfl e12) rfl rfl ?_
  obtain ⟨a14, e15, H⟩ := H
  refine tr_p (f_nn rfl e15) rfl rfl ?_
  refine tr_e (f_store (vs := [s13.enc]) Try.sizeOf86 rfl rfl rfl rfl (one1 rfl) H) rfl rfl ?_
  rintro _ h16 ⟨rfl, H⟩
  refine tr_nil ?_
  refine tr_thenN ?_
  refine tr_seq ?_
  refine tr_region ?_
  obtain ⟨y17, k18, H⟩ := H
  refine tr_h (y_ldS Try.isAgg88 Try.sizeOf88 rfl rfl) k18 rfl rfl ?_
  refine tr_p (y_mkif Try.runUnderlying88 rfl rfl) rfl rfl ?_
  refine tr_p (y_assign rfl) rfl rfl ?_
  refine tr_nil ?_
  refine tr_thenN ?_
  refine tr_ret ?_
  exact tr_ret1 rfl rfl ⟨_, rfl, H⟩
/-- container/heap.Pop -/
def F.container_heap_Pop (p0 : Option Addr) (h : H) (Q : Value → H → Prop) : Prop :=
  nn p0 fun a2 =>
  ldL h a2 fun y3 =>
  F.merge_fronts_Len y3 h fun r4 h1 =>
  nn p0 fun a6 =>
  ldL h1 a6 fun y7 =>
  F.merge_fronts_Swap y7 0 (IntKind.wrap .i64 (r4 - 1)) h1 fun h5 =>
  F.container_heap_down p0 0 (IntKind.wrap .i64 (r4 - 1)) h5 fun r9 h8 =>
  F.merge_fronts_Pop p0 h8 fun r11 h10 =>
  Q r11 h10
theorem F.container_heap_Pop_ok {p0 : Option Addr} {h : H} {Q : Value → H → Prop} (H : F.container_heap_Pop p0 h Q) : Fn PP 49 ([(.iface 90 (.pointer p0))] : List Value).toArray h fun r h' => ∃ r0, r = r0 ∧ Q r0 h' := by
  unfold F.container_heap_Pop at H
  refine fn_of Try.func49 Try.ntmps49 rfl rfl fun w0 => ?_
  refine tr_sub [(0, (.iface 90 (.pointer p0)))] ⟨rfl, trivial⟩ ?_
  refine tr_seq ?_
  refine tr_region ?_
  refine tr_p (y_assign rfl) rfl rfl ?_
  refine tr_nil ?_
  refine tr_thenN ?_
  refine tr_seq ?_
  refine tr_region ?_
  refine tr_p (y_move rfl) rfl rfl ?_
  refine tr_e (e_invL mt_90_Len Try.isAgg86 Try.call74 rfl rfl (inv_map (fun y3 H => (F.merge_fronts_Len_ok H)) H)) rfl rfl ?_
  rintro _ h1 ⟨r4, rfl, H⟩
  refine tr_p (y_sub rfl rfl) rfl rfl ?_
  refine tr_p (y_assign rfl) rfl rfl ?_
  refine tr_nil ?_
  refine tr_thenN ?_
  refine tr_seq ?_
  refine tr_region ?_
  refine tr_p (y_move rfl) rfl rfl ?_
  refine tr_p (y_move rfl) rfl rfl ?_
  refine tr_e (e_invL mt_90_Swap Try.isAgg86 Try.call76 rfl rfl (inv_map (fun y7 H => (F.merge_fronts_Swap_ok H)) H)) rfl rfl ?_
  rintro _ h5 ⟨rfl, H⟩
  refine tr_nil ?_
  refine tr_thenN ?_
  refine tr_seq ?_
  refine tr_region ?_
  refine tr_p (y_move rfl) rfl rfl ?_
  refine tr_p (y_move rfl) rfl rfl ?_
  refine tr_e (e_call Try.call54 rfl (F.container_heap_down_ok H)) rfl rfl ?_
  rintro _ h8 ⟨r9, rfl, H⟩
  refine tr_nil ?_
  refine tr_thenN ?_
  refine tr_seq ?_
  refine tr_region ?_
  refine tr_p (y_move rfl) rfl rfl ?_
  refine tr_e (e_invP mt_90_Pop Try.call77 rfl rfl (F.merge_fronts_Pop_ok H)) rfl rfl ?_
  rintro r11 h10 ⟨_, rfl, H⟩
  refine tr_p (y_assign rfl) rfl rfl ?_
  refine tr_nil ?_
  refine tr_thenN ?_
  refine tr_ret ?_
  exact tr_ret1 rfl rfl ⟨_, rfl, H⟩
def F.container_heap_up.j2 (Q : H → Prop) (C1 : (Option Addr) → Int → H → Prop) (x0 : Option Addr) (x1 : Int) (x4 : Int) (h : H) : Prop :=
  nn x0 fun a3 =>
  ldL h a3 fun y4 =>
  F.merge_fronts_Swap y4 x4 x1 h fun h2 =>
  C1 x0 x4 h2
def F.container_heap_up.j3 (Q : H → Prop) (C1 : (Option Addr) → Int → H → Prop) (x0 : Option Addr) (x1 : Int) (x4 : Int) (x17 : Bool) (h : H) : Prop :=
  (x17 = true →
  Q h) ∧
  (x17 = false →
  F.container_heap_up.j2 Q C1 x0 x1 x4 h)
def F.container_heap_up.l1 (Q : H → Prop) : Nat → (Option Addr) → Int → H → Prop
  | 0, _, _, _ => False
  | q1 + 1, x0, x1, h =>
    (2 : Int) ≠ 0 ∧
    ((((IntKind.wrap .i64 (Int.tdiv (IntKind.wrap .i64 (x1 - 1)) 2)) == x1)) = true →
    F.container_heap_up.j3 Q (F.container_heap_up.l1 Q q1) x0 x1 (IntKind.wrap .i64 (Int.tdiv (IntKind.wrap .i64 (x1 - 1)) 2)) true h) ∧
    ((((IntKind.wrap .i64 (Int.tdiv (IntKind.wrap .i64 (x1 - 1)) 2)) == x1)) = false →
    nn x0 fun a8 =>
    ldL h a8 fun y9 =>
    F.merge_fronts_Less y9 x1 (IntKind.wrap .i64 (Int.tdiv (IntKind.wrap .i64 (x1 - 1)) 2)) h fun r10 h7 =>
    F.container_heap_up.j3 Q (F.container_heap_up.l1 Q q1) x0 x1 (IntKind.wrap .i64 (Int.tdiv (IntKind.wrap .i64 (x1 - 1)) 2)) (!r10) h7)
/-- container/heap.up -/
def F.container_heap_up (p0 : Option Addr) (p1 : Int) (h : H) (Q : H → Prop) : Prop :=
  ∃ m, F.container_heap_up.l1 Q m p0 p1 h
theorem F.container_heap_up_ok {p0 : Option Addr} {p1 : Int} {h : H} {Q : H → Prop} (H : F.container_heap_up p0 p1 h Q) : Fn PP 55 ([(.iface 90 (.pointer p0)), (.int .i64 p1)] : List Value).toArray h fun r h' => r = .tuple #[] ∧ Q  h' := by
  unfold F.container_heap_up at H
  refine fn_of Try.func55 Try.ntmps55 rfl rfl fun w0 => ?_
  refine tr_sub [(0, (.iface 90 (.pointer p0))), (1, (.int .i64 p1))] ⟨rfl, rfl, trivial⟩ ?_
  refine tr_block ?_
  obtain ⟨m11, H⟩ := H
  refine tr_sub [(0, (.iface 90 (.pointer p0))), (1, (.int .i64 p1))] ⟨rfl, rfl, trivial⟩ ?_
  refine tr_loop_j (fun m L' h => ∃ (x0 : Option Addr) (x1 : Int), L' = [(0, (.iface 90 (.pointer x0))), (1, (.int .i64 x1))] ∧ F.container_heap_up.l1 Q m x0 x1 h) ?_ ?_ m11 ⟨_, _, rfl, H⟩
  · rintro L' h ⟨_, _, _, H⟩; exact H
  · rintro q1 L' h ⟨x0, x1, rfl, H⟩
    unfold F.container_heap_up.l1 at H
    refine tr_block ?_
    refine tr_seq ?_
    refine tr_region ?_
    refine tr_p (y_move rfl) rfl rfl ?_
    refine tr_p (y_sub rfl rfl) rfl rfl ?_
    obtain ⟨e1, H⟩ := H
    refine tr_p (y_quo rfl rfl e1) rfl rfl ?_
    refine tr_p (y_assign rfl) rfl rfl ?_
    refine tr_nil ?_
    refine tr_thenN ?_
    refine tr_seq_j (fun L' h => ∃ (x0 : Option Addr) (x1 : Int) (x4 : Int), L' = [(0, (.iface 90 (.pointer x0))), (1, (.int .i64 x1)), (4, (.int .i64 x4))] ∧ F.container_heap_up.j2 Q (F.container_heap_up.l1 Q q1) x0 x1 x4 h) ?_ ?_
    · rintro L' h ⟨x0, x1, x4, rfl, H⟩
      unfold F.container_heap_up.j2 at H
      refine tr_seq ?_
      refine tr_region ?_
      refine tr_p (y_move rfl) rfl rfl ?_
      refine tr_p (y_move rfl) rfl rfl ?_
      refine tr_p (y_move rfl) rfl rfl ?_
      refine tr_e (e_invL mt_90_Swap Try.isAgg86 Try.call76 rfl rfl (inv_map (fun y4 H => (F.merge_fronts_Swap_ok H)) H)) rfl rfl ?_
      rintro _ h2 ⟨rfl, H⟩
      refine tr_nil ?_
      refine tr_thenN ?_
      refine tr_region ?_
      refine tr_p (y_move rfl) rfl rfl ?_
      refine tr_p (y_assign rfl) rfl rfl ?_
      refine tr_nil ?_
      refine tr_blockN ?_
      refine tr_thenN ?_
      exact tr_join [(0, (.iface 90 (.pointer x0))), (1, (.int .i64 x4))] ⟨rfl, rfl, trivial⟩ ⟨_, _, rfl, H⟩
    · refine tr_seq_j (fun L' h => ∃ (x0 : Option Addr) (x1 : Int) (x4 : Int) (x17 : Bool), L' = [(0, (.iface 90 (.pointer x0))), (1, (.int .i64 x1)), (4, (.int .i64 x4)), (17, (.bool x17))] ∧ F.container_heap_up.j3 Q (F.container_heap_up.l1 Q q1) x0 x1 x4 x17 h) ?_ ?_
      · rintro L' h ⟨x0, x1, x4, x17, rfl, H⟩
        unfold F.container_heap_up.j3 at H
        refine tr_cond rfl (fun g5 => ?_) (fun g5 => ?_)
        · replace H := H.1 g5
          refine tr_exit ?_
          refine tr_thenE ?_
          refine tr_miss rfl ?_
          refine tr_thenE ?_
          refine tr_hit ?_
          exact tr_end0 rfl ⟨rfl, H⟩
        · replace H := H.2 g5
          refine tr_skip ?_
          refine tr_thenN ?_
          exact tr_join [(0, (.iface 90 (.pointer x0))), (1, (.int .i64 x1)), (4, (.int .i64 x4))] ⟨rfl, rfl, rfl, trivial⟩ ⟨_, _, _, rfl, H⟩
      · refine tr_region ?_
        refine tr_p (y_move rfl) rfl rfl ?_
        refine tr_p (y_move rfl) rfl rfl ?_
        refine tr_p (y_eql rfl rfl) rfl rfl ?_
        refine tr_p (y_move rfl) rfl rfl ?_
        refine tr_split (t := 11) rfl (fun g6 => ?_) (fun g6 => ?_)
        · replace H := H.1 g6
          refine tr_s rfl rfl ?_
          refine tr_s rfl rfl ?_
          refine tr_s rfl rfl ?_
          refine tr_s rfl rfl ?_
          refine tr_s rfl rfl ?_
          refine tr_p (y_pick_t rfl rfl) rfl rfl ?_
          refine tr_nil ?_
          refine tr_thenN ?_
          exact tr_join [(0, (.iface 90 (.pointer x0))), (1, (.int .i64 x1)), (4, (.int .i64 (IntKind.wrap .i64 (Int.tdiv (IntKind.wrap .i64 (x1 - 1)) 2)))), (17, (.bool true))] ⟨rfl, rfl, rfl, rfl, trivial⟩ ⟨_, _, _, _, rfl, H⟩
        · replace H := H.2 g6
          refine tr_p (y_move rfl) rfl rfl ?_
          refine tr_p (y_move rfl) rfl rfl ?_
          refine tr_p (y_move rfl) rfl rfl ?_
          refine tr_e (e_invL mt_90_Less Try.isAgg86 Try.call75 rfl rfl (inv_map (fun y9 H => (F.merge_fronts_Less_ok H)) H)) rfl rfl ?_
          rintro _ h7 ⟨r10, rfl, H⟩
          refine tr_p (y_not rfl) rfl rfl ?_
          refine tr_p (y_pick_f rfl rfl) rfl rfl ?_
          refine tr_nil ?_
          refine tr_thenN ?_
          exact tr_join [(0, (.iface 90 (.pointer x0))), (1, (.int .i64 x1)), (4, (.int .i64 (IntKind.wrap .i64 (Int.tdiv (IntKind.wrap .i64 (x1 - 1)) 2)))), (17, (.bool (!r10)))] ⟨rfl, rfl, rfl, rfl, trivial⟩ ⟨_, _, _, _, rfl, H⟩
/-- container/heap.Fix -/
def F.container_heap_Fix (p0 : Option Addr) (p1 : Int) (h : H) (Q : H → Prop) : Prop :=
  nn p0 fun a2 =>
  ldL h a2 fun y3 =>
  F.merge_fronts_Len y3 h fun r4 h1 =>
  F.container_heap_down p0 p1 r4 h1 fun r6 h5 =>
  ((!r6) = true →
  F.container_heap_up p0 p1 h5 fun h8 =>
  Q h8) ∧
  ((!r6) = false →
  Q h5)
theorem F.container_heap_Fix_ok {p0 : Option Addr} {p1 : Int} {h : H} {Q : H → Prop} (H : F.container_heap_Fix p0 p1 h Q) : Fn PP 50 ([(.iface 90 (.pointer p0)), (.int .i64 p1)] : List Value).toArray h fun r h' => r = .tuple #[] ∧ Q  h' := by
  unfold F.container_heap_Fix at H
  refine fn_of Try.func50 Try.ntmps50 rfl rfl fun w0 => ?_
  refine tr_sub [(0, (.iface 90 (.pointer p0))), (1, (.int .i64 p1))] ⟨rfl, rfl, trivial⟩ ?_
  refine tr_seq ?_
  refine tr_region ?_
  refine tr_p (y_move rfl) rfl rfl ?_
  refine tr_p (y_move rfl) rfl rfl ?_
  refine tr_p (y_move rfl) rfl rfl ?_
  refine tr_e (e_invL mt_90_Len Try.isAgg86 Try.call74 rfl rfl (inv_map (fun y3 H => (F.merge_fronts_Len_ok H)) H)) rfl rfl ?_
  rintro _ h1 ⟨r4, rfl, H⟩
  refine tr_e (e_call Try.call54 rfl (F.container_heap_down_ok H)) rfl rfl ?_
  rintro _ h5 ⟨r6, rfl, H⟩
  refine tr_p (y_not rfl) rfl rfl ?_
  refine tr_nil ?_
  refine tr_thenN ?_
  refine tr_cond rfl (fun g7 => ?_) (fun g7 => ?_)
  · replace H := H.1 g7
    refine tr_region ?_
    refine tr_p (y_move rfl) rfl rfl ?_
    refine tr_p (y_move rfl) rfl rfl ?_
    refine tr_e (e_call Try.call55 rfl (F.container_heap_up_ok H)) rfl rfl ?_
    rintro _ h8 ⟨rfl, H⟩
    refine tr_nil ?_
    exact tr_end0 rfl ⟨rfl, H⟩
  · replace H := H.2 g7
    refine tr_skip ?_
    exact tr_end0 rfl ⟨rfl, H⟩
def F.merge_Rows.j3 (Q : Sl → H → Prop) (C1 : Int → Addr → Sl → H → Prop) (x0 : Int) (x5 : Addr) (x8 : Sl) (h : H) : Prop :=
  ldL h x5 fun y17 =>
  idxA y17 0 2 fun a19 =>
  ldL h (a19.add 0) fun y21 =>
  idxA y21 0 7 fun a23 =>
  ld_S_api_Row h a23 fun y25 =>
  newL h ((y25.cells).toArray) ty_66 1 fun s28 h27 =>
  runL PP (Builtin.append_ #[51, 51] 51 #[x8.enc, s28.enc]) h27 fun s30 h29 =>
  ldL h29 x5 fun y31 =>
  ldL h29 x5 fun y33 =>
  idxA y33 0 2 fun a35 =>
  ldL h29 (a35.add 0) fun y37 =>
  cutL y37 1 (y37.len : Int) 7 fun s40 =>
  idxA y31 0 2 fun a41 =>
  stH h29 (a41.add 0) [s40.enc] fun h43 =>
  ldL h43 x5 fun y44 =>
  idxA y44 0 2 fun a46 =>
  ldL h43 (a46.add 0) fun y48 =>
  ((((y48.len : Int) == 0)) = true →
  F.container_heap_Pop (some x5) h43 fun r52 h51 =>
  C1 x0 x5 s30 h51) ∧
  ((((y48.len : Int) == 0)) = false →
  F.container_heap_Fix (some x5) 0 h43 fun h53 =>
  C1 x0 x5 s30 h53)
def F.merge_Rows.j4 (Q : Sl → H → Prop) (C1 : Int → Addr → Sl → H → Prop) (x0 : Int) (x5 : Addr) (x8 : Sl) (x36 : Bool) (h : H) : Prop :=
  (x36 = true →
  F.merge_Rows.j3 Q C1 x0 x5 x8 h) ∧
  (x36 = false →
  Q x8 h)
def F.merge_Rows.l2 (Q : Sl → H → Prop) : Nat → Int → Addr → Sl → H → Prop
  | 0, _, _, _, _ => False
  | q2 + 1, x0, x5, x8, h =>
    ldL h x5 fun y55 =>
    ((decide ((y55.len : Int) > 0)) = true →
    F.merge_Rows.j4 Q (F.merge_Rows.l2 Q q2) x0 x5 x8 (decide ((x8.len : Int) < x0)) h) ∧
    ((decide ((y55.len : Int) > 0)) = false →
    F.merge_Rows.j4 Q (F.merge_Rows.l2 Q q2) x0 x5 x8 false h)
def F.merge_Rows.l1 (Q : Sl → H → Prop) : Nat → Int → Addr → Sl → Int → Int → H → Prop
  | 0, _, _, _, _, _, _ => False
  | q1 + 1, x0, x5, x9, x10, x11, h =>
    ((decide (x11 < x10)) = true →
    idxA x9 x11 1 fun a4 =>
    ldL h a4 fun y6 =>
    ((decide ((y6.len : Int) > 0)) = true →
    ldL h x5 fun y9 =>
    newL h (((⟨y6, x11⟩ : S_merge_front).cells).toArray) ty_88 1 fun s12 h11 =>
    runL PP (Builtin.append_ #[86, 86] 86 #[y9.enc, s12.enc]) h11 fun s14 h13 =>
    stH h13 x5 [s14.enc] fun h15 =>
    (F.merge_Rows.l1 Q q1) x0 x5 x9 x10 (IntKind.wrap .i64 (x11 + 1)) h15) ∧
    ((decide ((y6.len : Int) > 0)) = false →
    (F.merge_Rows.l1 Q q1) x0 x5 x9 x10 (IntKind.wrap .i64 (x11 + 1)) h)) ∧
    ((decide (x11 < x10)) = false →
    F.container_heap_Init (some x5) h fun h16 =>
    ∃ m, F.merge_Rows.l2 Q m x0 x5 (⟨none, 0, 0⟩ : Sl) h16)
/-- spate/merge.Rows -/
def F.merge_Rows (p0 : Int) (p1 : Sl) (h : H) (Q : Sl → H → Prop) : Prop :=
  new h #[(⟨none, 0, 0⟩ : Sl).enc] ty_86 fun a2 h1 =>
  ∃ m, F.merge_Rows.l1 Q m p0 a2 p1 (p1.len : Int) 0 h1
theorem F.merge_Rows_ok {p0 : Int} {p1 : Sl} {h : H} {Q : Sl → H → Prop} (H : F.merge_Rows p0 p1 h Q) : Fn PP 31 ([(.int .i64 p0), p1.enc] : List Value).toArray h fun r h' => ∃ r0, r = r0.enc ∧ Q r0 h' := by
  unfold F.merge_Rows at H
  refine fn_of Try.func31 Try.ntmps31 rfl rfl fun w0 => ?_
  refine tr_sub [(0, (.int .i64 p0)), (1, p1.enc)] ⟨rfl, rfl, trivial⟩ ?_
  refine tr_seq ?_
  refine tr_region ?_
  refine tr_p (y_assign rfl) rfl rfl ?_
  refine tr_nil ?_
  refine tr_thenN ?_
  refine tr_seq ?_
  refine tr_region ?_
  refine tr_e (f_alloc (cs := #[(⟨none, 0, 0⟩ : Sl).enc]) Try.zeroValue86 rfl H) rfl rfl ?_
  rintro _ h1 ⟨a2, rfl, H⟩
  refine tr_nil ?_
  refine tr_thenN ?_
  refine tr_seq ?_
  refine tr_seq ?_
  refine tr_region ?_
  refine tr_p (y_move rfl) rfl rfl ?_
  refine tr_p (y_len (ts := #[]) Try.runUnderlying53 (o := p1.ptr) (n := p1.len) (cap := p1.cap) rfl) rfl rfl ?_
  refine tr_p (y_move rfl) rfl rfl ?_
  refine tr_nil ?_
  refine tr_thenN ?_
  refine tr_block ?_
  obtain ⟨m59, H⟩ := H
  refine tr_sub [(0, (.int .i64 p0)), (5, (.pointer (some a2))), (9, p1.enc), (10, (.int .i64 (p1.len : Int))), (11, (.int .i64 0))] ⟨rfl, rfl, rfl, rfl, rfl, trivial⟩ ?_
  refine tr_loop_j (fun m L' h => ∃ (x0 : Int) (x5 : Addr) (x9 : Sl) (x10 : Int) (x11 : Int), L' = [(0, (.int .i64 x0)), (5, (.pointer (some x5))), (9, x9.enc), (10, (.int .i64 x10)), (11, (.int .i64 x11))] ∧ F.merge_Rows.l1 Q m x0 x5 x9 x10 x11 h) ?_ ?_ m59 ⟨_, _, _, _, _, rfl, H⟩
  · rintro L' h ⟨_, _, _, _, _, _, H⟩; exact H
  · rintro q1 L' h ⟨x0, x5, x9, x10, x11, rfl, H⟩
    unfold F.merge_Rows.l1 at H
    refine tr_seq ?_
    refine tr_region ?_
    refine tr_p (y_lss rfl rfl) rfl rfl ?_
    refine tr_nil ?_
    refine tr_thenN ?_
    refine tr_seq ?_
    refine tr_cond rfl (fun g3 => ?_) (fun g3 => ?_)
    · replace H := H.1 g3
      refine tr_skip ?_
      refine tr_thenN ?_
      refine tr_seq ?_
      refine tr_block ?_
      refine tr_seq ?_
      refine tr_region ?_
      refine tr_p (y_move rfl) rfl rfl ?_
      obtain ⟨a4, e5, H⟩ := H
      refine tr_p (f_idx (s := x9) Try.runUnderlying53 Try.sizeOf51 rfl rfl e5) rfl rfl ?_
      obtain ⟨y6, k7, H⟩ := H
      refine tr_h (y_ld Try.isAgg51 rfl) k7 rfl rfl ?_
      refine tr_p (y_assign rfl) rfl rfl ?_
      refine tr_p (y_assign rfl) rfl rfl ?_
      refine tr_nil ?_
      refine tr_thenN ?_
      refine tr_seq ?_
      refine tr_region ?_
      refine tr_p (y_move rfl) rfl rfl ?_
      refine tr_p (y_len (ts := #[]) Try.runUnderlying51 (o := y6.ptr) (n := y6.len) (cap := y6.cap) rfl) rfl rfl ?_
      refine tr_p (y_gtr rfl rfl) rfl rfl ?_
      refine tr_nil ?_
      refine tr_thenN ?_
      refine tr_cond rfl (fun g8 => ?_) (fun g8 => ?_)
      · replace H := H.1 g8
        refine tr_region ?_
        obtain ⟨y9, k10, H⟩ := H
        refine tr_h (y_ld Try.isAgg86 rfl) k10 rfl rfl ?_
        refine tr_p (y_move rfl) rfl rfl ?_
        refine tr_p (y_move rfl) rfl rfl ?_
        refine tr_p (f_build rfl (bd_88_0_1 y6 x11)) rfl rfl ?_
        refine tr_e (f_buildL (cs := ((⟨y6, x11⟩ : S_merge_front).cells).toArray) rfl rfl (bl_86_1_0 (⟨y6, x11⟩ : S_merge_front)) H) rfl rfl ?_
        rintro _ h11 ⟨s12, rfl, H⟩
        refine tr_e (f_app rfl H) rfl rfl ?_
        rintro _ h13 ⟨s14, rfl, H⟩
        refine tr_e (f_store (vs := [s14.enc]) Try.sizeOf86 rfl rfl rfl rfl (one1 rfl) H) rfl rfl ?_
        rintro _ h15 ⟨rfl, H⟩
        refine tr_nil ?_
        refine tr_blockN ?_
        refine tr_thenN ?_
        refine tr_region ?_
        refine tr_p (y_add rfl rfl) rfl rfl ?_
        refine tr_p (y_move rfl) rfl rfl ?_
        refine tr_nil ?_
        refine tr_thenN ?_
        exact tr_join [(0, (.int .i64 x0)), (5, (.pointer (some x5))), (9, x9.enc), (10, (.int .i64 x10)), (11, (.int .i64 (IntKind.wrap .i64 (x11 + 1))))] ⟨rfl, rfl, rfl, rfl, rfl, trivial⟩ ⟨_, _, _, _, _, rfl, H⟩
      · replace H := H.2 g8
        refine tr_skip ?_
        refine tr_blockN ?_
        refine tr_thenN ?_
        refine tr_region ?_
        refine tr_p (y_add rfl rfl) rfl rfl ?_
        refine tr_p (y_move rfl) rfl rfl ?_
        refine tr_nil ?_
        refine tr_thenN ?_
        exact tr_join [(0, (.int .i64 x0)), (5, (.pointer (some x5))), (9, x9.enc), (10, (.int .i64 x10)), (11, (.int .i64 (IntKind.wrap .i64 (x11 + 1))))] ⟨rfl, rfl, rfl, rfl, rfl, trivial⟩ ⟨_, _, _, _, _, rfl, H⟩
    · replace H := H.2 g3
      refine tr_exit ?_
      refine tr_thenE ?_
      refine tr_thenE ?_
      refine tr_hit ?_
      refine tr_thenN ?_
      refine tr_seq ?_
      refine tr_region ?_
      refine tr_p (y_mkif Try.runUnderlying90 rfl rfl) rfl rfl ?_
      refine tr_e (e_call Try.call48 rfl (F.container_heap_Init_ok H)) rfl rfl ?_
      rintro _ h16 ⟨rfl, H⟩
      refine tr_nil ?_
      refine tr_thenN ?_
      refine tr_seq ?_
      refine tr_region ?_
      refine tr_p (y_assign rfl) rfl rfl ?_
      refine tr_nil ?_
      refine tr_thenN ?_
      refine tr_seq ?_
      refine tr_block ?_
      obtain ⟨m58, H⟩ := H
      refine tr_sub [(0, (.int .i64 x0)), (5, (.pointer (some x5))), (8, (⟨none, 0, 0⟩ : Sl).enc)] ⟨rfl, rfl, rfl, trivial⟩ ?_
      refine tr_loop_j (fun m L' h => ∃ (x0 : Int) (x5 : Addr) (x8 : Sl), L' = [(0, (.int .i64 x0)), (5, (.pointer (some x5))), (8, x8.enc)] ∧ F.merge_Rows.l2 Q m x0 x5 x8 h) ?_ ?_ m58 ⟨_, _, _, rfl, H⟩
      · rintro L' h ⟨_, _, _, _, H⟩; exact H
      · rintro q2 L' h ⟨x0, x5, x8, rfl, H⟩
        unfold F.merge_Rows.l2 at H
        refine tr_seq_j (fun L' h => ∃ (x0 : Int) (x5 : Addr) (x8 : Sl), L' = [(0, (.int .i64 x0)), (5, (.pointer (some x5))), (8, x8.enc)] ∧ F.merge_Rows.j3 Q (F.merge_Rows.l2 Q q2) x0 x5 x8 h) ?_ ?_
        · rintro L' h ⟨x0, x5, x8, rfl, H⟩
          unfold F.merge_Rows.j3 at H
          refine tr_block ?_
          refine tr_seq ?_
          refine tr_region ?_
          refine tr_p (y_move rfl) rfl rfl ?_
          obtain ⟨y17, k18, H⟩ := H
          refine tr_h (y_ld Try.isAgg86 rfl) k18 rfl rfl ?_
          obtain ⟨a19, e20, H⟩ := H
          refine tr_p (f_idx (s := y17) Try.runUnderlying86 Try.sizeOf88 rfl rfl e20) rfl rfl ?_
          refine tr_p (y_fa (off := 0) Try.runUnderlying88 fo_88_0 rfl) rfl rfl ?_
          obtain ⟨y21, k22, H⟩ := H
          refine tr_h (y_ld Try.isAgg51 rfl) k22 rfl rfl ?_
          obtain ⟨a23, e24, H⟩ := H
          refine tr_p (f_idx (s := y21) Try.runUnderlying51 Try.sizeOf66 rfl rfl e24) rfl rfl ?_
          obtain ⟨y25, k26, H⟩ := H
          refine tr_h (y_ldS Try.isAgg66 Try.sizeOf66 rfl rfl) k26 rfl rfl ?_
          refine tr_e (f_buildL (cs := (y25.cells).toArray) rfl rfl (bl_51_1_0 y25) H) rfl rfl ?_
          rintro _ h27 ⟨s28, rfl, H⟩
          refine tr_e (f_app rfl H) rfl rfl ?_
          rintro _ h29 ⟨s30, rfl, H⟩
          refine tr_p (y_assign rfl) rfl rfl ?_
          refine tr_nil ?_
          refine tr_thenN ?_
          refine tr_seq ?_
          refine tr_draw mixed [0, 0, 2, 6, 14, 30, 63, 127, 255] (by kernel_rfl) ?_
          obtain ⟨y31, k32, H⟩ := H
          refine g_h 0 1 rfl (by kernel_rfl) (y_ld Try.isAgg86 rfl) k32 rfl rfl ?_
          obtain ⟨y33, k34, H⟩ := H
          refine g_h 1 3 rfl (by kernel_rfl) (y_ld Try.isAgg86 rfl) k34 rfl rfl ?_
          obtain ⟨a35, e36, H⟩ := H
          refine g_p 2 7 rfl (by kernel_rfl) (f_idx (s := y33) Try.runUnderlying86 Try.sizeOf88 rfl rfl e36) rfl rfl ?_
          refine g_p 3 15 rfl (by kernel_rfl) (y_fa (off := 0) Try.runUnderlying88 fo_88_0 rfl) rfl rfl ?_
          obtain ⟨y37, k38, H⟩ := H
          refine g_h 4 31 rfl (by kernel_rfl) (y_ld Try.isAgg51 rfl) k38 rfl rfl ?_
          obtain ⟨s40, e39, H⟩ := H
          refine g_p 5 63 rfl (by kernel_rfl) (f_cutL (s := y37) (some (.i64, 1)) none Try.runUnderlying51 Try.sizeOf66 rfl rfl rfl e39) rfl rfl ?_
          obtain ⟨a41, e42, H⟩ := H
          refine g_p 6 127 rfl (by kernel_rfl) (f_idx (s := y31) Try.runUnderlying86 Try.sizeOf88 rfl rfl e42) rfl rfl ?_
          refine g_p 7 255 rfl (by kernel_rfl) (y_fa (off := 0) Try.runUnderlying88 fo_88_0 rfl) rfl rfl ?_
          refine g_e 8 511 [] (by kernel_rfl) rfl (by kernel_rfl) (f_store (vs := [s40.enc]) Try.sizeOf51 rfl rfl rfl rfl (one1 rfl) H) rfl rfl ?_
          rintro _ h43 ⟨rfl, H⟩
          refine ⟨trivial, ?_⟩
          refine g_d (by kernel_rfl) ?_
          refine tr_thenN ?_
          refine tr_seq ?_
          refine tr_region ?_
          obtain ⟨y44, k45, H⟩ := H
          refine tr_h (y_ld Try.isAgg86 rfl) k45 rfl rfl ?_
          obtain ⟨a46, e47, H⟩ := H
          refine tr_p (f_idx (s := y44) Try.runUnderlying86 Try.sizeOf88 rfl rfl e47) rfl rfl ?_
          refine tr_p (y_fa (off := 0) Try.runUnderlying88 fo_88_0 rfl) rfl rfl ?_
          obtain ⟨y48, k49, H⟩ := H
          refine tr_h (y_ld Try.isAgg51 rfl) k49 rfl rfl ?_
          refine tr_p (y_len (ts := #[]) Try.runUnderlying51 (o := y48.ptr) (n := y48.len) (cap := y48.cap) rfl) rfl rfl ?_
          refine tr_p (y_eql rfl rfl) rfl rfl ?_
          refine tr_nil ?_
          refine tr_thenN ?_
          refine tr_cond rfl (fun g50 => ?_) (fun g50 => ?_)
          · replace H := H.1 g50
            refine tr_region ?_
            refine tr_p (y_mkif Try.runUnderlying90 rfl rfl) rfl rfl ?_
            refine tr_e (e_call Try.call49 rfl (F.container_heap_Pop_ok H)) rfl rfl ?_
            rintro r52 h51 ⟨_, rfl, H⟩
            refine tr_nil ?_
            refine tr_blockN ?_
            refine tr_thenN ?_
            exact tr_join [(0, (.int .i64 x0)), (5, (.pointer (some x5))), (8, s30.enc)] ⟨rfl, rfl, rfl, trivial⟩ ⟨_, _, _, rfl, H⟩
          · replace H := H.2 g50
            refine tr_region ?_
            refine tr_p (y_mkif Try.runUnderlying90 rfl rfl) rfl rfl ?_
            refine tr_e (e_call Try.call50 rfl (F.container_heap_Fix_ok H)) rfl rfl ?_
            rintro _ h53 ⟨rfl, H⟩
            refine tr_nil ?_
            refine tr_blockN ?_
            refine tr_thenN ?_
            exact tr_join [(0, (.int .i64 x0)), (5, (.pointer (some x5))), (8, s30.enc)] ⟨rfl, rfl, rfl, trivial⟩ ⟨_, _, _, rfl, H⟩
        · refine tr_seq_j (fun L' h => ∃ (x0 : Int) (x5 : Addr) (x8 : Sl) (x36 : Bool), L' = [(0, (.int .i64 x0)), (5, (.pointer (some x5))), (8, x8.enc), (36, (.bool x36))] ∧ F.merge_Rows.j4 Q (F.merge_Rows.l2 Q q2) x0 x5 x8 x36 h) ?_ ?_
          · rintro L' h ⟨x0, x5, x8, x36, rfl, H⟩
            unfold F.merge_Rows.j4 at H
            refine tr_cond rfl (fun g54 => ?_) (fun g54 => ?_)
            · replace H := H.1 g54
              refine tr_skip ?_
              refine tr_thenN ?_
              exact tr_join [(0, (.int .i64 x0)), (5, (.pointer (some x5))), (8, x8.enc)] ⟨rfl, rfl, rfl, trivial⟩ ⟨_, _, _, rfl, H⟩
            · replace H := H.2 g54
              refine tr_exit ?_
              refine tr_thenE ?_
              refine tr_thenE ?_
              refine tr_hit ?_
              refine tr_thenN ?_
              refine tr_seq ?_
              refine tr_region ?_
              refine tr_p (y_move rfl) rfl rfl ?_
              refine tr_p (y_assign rfl) rfl rfl ?_
              refine tr_nil ?_
              refine tr_thenN ?_
              refine tr_ret ?_
              exact tr_ret1 rfl rfl ⟨_, rfl, H⟩
          · refine tr_region ?_
            obtain ⟨y55, k56, H⟩ := H
            refine tr_h (y_ld Try.isAgg86 rfl) k56 rfl rfl ?_
            refine tr_p (y_len (ts := #[]) Try.runUnderlying86 (o := y55.ptr) (n := y55.len) (cap := y55.cap) rfl) rfl rfl ?_
            refine tr_p (y_gtr rfl rfl) rfl rfl ?_
            refine tr_p (y_move rfl) rfl rfl ?_
            refine tr_split (t := 31) rfl (fun g57 => ?_) (fun g57 => ?_)
            · replace H := H.1 g57
              refine tr_p (y_move rfl) rfl rfl ?_
              refine tr_p (y_len (ts := #[]) Try.runUnderlying51 (o := x8.ptr) (n := x8.len) (cap := x8.cap) rfl) rfl rfl ?_
              refine tr_p (y_move rfl) rfl rfl ?_
              refine tr_p (y_lss rfl rfl) rfl rfl ?_
              refine tr_p (y_pick_t rfl rfl) rfl rfl ?_
              refine tr_nil ?_
              refine tr_thenN ?_
              exact tr_join [(0, (.int .i64 x0)), (5, (.pointer (some x5))), (8, x8.enc), (36, (.bool (decide ((x8.len : Int) < x0))))] ⟨rfl, rfl, rfl, rfl, trivial⟩ ⟨_, _, _, _, rfl, H⟩
            · replace H := H.2 g57
              refine tr_s rfl rfl ?_
              refine tr_s rfl rfl ?_
              refine tr_s rfl rfl ?_
              refine tr_s rfl rfl ?_
              refine tr_p (y_pick_f rfl rfl) rfl rfl ?_
              refine tr_nil ?_
              refine tr_thenN ?_
              exact tr_join [(0, (.int .i64 x0)), (5, (.pointer (some x5))), (8, x8.enc), (36, (.bool false))] ⟨rfl, rfl, rfl, rfl, trivial⟩ ⟨_, _, _, _, rfl, H⟩
end Go.Proofs.Ytidpbnbjpglhfaa.V
