/- Parts of the proof of MergeRows; no condition. -/
import Derived.Test.YtidpbnbjpglhfaaQMergeRows0
namespace Go.Proofs.Ytidpbnbjpglhfaa.V
open Go
set_option linter.unusedVariables false
set_option maxRecDepth 100000
/-- cmp.isNaN[int] -/
def F.cmp_isNaN_int (p0 : Int) (h : H) (Q : Bool → H → Prop) : Prop :=
  Q ((p0 != p0)) h
theorem F.cmp_isNaN_int_ok {p0 : Int} {h : H} {Q : Bool → H → Prop} (H : F.cmp_isNaN_int p0 h Q) : Fn PP 51 ([(.int .i64 p0)] : List Value).toArray h fun r h' => ∃ r0, r = (.bool r0) ∧ Q r0 h' := by
  unfold F.cmp_isNaN_int at H
  refine fn_of Try.func51 Try.ntmps51 rfl rfl fun w0 => ?_
  refine tr_sub [(0, (.int .i64 p0))] ⟨rfl, trivial⟩ ?_
  refine tr_seq ?_
  refine tr_region ?_
  refine tr_p (y_assign rfl) rfl rfl ?_
  refine tr_nil ?_
  refine tr_thenN ?_
  refine tr_seq ?_
  refine tr_region ?_
  refine tr_p (y_move rfl) rfl rfl ?_
  refine tr_p (y_move rfl) rfl rfl ?_
  refine tr_p (y_neq rfl rfl) rfl rfl ?_
  refine tr_p (y_assign rfl) rfl rfl ?_
  refine tr_nil ?_
  refine tr_thenN ?_
  refine tr_ret ?_
  exact tr_ret1 rfl rfl ⟨_, rfl, H⟩
/-- cmp.Compare[int] -/
def F.cmp_Compare_int (p0 : Int) (p1 : Int) (h : H) (Q : Int → H → Prop) : Prop :=
  F.cmp_isNaN_int p0 h fun r2 h1 =>
  F.cmp_isNaN_int p1 h1 fun r4 h3 =>
  (r2 = true →
  (r4 = true →
  Q 0 h3) ∧
  (r4 = false →
  Q (-1) h3)) ∧
  (r2 = false →
  (r4 = true →
  Q 1 h3) ∧
  (r4 = false →
  ((decide (p0 < p1)) = true →
  Q (-1) h3) ∧
  ((decide (p0 < p1)) = false →
  ((decide (p0 > p1)) = true →
  Q 1 h3) ∧
  ((decide (p0 > p1)) = false →
  Q 0 h3))))
theorem F.cmp_Compare_int_ok {p0 : Int} {p1 : Int} {h : H} {Q : Int → H → Prop} (H : F.cmp_Compare_int p0 p1 h Q) : Fn PP 43 ([(.int .i64 p0), (.int .i64 p1)] : List Value).toArray h fun r h' => ∃ r0, r = (.int .i64 r0) ∧ Q r0 h' := by
  unfold F.cmp_Compare_int at H
  refine fn_of Try.func43 Try.ntmps43 rfl rfl fun w0 => ?_
  refine tr_sub [(0, (.int .i64 p0)), (1, (.int .i64 p1))] ⟨rfl, rfl, trivial⟩ ?_
  refine tr_seq ?_
  refine tr_region ?_
  refine tr_p (y_assign rfl) rfl rfl ?_
  refine tr_nil ?_
  refine tr_thenN ?_
  refine tr_seq ?_
  refine tr_region ?_
  refine tr_p (y_move rfl) rfl rfl ?_
  refine tr_e (e_call Try.call51 rfl (F.cmp_isNaN_int_ok H)) rfl rfl ?_
  rintro _ h1 ⟨r2, rfl, H⟩
  refine tr_p (y_assign rfl) rfl rfl ?_
  refine tr_nil ?_
  refine tr_thenN ?_
  refine tr_seq ?_
  refine tr_region ?_
  refine tr_p (y_move rfl) rfl rfl ?_
  refine tr_e (e_call Try.call51 rfl (F.cmp_isNaN_int_ok H)) rfl rfl ?_
  rintro _ h3 ⟨r4, rfl, H⟩
  refine tr_p (y_assign rfl) rfl rfl ?_
  refine tr_nil ?_
  refine tr_thenN ?_
  refine tr_seq ?_
  refine tr_seq ?_
  refine tr_region ?_
  refine tr_p (y_move rfl) rfl rfl ?_
  refine tr_nil ?_
  refine tr_thenN ?_
  refine tr_cond rfl (fun g5 => ?_) (fun g5 => ?_)
  · replace H := H.1 g5
    refine tr_seq ?_
    refine tr_seq ?_
    refine tr_region ?_
    refine tr_p (y_move rfl) rfl rfl ?_
    refine tr_nil ?_
    refine tr_thenN ?_
    refine tr_cond rfl (fun g6 => ?_) (fun g6 => ?_)
    · replace H := H.1 g6
      refine tr_seq ?_
      refine tr_region ?_
      refine tr_p (y_assign rfl) rfl rfl ?_
      refine tr_nil ?_
      refine tr_thenN ?_
      refine tr_ret ?_
      refine tr_thenR ?_
      refine tr_thenR ?_
      exact tr_ret1 rfl rfl ⟨_, rfl, H⟩
    · replace H := H.2 g6
      refine tr_skip ?_
      refine tr_thenN ?_
      refine tr_seq ?_
      refine tr_region ?_
      refine tr_p (y_assign rfl) rfl rfl ?_
      refine tr_nil ?_
      refine tr_thenN ?_
      refine tr_ret ?_
      refine tr_thenR ?_
      exact tr_ret1 rfl rfl ⟨_, rfl, H⟩
  · replace H := H.2 g5
    refine tr_skip ?_
    refine tr_thenN ?_
    refine tr_seq ?_
    refine tr_seq ?_
    refine tr_region ?_
    refine tr_p (y_move rfl) rfl rfl ?_
    refine tr_nil ?_
    refine tr_thenN ?_
    refine tr_cond rfl (fun g7 => ?_) (fun g7 => ?_)
    · replace H := H.1 g7
      refine tr_seq ?_
      refine tr_region ?_
      refine tr_p (y_assign rfl) rfl rfl ?_
      refine tr_nil ?_
      refine tr_thenN ?_
      refine tr_ret ?_
      refine tr_thenR ?_
      exact tr_ret1 rfl rfl ⟨_, rfl, H⟩
    · replace H := H.2 g7
      refine tr_skip ?_
      refine tr_thenN ?_
      refine tr_seq ?_
      refine tr_seq ?_
      refine tr_region ?_
      refine tr_p (y_move rfl) rfl rfl ?_
      refine tr_p (y_move rfl) rfl rfl ?_
      refine tr_p (y_lss rfl rfl) rfl rfl ?_
      refine tr_nil ?_
      refine tr_thenN ?_
      refine tr_cond rfl (fun g8 => ?_) (fun g8 => ?_)
      · replace H := H.1 g8
        refine tr_seq ?_
        refine tr_region ?_
        refine tr_p (y_assign rfl) rfl rfl ?_
        refine tr_nil ?_
        refine tr_thenN ?_
        refine tr_ret ?_
        refine tr_thenR ?_
        exact tr_ret1 rfl rfl ⟨_, rfl, H⟩
      · replace H := H.2 g8
        refine tr_skip ?_
        refine tr_thenN ?_
        refine tr_seq ?_
        refine tr_seq ?_
        refine tr_region ?_
        refine tr_p (y_move rfl) rfl rfl ?_
        refine tr_p (y_move rfl) rfl rfl ?_
        refine tr_p (y_gtr rfl rfl) rfl rfl ?_
        refine tr_nil ?_
        refine tr_thenN ?_
        refine tr_cond rfl (fun g9 => ?_) (fun g9 => ?_)
        · replace H := H.1 g9
          refine tr_seq ?_
          refine tr_region ?_
          refine tr_p (y_assign rfl) rfl rfl ?_
          refine tr_nil ?_
          refine tr_thenN ?_
          refine tr_ret ?_
          refine tr_thenR ?_
          exact tr_ret1 rfl rfl ⟨_, rfl, H⟩
        · replace H := H.2 g9
          refine tr_skip ?_
          refine tr_thenN ?_
          refine tr_seq ?_
          refine tr_region ?_
          refine tr_p (y_assign rfl) rfl rfl ?_
          refine tr_nil ?_
          refine tr_thenN ?_
          refine tr_ret ?_
          exact tr_ret1 rfl rfl ⟨_, rfl, H⟩
/-- internal/bytealg.CompareString -/
def F.internal_bytealg_CompareString (p0 : ByteArray) (p1 : ByteArray) (h : H) (Q : Int → H → Prop) : Prop :=
  Q (cmpM p0 p1) h
theorem F.internal_bytealg_CompareString_ok {p0 : ByteArray} {p1 : ByteArray} {h : H} {Q : Int → H → Prop} (H : F.internal_bytealg_CompareString p0 p1 h Q) : Fn PP 52 ([(.string p0), (.string p1)] : List Value).toArray h fun r h' => ∃ r0, r = (.int .i64 r0) ∧ Q r0 h' := by
  unfold F.internal_bytealg_CompareString at H
  refine fn_of Try.func52 Try.ntmps52 rfl rfl fun w0 => ?_
  refine tr_sub [(0, (.string p0)), (1, (.string p1))] ⟨rfl, rfl, trivial⟩ ?_
  refine tr_seq ?_
  refine tr_region ?_
  refine tr_p (y_assign rfl) rfl rfl ?_
  refine tr_nil ?_
  refine tr_thenN ?_
  refine tr_seq ?_
  refine tr_region ?_
  refine tr_p (y_move rfl) rfl rfl ?_
  refine tr_p (y_move rfl) rfl rfl ?_
  refine tr_p (y_cmpS cmpS_56 rfl) rfl rfl ?_
  refine tr_p (y_assign rfl) rfl rfl ?_
  refine tr_nil ?_
  refine tr_thenN ?_
  refine tr_ret ?_
  exact tr_ret1 rfl rfl ⟨_, rfl, H⟩
/-- strings.Compare -/
def F.strings_Compare (p0 : ByteArray) (p1 : ByteArray) (h : H) (Q : Int → H → Prop) : Prop :=
  F.internal_bytealg_CompareString p0 p1 h fun r2 h1 =>
  Q r2 h1
theorem F.strings_Compare_ok {p0 : ByteArray} {p1 : ByteArray} {h : H} {Q : Int → H → Prop} (H : F.strings_Compare p0 p1 h Q) : Fn PP 44 ([(.string p0), (.string p1)] : List Value).toArray h fun r h' => ∃ r0, r = (.int .i64 r0) ∧ Q r0 h' := by
  unfold F.strings_Compare at H
  refine fn_of Try.func44 Try.ntmps44 rfl rfl fun w0 => ?_
  refine tr_sub [(0, (.string p0)), (1, (.string p1))] ⟨rfl, rfl, trivial⟩ ?_
  refine tr_seq ?_
  refine tr_region ?_
  refine tr_p (y_assign rfl) rfl rfl ?_
  refine tr_nil ?_
  refine tr_thenN ?_
  refine tr_seq ?_
  refine tr_region ?_
  refine tr_p (y_move rfl) rfl rfl ?_
  refine tr_p (y_move rfl) rfl rfl ?_
  refine tr_e (e_call Try.call52 rfl (F.internal_bytealg_CompareString_ok H)) rfl rfl ?_
  rintro _ h1 ⟨r2, rfl, H⟩
  refine tr_p (y_assign rfl) rfl rfl ?_
  refine tr_nil ?_
  refine tr_thenN ?_
  refine tr_ret ?_
  exact tr_ret1 rfl rfl ⟨_, rfl, H⟩
/-- cmp.isNaN[int64] -/
def F.cmp_isNaN_int64 (p0 : Int) (h : H) (Q : Bool → H → Prop) : Prop :=
  Q ((p0 != p0)) h
theorem F.cmp_isNaN_int64_ok {p0 : Int} {h : H} {Q : Bool → H → Prop} (H : F.cmp_isNaN_int64 p0 h Q) : Fn PP 53 ([(.int .i64 p0)] : List Value).toArray h fun r h' => ∃ r0, r = (.bool r0) ∧ Q r0 h' := by
  unfold F.cmp_isNaN_int64 at H
  refine fn_of Try.func53 Try.ntmps53 rfl rfl fun w0 => ?_
  refine tr_sub [(0, (.int .i64 p0))] ⟨rfl, trivial⟩ ?_
  refine tr_seq ?_
  refine tr_region ?_
  refine tr_p (y_assign rfl) rfl rfl ?_
  refine tr_nil ?_
  refine tr_thenN ?_
  refine tr_seq ?_
  refine tr_region ?_
  refine tr_p (y_move rfl) rfl rfl ?_
  refine tr_p (y_move rfl) rfl rfl ?_
  refine tr_p (y_neq rfl rfl) rfl rfl ?_
  refine tr_p (y_assign rfl) rfl rfl ?_
  refine tr_nil ?_
  refine tr_thenN ?_
  refine tr_ret ?_
  exact tr_ret1 rfl rfl ⟨_, rfl, H⟩
/-- cmp.Compare[int64] -/
def F.cmp_Compare_int64 (p0 : Int) (p1 : Int) (h : H) (Q : Int → H → Prop) : Prop :=
  F.cmp_isNaN_int64 p0 h fun r2 h1 =>
  F.cmp_isNaN_int64 p1 h1 fun r4 h3 =>
  (r2 = true →
  (r4 = true →
  Q 0 h3) ∧
  (r4 = false →
  Q (-1) h3)) ∧
  (r2 = false →
  (r4 = true →
  Q 1 h3) ∧
  (r4 = false →
  ((decide (p0 < p1)) = true →
  Q (-1) h3) ∧
  ((decide (p0 < p1)) = false →
  ((decide (p0 > p1)) = true →
  Q 1 h3) ∧
  ((decide (p0 > p1)) = false →
  Q 0 h3))))
theorem F.cmp_Compare_int64_ok {p0 : Int} {p1 : Int} {h : H} {Q : Int → H → Prop} (H : F.cmp_Compare_int64 p0 p1 h Q) : Fn PP 45 ([(.int .i64 p0), (.int .i64 p1)] : List Value).toArray h fun r h' => ∃ r0, r = (.int .i64 r0) ∧ Q r0 h' := by
  unfold F.cmp_Compare_int64 at H
  refine fn_of Try.func45 Try.ntmps45 rfl rfl fun w0 => ?_
  refine tr_sub [(0, (.int .i64 p0)), (1, (.int .i64 p1))] ⟨rfl, rfl, trivial⟩ ?_
  refine tr_seq ?_
  refine tr_region ?_
  refine tr_p (y_assign rfl) rfl rfl ?_
  refine tr_nil ?_
  refine tr_thenN ?_
  refine tr_seq ?_
  refine tr_region ?_
  refine tr_p (y_move rfl) rfl rfl ?_
  refine tr_e (e_call Try.call53 rfl (F.cmp_isNaN_int64_ok H)) rfl rfl ?_
  rintro _ h1 ⟨r2, rfl, H⟩
  refine tr_p (y_assign rfl) rfl rfl ?_
  refine tr_nil ?_
  refine tr_thenN ?_
  refine tr_seq ?_
  refine tr_region ?_
  refine tr_p (y_move rfl) rfl rfl ?_
  refine tr_e (e_call Try.call53 rfl (F.cmp_isNaN_int64_ok H)) rfl rfl ?_
  rintro _ h3 ⟨r4, rfl, H⟩
  refine tr_p (y_assign rfl) rfl rfl ?_
  refine tr_nil ?_
  refine tr_thenN ?_
  refine tr_seq ?_
  refine tr_seq ?_
  refine tr_region ?_
  refine tr_p (y_move rfl) rfl rfl ?_
  refine tr_nil ?_
  refine tr_thenN ?_
  refine tr_cond rfl (fun g5 => ?_) (fun g5 => ?_)
  · replace H := H.1 g5
    refine tr_seq ?_
    refine tr_seq ?_
    refine tr_region ?_
    refine tr_p (y_move rfl) rfl rfl ?_
    refine tr_nil ?_
    refine tr_thenN ?_
    refine tr_cond rfl (fun g6 => ?_) (fun g6 => ?_)
    · replace H := H.1 g6
      refine tr_seq ?_
      refine tr_region ?_
      refine tr_p (y_assign rfl) rfl rfl ?_
      refine tr_nil ?_
      refine tr_thenN ?_
      refine tr_ret ?_
      refine tr_thenR ?_
      refine tr_thenR ?_
      exact tr_ret1 rfl rfl ⟨_, rfl, H⟩
    · replace H := H.2 g6
      refine tr_skip ?_
      refine tr_thenN ?_
      refine tr_seq ?_
      refine tr_region ?_
      refine tr_p (y_assign rfl) rfl rfl ?_
      refine tr_nil ?_
      refine tr_thenN ?_
      refine tr_ret ?_
      refine tr_thenR ?_
      exact tr_ret1 rfl rfl ⟨_, rfl, H⟩
  · replace H := H.2 g5
    refine tr_skip ?_
    refine tr_thenN ?_
    refine tr_seq ?_
    refine tr_seq ?_
    refine tr_region ?_
    refine tr_p (y_move rfl) rfl rfl ?_
    refine tr_nil ?_
    refine tr_thenN ?_
    refine tr_cond rfl (fun g7 => ?_) (fun g7 => ?_)
    · replace H := H.1 g7
      refine tr_seq ?_
      refine tr_region ?_
      refine tr_p (y_assign rfl) rfl rfl ?_
      refine tr_nil ?_
      refine tr_thenN ?_
      refine tr_ret ?_
      refine tr_thenR ?_
      exact tr_ret1 rfl rfl ⟨_, rfl, H⟩
    · replace H := H.2 g7
      refine tr_skip ?_
      refine tr_thenN ?_
      refine tr_seq ?_
      refine tr_seq ?_
      refine tr_region ?_
      refine tr_p (y_move rfl) rfl rfl ?_
      refine tr_p (y_move rfl) rfl rfl ?_
      refine tr_p (y_lss rfl rfl) rfl rfl ?_
      refine tr_nil ?_
      refine tr_thenN ?_
      refine tr_cond rfl (fun g8 => ?_) (fun g8 => ?_)
      · replace H := H.1 g8
        refine tr_seq ?_
        refine tr_region ?_
        refine tr_p (y_assign rfl) rfl rfl ?_
        refine tr_nil ?_
        refine tr_thenN ?_
        refine tr_ret ?_
        refine tr_thenR ?_
        exact tr_ret1 rfl rfl ⟨_, rfl, H⟩
      · replace H := H.2 g8
        refine tr_skip ?_
        refine tr_thenN ?_
        refine tr_seq ?_
        refine tr_seq ?_
        refine tr_region ?_
        refine tr_p (y_move rfl) rfl rfl ?_
        refine tr_p (y_move rfl) rfl rfl ?_
        refine tr_p (y_gtr rfl rfl) rfl rfl ?_
        refine tr_nil ?_
        refine tr_thenN ?_
        refine tr_cond rfl (fun g9 => ?_) (fun g9 => ?_)
        · replace H := H.1 g9
          refine tr_seq ?_
          refine tr_region ?_
          refine tr_p (y_assign rfl) rfl rfl ?_
          refine tr_nil ?_
          refine tr_thenN ?_
          refine tr_ret ?_
          refine tr_thenR ?_
          exact tr_ret1 rfl rfl ⟨_, rfl, H⟩
        · replace H := H.2 g9
          refine tr_skip ?_
          refine tr_thenN ?_
          refine tr_seq ?_
          refine tr_region ?_
          refine tr_p (y_assign rfl) rfl rfl ?_
          refine tr_nil ?_
          refine tr_thenN ?_
          refine tr_ret ?_
          exact tr_ret1 rfl rfl ⟨_, rfl, H⟩
def F.cmp_Or_int.l1 (Q : Int → H → Prop) : Nat → Int → Sl → Int → Int → H → Prop
  | 0, _, _, _, _, _ => False
  | q1 + 1, x3, x6, x7, x8, h =>
    ((decide (x8 < x7)) = true →
    idxA x6 x8 1 fun a2 =>
    ldI .i64 h a2 fun y4 =>
    (((y4 != x3)) = true →
    Q y4 h) ∧
    (((y4 != x3)) = false →
    (F.cmp_Or_int.l1 Q q1) x3 x6 x7 (IntKind.wrap .i64 (x8 + 1)) h)) ∧
    ((decide (x8 < x7)) = false →
    Q x3 h)
/-- cmp.Or[int] -/
def F.cmp_Or_int (p0 : Sl) (h : H) (Q : Int → H → Prop) : Prop :=
  ∃ m, F.cmp_Or_int.l1 Q m 0 p0 (p0.len : Int) 0 h
theorem F.cmp_Or_int_ok {p0 : Sl} {h : H} {Q : Int → H → Prop} (H : F.cmp_Or_int p0 h Q) : Fn PP 42 ([p0.enc] : List Value).toArray h fun r h' => ∃ r0, r = (.int .i64 r0) ∧ Q r0 h' := by
  unfold F.cmp_Or_int at H
  refine fn_of Try.func42 Try.ntmps42 rfl rfl fun w0 => ?_
  refine tr_sub [(0, p0.enc)] ⟨rfl, trivial⟩ ?_
  refine tr_seq ?_
  refine tr_region ?_
  refine tr_p (y_assign rfl) rfl rfl ?_
  refine tr_nil ?_
  refine tr_thenN ?_
  refine tr_seq ?_
  refine tr_region ?_
  refine tr_p (y_assign rfl) rfl rfl ?_
  refine tr_nil ?_
  refine tr_thenN ?_
  refine tr_seq ?_
  refine tr_seq ?_
  refine tr_region ?_
  refine tr_p (y_move rfl) rfl rfl ?_
  refine tr_p (y_len (ts := #[]) Try.runUnderlying23 (o := p0.ptr) (n := p0.len) (cap := p0.cap) rfl) rfl rfl ?_
  refine tr_p (y_move rfl) rfl rfl ?_
  refine tr_nil ?_
  refine tr_thenN ?_
  refine tr_block ?_
  obtain ⟨m7, H⟩ := H
  refine tr_sub [(3, (.int .i64 0)), (6, p0.enc), (7, (.int .i64 (p0.len : Int))), (8, (.int .i64 0))] ⟨rfl, rfl, rfl, rfl, trivial⟩ ?_
  refine tr_loop_j (fun m L' h => ∃ (x3 : Int) (x6 : Sl) (x7 : Int) (x8 : Int), L' = [(3, (.int .i64 x3)), (6, x6.enc), (7, (.int .i64 x7)), (8, (.int .i64 x8))] ∧ F.cmp_Or_int.l1 Q m x3 x6 x7 x8 h) ?_ ?_ m7 ⟨_, _, _, _, rfl, H⟩
  · rintro L' h ⟨_, _, _, _, _, H⟩; exact H
  · rintro q1 L' h ⟨x3, x6, x7, x8, rfl, H⟩
    unfold F.cmp_Or_int.l1 at H
    refine tr_seq ?_
    refine tr_region ?_
    refine tr_p (y_lss rfl rfl) rfl rfl ?_
    refine tr_nil ?_
    refine tr_thenN ?_
    refine tr_seq ?_
    refine tr_cond rfl (fun g1 => ?_) (fun g1 => ?_)
    · replace H := H.1 g1
      refine tr_skip ?_
      refine tr_thenN ?_
      refine tr_seq ?_
      refine tr_block ?_
      refine tr_seq ?_
      refine tr_region ?_
      obtain ⟨a2, e3, H⟩ := H
      refine tr_p (f_idx (s := x6) Try.runUnderlying23 Try.sizeOf3 rfl rfl e3) rfl rfl ?_
      obtain ⟨y4, k5, H⟩ := H
      refine tr_h (y_ld Try.isAgg3 rfl) k5 rfl rfl ?_
      refine tr_p (y_assign rfl) rfl rfl ?_
      refine tr_nil ?_
      refine tr_thenN ?_
      refine tr_seq ?_
      refine tr_region ?_
      refine tr_p (y_move rfl) rfl rfl ?_
      refine tr_p (y_move rfl) rfl rfl ?_
      refine tr_p (y_neq rfl rfl) rfl rfl ?_
      refine tr_nil ?_
      refine tr_thenN ?_
      refine tr_cond rfl (fun g6 => ?_) (fun g6 => ?_)
      · replace H := H.1 g6
        refine tr_seq ?_
        refine tr_region ?_
        refine tr_p (y_move rfl) rfl rfl ?_
        refine tr_p (y_assign rfl) rfl rfl ?_
        refine tr_nil ?_
        refine tr_thenN ?_
        refine tr_ret ?_
        refine tr_blockR ?_
        refine tr_thenR ?_
        refine tr_thenR ?_
        refine tr_blockR ?_
        refine tr_thenR ?_
        exact tr_ret1 rfl rfl ⟨_, rfl, H⟩
      · replace H := H.2 g6
        refine tr_skip ?_
        refine tr_blockN ?_
        refine tr_thenN ?_
        refine tr_region ?_
        refine tr_p (y_add rfl rfl) rfl rfl ?_
        refine tr_p (y_move rfl) rfl rfl ?_
        refine tr_nil ?_
        refine tr_thenN ?_
        exact tr_join [(3, (.int .i64 x3)), (6, x6.enc), (7, (.int .i64 x7)), (8, (.int .i64 (IntKind.wrap .i64 (x8 + 1))))] ⟨rfl, rfl, rfl, rfl, trivial⟩ ⟨_, _, _, _, rfl, H⟩
    · replace H := H.2 g1
      refine tr_exit ?_
      refine tr_thenE ?_
      refine tr_thenE ?_
      refine tr_hit ?_
      refine tr_thenN ?_
      refine tr_seq ?_
      refine tr_region ?_
      refine tr_p (y_move rfl) rfl rfl ?_
      refine tr_p (y_assign rfl) rfl rfl ?_
      refine tr_nil ?_
      refine tr_thenN ?_
      refine tr_ret ?_
      exact tr_ret1 rfl rfl ⟨_, rfl, H⟩
/-- spate/merge.Compare -/
def F.merge_Compare (p0 : S_api_Cell) (p1 : S_api_Cell) (h : H) (Q : Int → H → Prop) : Prop :=
  new h p0.cells.toArray ty_34 fun a2 h1 =>
  new h1 p1.cells.toArray ty_34 fun a4 h3 =>
  ldI .i64 h3 (a2.add 0) fun y5 =>
  ldI .i64 h3 (a4.add 0) fun y7 =>
  ldS h3 (a2.add 1) fun y9 =>
  ldS h3 (a4.add 1) fun y11 =>
  ldI .i64 h3 (a2.add 2) fun y13 =>
  ldI .i64 h3 (a4.add 2) fun y15 =>
  F.cmp_Compare_int y5 y7 h3 fun r18 h17 =>
  cellH h17 (a4.add 2) = some (.int .i64 y15) ∧
  cellH h17 (a2.add 2) = some (.int .i64 y13) ∧
  cellH h17 (a4.add 1) = some (.string y11) ∧
  cellH h17 (a2.add 1) = some (.string y9) ∧
  F.strings_Compare y9 y11 h17 fun r24 h23 =>
  cellH h23 (a4.add 2) = some (.int .i64 y15) ∧
  cellH h23 (a2.add 2) = some (.int .i64 y13) ∧
  F.cmp_Compare_int64 y13 y15 h23 fun r28 h27 =>
  newL h27 #[(.int .i64 r18), (.int .i64 r24), (.int .i64 r28)] ty_3 3 fun s30 h29 =>
  F.cmp_Or_int s30 h29 fun r32 h31 =>
  Q r32 h31
theorem F.merge_Compare_ok {p0 : S_api_Cell} {p1 : S_api_Cell} {h : H} {Q : Int → H → Prop} (H : F.merge_Compare p0 p1 h Q) : Fn PP 26 ([(.agg p0.cells.toArray), (.agg p1.cells.toArray)] : List Value).toArray h fun r h' => ∃ r0, r = (.int .i64 r0) ∧ Q r0 h' := by
  unfold F.merge_Compare at H
  refine fn_of Try.func26 Try.ntmps26 rfl rfl fun w0 => ?_
  refine tr_sub [(0, (.agg p0.cells.toArray)), (1, (.agg p1.cells.toArray))] ⟨rfl, rfl, trivial⟩ ?_
  refine tr_seq ?_
  refine tr_region ?_
  refine tr_e (f_box (cs := p0.cells.toArray) rfl rfl H) rfl rfl ?_
  rintro _ h1 ⟨a2, rfl, H⟩
  refine tr_e (f_box (cs := p1.cells.toArray) rfl rfl H) rfl rfl ?_
  rintro _ h3 ⟨a4, rfl, H⟩
  refine tr_p (y_assign rfl) rfl rfl ?_
  refine tr_nil ?_
  refine tr_thenN ?_
  refine tr_seq ?_
  refine tr_draw mixed [0, 1, 0, 4, 15, 0, 32, 0, 128, 511, 0, 1024, 0, 4096, 16383, 32767, 65535, 131071] (by kernel_rfl) ?_
  refine g_p 0 1 rfl (by kernel_rfl) (y_fa (off := 0) Try.runUnderlying34 fo_34_0 rfl) rfl rfl ?_
  obtain ⟨y5, k6, H⟩ := H
  refine g_h 1 3 rfl (by kernel_rfl) (y_ld Try.isAgg3 rfl) k6 rfl rfl ?_
  refine g_p 2 7 rfl (by kernel_rfl) (y_fa (off := 0) Try.runUnderlying34 fo_34_0 rfl) rfl rfl ?_
  obtain ⟨y7, k8, H⟩ := H
  refine g_h 3 15 rfl (by kernel_rfl) (y_ld Try.isAgg3 rfl) k8 rfl rfl ?_
  refine g_p 5 47 rfl (by kernel_rfl) (y_fa (off := 1) Try.runUnderlying34 fo_34_1 rfl) rfl rfl ?_
  obtain ⟨y9, k10, H⟩ := H
  refine g_h 6 111 rfl (by kernel_rfl) (y_ld Try.isAgg9 rfl) k10 rfl rfl ?_
  refine g_p 7 239 rfl (by kernel_rfl) (y_fa (off := 1) Try.runUnderlying34 fo_34_1 rfl) rfl rfl ?_
  obtain ⟨y11, k12, H⟩ := H
  refine g_h 8 495 rfl (by kernel_rfl) (y_ld Try.isAgg9 rfl) k12 rfl rfl ?_
  refine g_p 10 1519 rfl (by kernel_rfl) (y_fa (off := 2) Try.runUnderlying34 fo_34_2 rfl) rfl rfl ?_
  obtain ⟨y13, k14, H⟩ := H
  refine g_h 11 3567 rfl (by kernel_rfl) (y_ld Try.isAgg2 rfl) k14 rfl rfl ?_
  refine g_p 12 7663 rfl (by kernel_rfl) (y_fa (off := 2) Try.runUnderlying34 fo_34_2 rfl) rfl rfl ?_
  obtain ⟨y15, k16, H⟩ := H
  refine g_h 13 15855 rfl (by kernel_rfl) (y_ld Try.isAgg2 rfl) k16 rfl rfl ?_
  refine g_e 4 15871 [(13, fun h => cellH h (a4.add 2) = some (.int .i64 y15)), (11, fun h => cellH h (a2.add 2) = some (.int .i64 y13)), (8, fun h => cellH h (a4.add 1) = some (.string y11)), (6, fun h => cellH h (a2.add 1) = some (.string y9))] (by kernel_rfl) rfl (by kernel_rfl) (e_call Try.call43 rfl (F.cmp_Compare_int_ok H)) rfl rfl ?_
  rintro _ h17 ⟨r18, rfl, H⟩
  obtain ⟨k19, k20, k21, k22, H⟩ := H
  refine ⟨And.intro k19 (And.intro k20 (And.intro k21 (And.intro k22 trivial))), ?_⟩
  refine g_e 9 16383 [(13, fun h => cellH h (a4.add 2) = some (.int .i64 y15)), (11, fun h => cellH h (a2.add 2) = some (.int .i64 y13))] (by kernel_rfl) rfl (by kernel_rfl) (e_call Try.call44 rfl (F.strings_Compare_ok H)) rfl rfl ?_
  rintro _ h23 ⟨r24, rfl, H⟩
  obtain ⟨k25, k26, H⟩ := H
  refine ⟨And.intro k25 (And.intro k26 trivial), ?_⟩
  refine g_e 14 32767 [] (by kernel_rfl) rfl (by kernel_rfl) (e_call Try.call45 rfl (F.cmp_Compare_int64_ok H)) rfl rfl ?_
  rintro _ h27 ⟨r28, rfl, H⟩
  refine ⟨trivial, ?_⟩
  refine g_e 15 65535 [] (by kernel_rfl) rfl (by kernel_rfl) (f_buildL (cs := #[(.int .i64 r18), (.int .i64 r24), (.int .i64 r28)]) rfl rfl (bl_23_3_0_1_2 r18 r24 r28) H) rfl rfl ?_
  rintro _ h29 ⟨s30, rfl, H⟩
  refine ⟨trivial, ?_⟩
  refine g_e 16 131071 [] (by kernel_rfl) rfl (by kernel_rfl) (e_call Try.call42 rfl (F.cmp_Or_int_ok H)) rfl rfl ?_
  rintro _ h31 ⟨r32, rfl, H⟩
  refine ⟨trivial, ?_⟩
  refine g_p 17 262143 rfl (by kernel_rfl) (y_assign rfl) rfl rfl ?_
  refine g_d (by kernel_rfl) ?_
  refine tr_thenN ?_
  refine tr_ret ?_
  exact tr_ret1 rfl rfl ⟨_, rfl, H⟩
/-- spate/spateref8.sign -/
def F.spateref8_sign (p0 : Bool) (h : H) (Q : Int → H → Prop) : Prop :=
  (p0 = true →
  Q (-1) h) ∧
  (p0 = false →
  Q 1 h)
theorem F.spateref8_sign_ok {p0 : Bool} {h : H} {Q : Int → H → Prop} (H : F.spateref8_sign p0 h Q) : Fn PP 46 ([(.bool p0)] : List Value).toArray h fun r h' => ∃ r0, r = (.int .i64 r0) ∧ Q r0 h' := by
  unfold F.spateref8_sign at H
  refine fn_of Try.func46 Try.ntmps46 rfl rfl fun w0 => ?_
  refine tr_sub [(0, (.bool p0))] ⟨rfl, trivial⟩ ?_
  refine tr_seq ?_
  refine tr_region ?_
  refine tr_p (y_assign rfl) rfl rfl ?_
  refine tr_nil ?_
  refine tr_thenN ?_
  refine tr_seq ?_
  refine tr_seq ?_
  refine tr_region ?_
  refine tr_p (y_move rfl) rfl rfl ?_
  refine tr_nil ?_
  refine tr_thenN ?_
  refine tr_cond rfl (fun g1 => ?_) (fun g1 => ?_)
  · replace H := H.1 g1
    refine tr_seq ?_
    refine tr_region ?_
    refine tr_p (y_assign rfl) rfl rfl ?_
    refine tr_nil ?_
    refine tr_thenN ?_
    refine tr_ret ?_
    refine tr_thenR ?_
    exact tr_ret1 rfl rfl ⟨_, rfl, H⟩
  · replace H := H.2 g1
    refine tr_skip ?_
    refine tr_thenN ?_
    refine tr_seq ?_
    refine tr_region ?_
    refine tr_p (y_assign rfl) rfl rfl ?_
    refine tr_nil ?_
    refine tr_thenN ?_
    refine tr_ret ?_
    exact tr_ret1 rfl rfl ⟨_, rfl, H⟩
/-- spate/spateref8.Compare -/
def F.spateref8_Compare (p0 : S_api_Cell) (p1 : S_api_Cell) (h : H) (Q : Int → H → Prop) : Prop :=
  new h p0.cells.toArray ty_34 fun a2 h1 =>
  new h1 p1.cells.toArray ty_34 fun a4 h3 =>
  ldI .i64 h3 (a2.add 0) fun y5 =>
  ldI .i64 h3 (a4.add 0) fun y7 =>
  (((y5 != y7)) = true →
  ldI .i64 h3 (a2.add 0) fun y10 =>
  ldI .i64 h3 (a4.add 0) fun y12 =>
  F.spateref8_sign (decide (y10 < y12)) h3 fun r15 h14 =>
  Q r15 h14) ∧
  (((y5 != y7)) = false →
  ldS h3 (a2.add 1) fun y16 =>
  ldS h3 (a4.add 1) fun y18 =>
  ((!(y16.toList == y18.toList)) = true →
  ldS h3 (a2.add 1) fun y21 =>
  ldS h3 (a4.add 1) fun y23 =>
  F.spateref8_sign (Op.bytesLess y21.toList y23.toList) h3 fun r26 h25 =>
  Q r26 h25) ∧
  ((!(y16.toList == y18.toList)) = false →
  ldI .i64 h3 (a2.add 2) fun y27 =>
  ldI .i64 h3 (a4.add 2) fun y29 =>
  (((y27 != y29)) = true →
  ldI .i64 h3 (a2.add 2) fun y32 =>
  ldI .i64 h3 (a4.add 2) fun y34 =>
  F.spateref8_sign (decide (y32 < y34)) h3 fun r37 h36 =>
  Q r37 h36) ∧
  (((y27 != y29)) = false →
  Q 0 h3)))
theorem F.spateref8_Compare_ok {p0 : S_api_Cell} {p1 : S_api_Cell} {h : H} {Q : Int → H → Prop} (H : F.spateref8_Compare p0 p1 h Q) : Fn PP 27 ([(.agg p0.cells.toArray), (.agg p1.cells.toArray)] : List Value).toArray h fun r h' => ∃ r0, r = (.int .i64 r0) ∧ Q r0 h' := by
  unfold F.spateref8_Compare at H
  refine fn_of Try.func27 Try.ntmps27 rfl rfl fun w0 => ?_
  refine tr_sub [(0, (.agg p0.cells.toArray)), (1, (.agg p1.cells.toArray))] ⟨rfl, rfl, trivial⟩ ?_
  refine tr_seq ?_
  refine tr_region ?_
  refine tr_e (f_box (cs := p0.cells.toArray) rfl rfl H) rfl rfl ?_
  rintro _ h1 ⟨a2, rfl, H⟩
  refine tr_e (f_box (cs := p1.cells.toArray) rfl rfl H) rfl rfl ?_
  rintro _ h3 ⟨a4, rfl, H⟩
  refine tr_p (y_assign rfl) rfl rfl ?_
  refine tr_nil ?_
  refine tr_thenN ?_
  refine tr_seq ?_
  refine tr_block ?_
  refine tr_seq ?_
  refine tr_region ?_
  refine tr_p (y_fa (off := 0) Try.runUnderlying34 fo_34_0 rfl) rfl rfl ?_
  obtain ⟨y5, k6, H⟩ := H
  refine tr_h (y_ld Try.isAgg3 rfl) k6 rfl rfl ?_
  refine tr_p (y_fa (off := 0) Try.runUnderlying34 fo_34_0 rfl) rfl rfl ?_
  obtain ⟨y7, k8, H⟩ := H
  refine tr_h (y_ld Try.isAgg3 rfl) k8 rfl rfl ?_
  refine tr_p (y_neq rfl rfl) rfl rfl ?_
  refine tr_p (y_assign rfl) rfl rfl ?_
  refine tr_nil ?_
  refine tr_thenN ?_
  refine tr_cond rfl (fun g9 => ?_) (fun g9 => ?_)
  · replace H := H.1 g9
    refine tr_seq ?_
    refine tr_region ?_
    refine tr_p (y_fa (off := 0) Try.runUnderlying34 fo_34_0 rfl) rfl rfl ?_
    obtain ⟨y10, k11, H⟩ := H
    refine tr_h (y_ld Try.isAgg3 rfl) k11 rfl rfl ?_
    refine tr_p (y_fa (off := 0) Try.runUnderlying34 fo_34_0 rfl) rfl rfl ?_
    obtain ⟨y12, k13, H⟩ := H
    refine tr_h (y_ld Try.isAgg3 rfl) k13 rfl rfl ?_
    refine tr_p (y_lss rfl rfl) rfl rfl ?_
    refine tr_e (e_call Try.call46 rfl (F.spateref8_sign_ok H)) rfl rfl ?_
    rintro _ h14 ⟨r15, rfl, H⟩
    refine tr_p (y_assign rfl) rfl rfl ?_
    refine tr_nil ?_
    refine tr_thenN ?_
    refine tr_ret ?_
    refine tr_blockR ?_
    refine tr_thenR ?_
    exact tr_ret1 rfl rfl ⟨_, rfl, H⟩
  · replace H := H.2 g9
    refine tr_seq ?_
    refine tr_region ?_
    refine tr_p (y_fa (off := 1) Try.runUnderlying34 fo_34_1 rfl) rfl rfl ?_
    obtain ⟨y16, k17, H⟩ := H
    refine tr_h (y_ld Try.isAgg9 rfl) k17 rfl rfl ?_
    refine tr_p (y_fa (off := 1) Try.runUnderlying34 fo_34_1 rfl) rfl rfl ?_
    obtain ⟨y18, k19, H⟩ := H
    refine tr_h (y_ld Try.isAgg9 rfl) k19 rfl rfl ?_
    refine tr_p (y_sneq rfl rfl) rfl rfl ?_
    refine tr_p (y_assign rfl) rfl rfl ?_
    refine tr_nil ?_
    refine tr_thenN ?_
    refine tr_cond rfl (fun g20 => ?_) (fun g20 => ?_)
    · replace H := H.1 g20
      refine tr_seq ?_
      refine tr_region ?_
      refine tr_p (y_fa (off := 1) Try.runUnderlying34 fo_34_1 rfl) rfl rfl ?_
      obtain ⟨y21, k22, H⟩ := H
      refine tr_h (y_ld Try.isAgg9 rfl) k22 rfl rfl ?_
      refine tr_p (y_fa (off := 1) Try.runUnderlying34 fo_34_1 rfl) rfl rfl ?_
      obtain ⟨y23, k24, H⟩ := H
      refine tr_h (y_ld Try.isAgg9 rfl) k24 rfl rfl ?_
      refine tr_p (y_slss rfl rfl) rfl rfl ?_
      refine tr_e (e_call Try.call46 rfl (F.spateref8_sign_ok H)) rfl rfl ?_
      rintro _ h25 ⟨r26, rfl, H⟩
      refine tr_p (y_assign rfl) rfl rfl ?_
      refine tr_nil ?_
      refine tr_thenN ?_
      refine tr_ret ?_
      refine tr_blockR ?_
      refine tr_thenR ?_
      exact tr_ret1 rfl rfl ⟨_, rfl, H⟩
    · replace H := H.2 g20
      refine tr_seq ?_
      refine tr_region ?_
      refine tr_p (y_fa (off := 2) Try.runUnderlying34 fo_34_2 rfl) rfl rfl ?_
      obtain ⟨y27, k28, H⟩ := H
      refine tr_h (y_ld Try.isAgg2 rfl) k28 rfl rfl ?_
      refine tr_p (y_fa (off := 2) Try.runUnderlying34 fo_34_2 rfl) rfl rfl ?_
      obtain ⟨y29, k30, H⟩ := H
      refine tr_h (y_ld Try.isAgg2 rfl) k30 rfl rfl ?_
      refine tr_p (y_neq rfl rfl) rfl rfl ?_
      refine tr_p (y_assign rfl) rfl rfl ?_
      refine tr_nil ?_
      refine tr_thenN ?_
      refine tr_cond rfl (fun g31 => ?_) (fun g31 => ?_)
      · replace H := H.1 g31
        refine tr_seq ?_
        refine tr_region ?_
        refine tr_p (y_fa (off := 2) Try.runUnderlying34 fo_34_2 rfl) rfl rfl ?_
        obtain ⟨y32, k33, H⟩ := H
        refine tr_h (y_ld Try.isAgg2 rfl) k33 rfl rfl ?_
        refine tr_p (y_fa (off := 2) Try.runUnderlying34 fo_34_2 rfl) rfl rfl ?_
        obtain ⟨y34, k35, H⟩ := H
        refine tr_h (y_ld Try.isAgg2 rfl) k35 rfl rfl ?_
        refine tr_p (y_lss rfl rfl) rfl rfl ?_
        refine tr_e (e_call Try.call46 rfl (F.spateref8_sign_ok H)) rfl rfl ?_
        rintro _ h36 ⟨r37, rfl, H⟩
        refine tr_p (y_assign rfl) rfl rfl ?_
        refine tr_nil ?_
        refine tr_thenN ?_
        refine tr_ret ?_
        refine tr_blockR ?_
        refine tr_thenR ?_
        exact tr_ret1 rfl rfl ⟨_, rfl, H⟩
      · replace H := H.2 g31
        refine tr_skip ?_
        refine tr_blockN ?_
        refine tr_thenN ?_
        refine tr_seq ?_
        refine tr_region ?_
        refine tr_p (y_assign rfl) rfl rfl ?_
        refine tr_nil ?_
        refine tr_thenN ?_
        refine tr_ret ?_
        exact tr_ret1 rfl rfl ⟨_, rfl, H⟩
def F.spatelaw8_ordered.j3 (Q : Sl → H → Prop) (C1 : Sl → Sl → Int → H → Prop) (x0 : Sl) (x3 : Sl) (x4 : Int) (h : H) : Prop :=
  C1 x0 x3 (IntKind.wrap .i64 (x4 + 1)) h
def F.spatelaw8_ordered.j5 (Q : Sl → H → Prop) (C1 : Sl → Sl → Int → H → Prop) (C2 : Sl → Sl → Int → Int → H → Prop) (x0 : Sl) (x3 : Sl) (x4 : Int) (x5 : Int) (h : H) : Prop :=
  C2 x0 x3 x4 (IntKind.wrap .i64 (x5 + 1)) h
def F.spatelaw8_ordered.j7 (Q : Sl → H → Prop) (C1 : Sl → Sl → Int → H → Prop) (x0 : Sl) (x3 : Sl) (x4 : Int) (x5 : Int) (h : H) : Prop :=
  cutL x3 0 x5 7 fun s3 =>
  runL PP (Builtin.append_ #[51, 51] 51 #[(⟨none, 0, 0⟩ : Sl).enc, s3.enc]) h fun s5 h4 =>
  idxA x0 x4 7 fun a6 =>
  ld_S_api_Row h4 a6 fun y8 =>
  newL h4 ((y8.cells).toArray) ty_66 1 fun s11 h10 =>
  runL PP (Builtin.append_ #[51, 51] 51 #[s5.enc, s11.enc]) h10 fun s13 h12 =>
  cutL x3 x5 (x3.len : Int) 7 fun s15 =>
  runL PP (Builtin.append_ #[51, 51] 51 #[s13.enc, s15.enc]) h12 fun s17 h16 =>
  F.spatelaw8_ordered.j3 Q C1 x0 s17 x4 h16
def F.spatelaw8_ordered.j8 (Q : Sl → H → Prop) (C1 : Sl → Sl → Int → H → Prop) (x0 : Sl) (x3 : Sl) (x4 : Int) (x5 : Int) (x53 : Bool) (h : H) : Prop :=
  (x53 = true →
  F.spatelaw8_ordered.j3 Q C1 x0 x3 x4 h) ∧
  (x53 = false →
  F.spatelaw8_ordered.j7 Q C1 x0 x3 x4 x5 h)
def F.spatelaw8_ordered.j6 (Q : Sl → H → Prop) (C1 : Sl → Sl → Int → H → Prop) (C2 : Sl → Sl → Int → Int → H → Prop) (x0 : Sl) (x3 : Sl) (x4 : Int) (x5 : Int) (x34 : Bool) (h : H) : Prop :=
  (x34 = true →
  F.spatelaw8_ordered.j5 Q C1 C2 x0 x3 x4 x5 h) ∧
  (x34 = false →
  ((decide (x5 < (x3.len : Int))) = true →
  idxA x3 x5 7 fun a20 =>
  ld_S_api_Cell h (a20.add 0) fun y22 =>
  idxA x0 x4 7 fun a24 =>
  ld_S_api_Cell h (a24.add 0) fun y26 =>
  F.spatelaw8_ordered.j8 Q C1 x0 x3 x4 x5 ((y22.View == y26.View) && ((y22.Key.toList == y26.Key.toList) && ((y22.Start == y26.Start) && true))) h) ∧
  ((decide (x5 < (x3.len : Int))) = false →
  F.spatelaw8_ordered.j8 Q C1 x0 x3 x4 x5 false h))
def F.spatelaw8_ordered.l4 (Q : Sl → H → Prop) (C1 : Sl → Sl → Int → H → Prop) : Nat → Sl → Sl → Int → Int → H → Prop
  | 0, _, _, _, _, _ => False
  | q4 + 1, x0, x3, x4, x5, h =>
    ((decide (x5 < (x3.len : Int))) = true →
    idxA x3 x5 7 fun a29 =>
    ld_S_api_Cell h (a29.add 0) fun y31 =>
    idxA x0 x4 7 fun a33 =>
    ld_S_api_Cell h (a33.add 0) fun y35 =>
    F.spateref8_Compare y31 y35 h fun r38 h37 =>
    F.spatelaw8_ordered.j6 Q C1 (F.spatelaw8_ordered.l4 Q C1 q4) x0 x3 x4 x5 (decide (r38 < 0)) h37) ∧
    ((decide (x5 < (x3.len : Int))) = false →
    F.spatelaw8_ordered.j6 Q C1 (F.spatelaw8_ordered.l4 Q C1 q4) x0 x3 x4 x5 false h)
def F.spatelaw8_ordered.j2 (Q : Sl → H → Prop) (C1 : Sl → Sl → Int → H → Prop) (x0 : Sl) (x3 : Sl) (x4 : Int) (h : H) : Prop :=
  ∃ m, F.spatelaw8_ordered.l4 Q C1 m x0 x3 x4 0 h
def F.spatelaw8_ordered.j9 (Q : Sl → H → Prop) (C1 : Sl → Sl → Int → H → Prop) (x0 : Sl) (x3 : Sl) (x4 : Int) (x14 : Bool) (h : H) : Prop :=
  (x14 = true →
  F.spatelaw8_ordered.j2 Q C1 x0 x3 x4 h) ∧
  (x14 = false →
  Q x3 h)
def F.spatelaw8_ordered.l1 (Q : Sl → H → Prop) : Nat → Sl → Sl → Int → H → Prop
  | 0, _, _, _, _ => False
  | q1 + 1, x0, x3, x4, h =>
    ((decide (x4 < (x0.len : Int))) = true →
    F.spatelaw8_ordered.j9 Q (F.spatelaw8_ordered.l1 Q q1) x0 x3 x4 (decide (x4 < 200)) h) ∧
    ((decide (x4 < (x0.len : Int))) = false →
    F.spatelaw8_ordered.j9 Q (F.spatelaw8_ordered.l1 Q q1) x0 x3 x4 false h)
/-- spate/spatelaw8.ordered -/
def F.spatelaw8_ordered (p0 : Sl) (h : H) (Q : Sl → H → Prop) : Prop :=
  ∃ m, F.spatelaw8_ordered.l1 Q m p0 (⟨none, 0, 0⟩ : Sl) 0 h
theorem F.spatelaw8_ordered_ok {p0 : Sl} {h : H} {Q : Sl → H → Prop} (H : F.spatelaw8_ordered p0 h Q) : Fn PP 29 ([p0.enc] : List Value).toArray h fun r h' => ∃ r0, r = r0.enc ∧ Q r0 h' := by
  unfold F.spatelaw8_ordered at H
  refine fn_of Try.func29 Try.ntmps29 rfl rfl fun w0 => ?_
  refine tr_sub [(0, p0.enc)] ⟨rfl, trivial⟩ ?_
  refine tr_seq ?_
  refine tr_region ?_
  refine tr_p (y_assign rfl) rfl rfl ?_
  refine tr_nil ?_
  refine tr_thenN ?_
  refine tr_seq ?_
  refine tr_region ?_
  refine tr_p (y_assign rfl) rfl rfl ?_
  refine tr_nil ?_
  refine tr_thenN ?_
  refine tr_seq ?_
  refine tr_seq ?_
  refine tr_region ?_
  refine tr_p (y_assign rfl) rfl rfl ?_
  refine tr_nil ?_
  refine tr_thenN ?_
  refine tr_block ?_
  obtain ⟨m42, H⟩ := H
  refine tr_sub [(0, p0.enc), (3, (⟨none, 0, 0⟩ : Sl).enc), (4, (.int .i64 0))] ⟨rfl, rfl, rfl, trivial⟩ ?_
  refine tr_loop_j (fun m L' h => ∃ (x0 : Sl) (x3 : Sl) (x4 : Int), L' = [(0, x0.enc), (3, x3.enc), (4, (.int .i64 x4))] ∧ F.spatelaw8_ordered.l1 Q m x0 x3 x4 h) ?_ ?_ m42 ⟨_, _, _, rfl, H⟩
  · rintro L' h ⟨_, _, _, _, H⟩; exact H
  · rintro q1 L' h ⟨x0, x3, x4, rfl, H⟩
    unfold F.spatelaw8_ordered.l1 at H
    refine tr_seq_j (fun L' h => ∃ (x0 : Sl) (x3 : Sl) (x4 : Int), L' = [(0, x0.enc), (3, x3.enc), (4, (.int .i64 x4))] ∧ F.spatelaw8_ordered.j2 Q (F.spatelaw8_ordered.l1 Q q1) x0 x3 x4 h) ?_ ?_
    · rintro L' h ⟨x0, x3, x4, rfl, H⟩
      unfold F.spatelaw8_ordered.j2 at H
      refine tr_seq_j (fun L' h => ∃ (x0 : Sl) (x3 : Sl) (x4 : Int), L' = [(0, x0.enc), (3, x3.enc), (4, (.int .i64 x4))] ∧ F.spatelaw8_ordered.j3 Q (F.spatelaw8_ordered.l1 Q q1) x0 x3 x4 h) ?_ ?_
      · rintro L' h ⟨x0, x3, x4, rfl, H⟩
        unfold F.spatelaw8_ordered.j3 at H
        refine tr_region ?_
        refine tr_p (y_move rfl) rfl rfl ?_
        refine tr_p (y_add rfl rfl) rfl rfl ?_
        refine tr_p (y_assign rfl) rfl rfl ?_
        refine tr_nil ?_
        refine tr_thenN ?_
        exact tr_join [(0, x0.enc), (3, x3.enc), (4, (.int .i64 (IntKind.wrap .i64 (x4 + 1))))] ⟨rfl, rfl, rfl, trivial⟩ ⟨_, _, _, rfl, H⟩
      · refine tr_block ?_
        refine tr_seq ?_
        refine tr_region ?_
        refine tr_p (y_assign rfl) rfl rfl ?_
        refine tr_nil ?_
        refine tr_thenN ?_
        refine tr_seq ?_
        refine tr_block ?_
        obtain ⟨m39, H⟩ := H
        refine tr_sub [(0, x0.enc), (3, x3.enc), (4, (.int .i64 x4)), (5, (.int .i64 0))] ⟨rfl, rfl, rfl, rfl, trivial⟩ ?_
        refine tr_loop_j (fun m L' h => ∃ (x0 : Sl) (x3 : Sl) (x4 : Int) (x5 : Int), L' = [(0, x0.enc), (3, x3.enc), (4, (.int .i64 x4)), (5, (.int .i64 x5))] ∧ F.spatelaw8_ordered.l4 Q (F.spatelaw8_ordered.l1 Q q1) m x0 x3 x4 x5 h) ?_ ?_ m39 ⟨_, _, _, _, rfl, H⟩
        · rintro L' h ⟨_, _, _, _, _, H⟩; exact H
        · rintro q4 L' h ⟨x0, x3, x4, x5, rfl, H⟩
          unfold F.spatelaw8_ordered.l4 at H
          refine tr_seq_j (fun L' h => ∃ (x0 : Sl) (x3 : Sl) (x4 : Int) (x5 : Int), L' = [(0, x0.enc), (3, x3.enc), (4, (.int .i64 x4)), (5, (.int .i64 x5))] ∧ F.spatelaw8_ordered.j5 Q (F.spatelaw8_ordered.l1 Q q1) (F.spatelaw8_ordered.l4 Q (F.spatelaw8_ordered.l1 Q q1) q4) x0 x3 x4 x5 h) ?_ ?_
          · rintro L' h ⟨x0, x3, x4, x5, rfl, H⟩
            unfold F.spatelaw8_ordered.j5 at H
            refine tr_block ?_
            refine tr_region ?_
            refine tr_p (y_move rfl) rfl rfl ?_
            refine tr_p (y_add rfl rfl) rfl rfl ?_
            refine tr_p (y_assign rfl) rfl rfl ?_
            refine tr_nil ?_
            refine tr_blockN ?_
            refine tr_thenN ?_
            exact tr_join [(0, x0.enc), (3, x3.enc), (4, (.int .i64 x4)), (5, (.int .i64 (IntKind.wrap .i64 (x5 + 1))))] ⟨rfl, rfl, rfl, rfl, trivial⟩ ⟨_, _, _, _, rfl, H⟩
          · refine tr_seq_j (fun L' h => ∃ (x0 : Sl) (x3 : Sl) (x4 : Int) (x5 : Int) (x34 : Bool), L' = [(0, x0.enc), (3, x3.enc), (4, (.int .i64 x4)), (5, (.int .i64 x5)), (34, (.bool x34))] ∧ F.spatelaw8_ordered.j6 Q (F.spatelaw8_ordered.l1 Q q1) (F.spatelaw8_ordered.l4 Q (F.spatelaw8_ordered.l1 Q q1) q4) x0 x3 x4 x5 x34 h) ?_ ?_
            · rintro L' h ⟨x0, x3, x4, x5, x34, rfl, H⟩
              unfold F.spatelaw8_ordered.j6 at H
              refine tr_cond rfl (fun g1 => ?_) (fun g1 => ?_)
              · replace H := H.1 g1
                refine tr_skip ?_
                refine tr_thenN ?_
                exact tr_join [(0, x0.enc), (3, x3.enc), (4, (.int .i64 x4)), (5, (.int .i64 x5))] ⟨rfl, rfl, rfl, rfl, trivial⟩ ⟨_, _, _, _, rfl, H⟩
              · replace H := H.2 g1
                refine tr_exit ?_
                refine tr_thenE ?_
                refine tr_thenE ?_
                refine tr_hit ?_
                refine tr_thenN ?_
                refine tr_seq_j (fun L' h => ∃ (x0 : Sl) (x3 : Sl) (x4 : Int) (x5 : Int), L' = [(0, x0.enc), (3, x3.enc), (4, (.int .i64 x4)), (5, (.int .i64 x5))] ∧ F.spatelaw8_ordered.j7 Q (F.spatelaw8_ordered.l1 Q q1) x0 x3 x4 x5 h) ?_ ?_
                · rintro L' h ⟨x0, x3, x4, x5, rfl, H⟩
                  unfold F.spatelaw8_ordered.j7 at H
                  refine tr_seq ?_
                  refine tr_region ?_
                  refine tr_p (y_assign rfl) rfl rfl ?_
                  refine tr_nil ?_
                  refine tr_thenN ?_
                  refine tr_seq ?_
                  refine tr_region ?_
                  refine tr_p (y_move rfl) rfl rfl ?_
                  refine tr_p (y_move rfl) rfl rfl ?_
                  refine tr_p (y_move rfl) rfl rfl ?_
                  obtain ⟨s3, e2, H⟩ := H
                  refine tr_p (f_cutL (s := x3) none (some (.i64, x5)) Try.runUnderlying51 Try.sizeOf66 rfl rfl rfl e2) rfl rfl ?_
                  refine tr_e (f_app rfl H) rfl rfl ?_
                  rintro _ h4 ⟨s5, rfl, H⟩
                  refine tr_p (y_assign rfl) rfl rfl ?_
                  refine tr_nil ?_
                  refine tr_thenN ?_
                  refine tr_seq ?_
                  refine tr_region ?_
                  refine tr_p (y_move rfl) rfl rfl ?_
                  refine tr_p (y_move rfl) rfl rfl ?_
                  refine tr_p (y_move rfl) rfl rfl ?_
                  obtain ⟨a6, e7, H⟩ := H
                  refine tr_p (f_idx (s := x0) Try.runUnderlying51 Try.sizeOf66 rfl rfl e7) rfl rfl ?_
                  obtain ⟨y8, k9, H⟩ := H
                  refine tr_h (y_ldS Try.isAgg66 Try.sizeOf66 rfl rfl) k9 rfl rfl ?_
                  refine tr_e (f_buildL (cs := (y8.cells).toArray) rfl rfl (bl_51_1_0 y8) H) rfl rfl ?_
                  rintro _ h10 ⟨s11, rfl, H⟩
                  refine tr_e (f_app rfl H) rfl rfl ?_
                  rintro _ h12 ⟨s13, rfl, H⟩
                  refine tr_p (y_assign rfl) rfl rfl ?_
                  refine tr_nil ?_
                  refine tr_thenN ?_
                  refine tr_region ?_
                  refine tr_p (y_move rfl) rfl rfl ?_
                  refine tr_p (y_move rfl) rfl rfl ?_
                  refine tr_p (y_move rfl) rfl rfl ?_
                  obtain ⟨s15, e14, H⟩ := H
                  refine tr_p (f_cutL (s := x3) (some (.i64, x5)) none Try.runUnderlying51 Try.sizeOf66 rfl rfl rfl e14) rfl rfl ?_
                  refine tr_e (f_app rfl H) rfl rfl ?_
                  rintro _ h16 ⟨s17, rfl, H⟩
                  refine tr_p (y_assign rfl) rfl rfl ?_
                  refine tr_nil ?_
                  refine tr_blockN ?_
                  refine tr_thenN ?_
                  exact tr_join [(0, x0.enc), (3, s17.enc), (4, (.int .i64 x4))] ⟨rfl, rfl, rfl, trivial⟩ ⟨_, _, _, rfl, H⟩
                · refine tr_seq_j (fun L' h => ∃ (x0 : Sl) (x3 : Sl) (x4 : Int) (x5 : Int) (x53 : Bool), L' = [(0, x0.enc), (3, x3.enc), (4, (.int .i64 x4)), (5, (.int .i64 x5)), (53, (.bool x53))] ∧ F.spatelaw8_ordered.j8 Q (F.spatelaw8_ordered.l1 Q q1) x0 x3 x4 x5 x53 h) ?_ ?_
                  · rintro L' h ⟨x0, x3, x4, x5, x53, rfl, H⟩
                    unfold F.spatelaw8_ordered.j8 at H
                    refine tr_cond rfl (fun g18 => ?_) (fun g18 => ?_)
                    · replace H := H.1 g18
                      refine tr_exit ?_
                      refine tr_thenE ?_
                      refine tr_hit ?_
                      refine tr_thenN ?_
                      exact tr_join [(0, x0.enc), (3, x3.enc), (4, (.int .i64 x4))] ⟨rfl, rfl, rfl, trivial⟩ ⟨_, _, _, rfl, H⟩
                    · replace H := H.2 g18
                      refine tr_skip ?_
                      refine tr_thenN ?_
                      exact tr_join [(0, x0.enc), (3, x3.enc), (4, (.int .i64 x4)), (5, (.int .i64 x5))] ⟨rfl, rfl, rfl, rfl, trivial⟩ ⟨_, _, _, _, rfl, H⟩
                  · refine tr_draw mixed [0, 0, 2, 7, 15, 31, 31, 127, 255, 511, 31, 31, 3103, 7199, 15391, 32767, 65535] (by kernel_rfl) ?_
                    refine g_p 0 1 rfl (by kernel_rfl) (y_move rfl) rfl rfl ?_
                    refine g_p 1 3 rfl (by kernel_rfl) (y_move rfl) rfl rfl ?_
                    refine g_p 2 7 rfl (by kernel_rfl) (y_len (ts := #[]) Try.runUnderlying51 (o := x3.ptr) (n := x3.len) (cap := x3.cap) rfl) rfl rfl ?_
                    refine g_p 3 15 rfl (by kernel_rfl) (y_lss rfl rfl) rfl rfl ?_
                    refine g_p 4 31 rfl (by kernel_rfl) (y_move rfl) rfl rfl ?_
                    refine g_split (t := 41) rfl (fun g19 => ?_) (fun g19 => ?_)
                    · replace H := H.1 g19
                      refine g_p 5 63 rfl (by kernel_rfl) (y_move rfl) rfl rfl ?_
                      refine g_p 6 127 rfl (by kernel_rfl) (y_move rfl) rfl rfl ?_
                      obtain ⟨a20, e21, H⟩ := H
                      refine g_p 7 255 rfl (by kernel_rfl) (f_idx (s := x3) Try.runUnderlying51 Try.sizeOf66 rfl rfl e21) rfl rfl ?_
                      refine g_p 8 511 rfl (by kernel_rfl) (y_fa (off := 0) Try.runUnderlying66 fo_66_0 rfl) rfl rfl ?_
                      obtain ⟨y22, k23, H⟩ := H
                      refine g_h 9 1023 rfl (by kernel_rfl) (y_ldS Try.isAgg34 Try.sizeOf34 rfl rfl) k23 rfl rfl ?_
                      refine g_p 10 2047 rfl (by kernel_rfl) (y_move rfl) rfl rfl ?_
                      refine g_p 11 4095 rfl (by kernel_rfl) (y_move rfl) rfl rfl ?_
                      obtain ⟨a24, e25, H⟩ := H
                      refine g_p 12 8191 rfl (by kernel_rfl) (f_idx (s := x0) Try.runUnderlying51 Try.sizeOf66 rfl rfl e25) rfl rfl ?_
                      refine g_p 13 16383 rfl (by kernel_rfl) (y_fa (off := 0) Try.runUnderlying66 fo_66_0 rfl) rfl rfl ?_
                      obtain ⟨y26, k27, H⟩ := H
                      refine g_h 14 32767 rfl (by kernel_rfl) (y_ldS Try.isAgg34 Try.sizeOf34 rfl rfl) k27 rfl rfl ?_
                      refine g_p 15 65535 rfl (by kernel_rfl) (st_eql (b := ((y22.View == y26.View) && ((y22.Key.toList == y26.Key.toList) && ((y22.Start == y26.Start) && true)))) eqg_34 (fun w => eqst_34 y22 y26 9998 w) rfl rfl) rfl rfl ?_
                      refine g_p 16 131071 rfl (by kernel_rfl) (y_pick_t rfl rfl) rfl rfl ?_
                      refine g_d (by kernel_rfl) ?_
                      refine tr_thenN ?_
                      exact tr_join [(0, x0.enc), (3, x3.enc), (4, (.int .i64 x4)), (5, (.int .i64 x5)), (53, (.bool ((y22.View == y26.View) && ((y22.Key.toList == y26.Key.toList) && ((y22.Start == y26.Start) && true)))))] ⟨rfl, rfl, rfl, rfl, rfl, trivial⟩ ⟨_, _, _, _, _, rfl, H⟩
                    · replace H := H.2 g19
                      refine g_s 5 63 rfl (by kernel_rfl) rfl rfl ?_
                      refine g_s 6 127 rfl (by kernel_rfl) rfl rfl ?_
                      refine g_s 7 255 rfl (by kernel_rfl) rfl rfl ?_
                      refine g_s 8 511 rfl (by kernel_rfl) rfl rfl ?_
                      refine g_s 9 1023 rfl (by kernel_rfl) rfl rfl ?_
                      refine g_s 10 2047 rfl (by kernel_rfl) rfl rfl ?_
                      refine g_s 11 4095 rfl (by kernel_rfl) rfl rfl ?_
                      refine g_s 12 8191 rfl (by kernel_rfl) rfl rfl ?_
                      refine g_s 13 16383 rfl (by kernel_rfl) rfl rfl ?_
                      refine g_s 14 32767 rfl (by kernel_rfl) rfl rfl ?_
                      refine g_s 15 65535 rfl (by kernel_rfl) rfl rfl ?_
                      refine g_p 16 131071 rfl (by kernel_rfl) (y_pick_f rfl rfl) rfl rfl ?_
                      refine g_d (by kernel_rfl) ?_
                      refine tr_thenN ?_
                      exact tr_join [(0, x0.enc), (3, x3.enc), (4, (.int .i64 x4)), (5, (.int .i64 x5)), (53, (.bool false))] ⟨rfl, rfl, rfl, rfl, rfl, trivial⟩ ⟨_, _, _, _, _, rfl, H⟩
            · refine tr_draw mixed [0, 0, 2, 7, 15, 31, 31, 127, 255, 511, 31, 31, 3103, 7199, 15391, 32767, 65535, 131071] (by kernel_rfl) ?_
              refine g_p 0 1 rfl (by kernel_rfl) (y_move rfl) rfl rfl ?_
              refine g_p 1 3 rfl (by kernel_rfl) (y_move rfl) rfl rfl ?_
              refine g_p 2 7 rfl (by kernel_rfl) (y_len (ts := #[]) Try.runUnderlying51 (o := x3.ptr) (n := x3.len) (cap := x3.cap) rfl) rfl rfl ?_
              refine g_p 3 15 rfl (by kernel_rfl) (y_lss rfl rfl) rfl rfl ?_
              refine g_p 4 31 rfl (by kernel_rfl) (y_move rfl) rfl rfl ?_
              refine g_split (t := 21) rfl (fun g28 => ?_) (fun g28 => ?_)
              · replace H := H.1 g28
                refine g_p 5 63 rfl (by kernel_rfl) (y_move rfl) rfl rfl ?_
                refine g_p 6 127 rfl (by kernel_rfl) (y_move rfl) rfl rfl ?_
                obtain ⟨a29, e30, H⟩ := H
                refine g_p 7 255 rfl (by kernel_rfl) (f_idx (s := x3) Try.runUnderlying51 Try.sizeOf66 rfl rfl e30) rfl rfl ?_
                refine g_p 8 511 rfl (by kernel_rfl) (y_fa (off := 0) Try.runUnderlying66 fo_66_0 rfl) rfl rfl ?_
                obtain ⟨y31, k32, H⟩ := H
                refine g_h 9 1023 rfl (by kernel_rfl) (y_ldS Try.isAgg34 Try.sizeOf34 rfl rfl) k32 rfl rfl ?_
                refine g_p 10 2047 rfl (by kernel_rfl) (y_move rfl) rfl rfl ?_
                refine g_p 11 4095 rfl (by kernel_rfl) (y_move rfl) rfl rfl ?_
                obtain ⟨a33, e34, H⟩ := H
                refine g_p 12 8191 rfl (by kernel_rfl) (f_idx (s := x0) Try.runUnderlying51 Try.sizeOf66 rfl rfl e34) rfl rfl ?_
                refine g_p 13 16383 rfl (by kernel_rfl) (y_fa (off := 0) Try.runUnderlying66 fo_66_0 rfl) rfl rfl ?_
                obtain ⟨y35, k36, H⟩ := H
                refine g_h 14 32767 rfl (by kernel_rfl) (y_ldS Try.isAgg34 Try.sizeOf34 rfl rfl) k36 rfl rfl ?_
                refine g_e 15 65535 [] (by kernel_rfl) rfl (by kernel_rfl) (e_call Try.call27 rfl (F.spateref8_Compare_ok H)) rfl rfl ?_
                rintro _ h37 ⟨r38, rfl, H⟩
                refine ⟨trivial, ?_⟩
                refine g_p 16 131071 rfl (by kernel_rfl) (y_lss rfl rfl) rfl rfl ?_
                refine g_p 17 262143 rfl (by kernel_rfl) (y_pick_t rfl rfl) rfl rfl ?_
                refine g_d (by kernel_rfl) ?_
                refine tr_thenN ?_
                exact tr_join [(0, x0.enc), (3, x3.enc), (4, (.int .i64 x4)), (5, (.int .i64 x5)), (34, (.bool (decide (r38 < 0))))] ⟨rfl, rfl, rfl, rfl, rfl, trivial⟩ ⟨_, _, _, _, _, rfl, H⟩
              · replace H := H.2 g28
                refine g_s 5 63 rfl (by kernel_rfl) rfl rfl ?_
                refine g_s 6 127 rfl (by kernel_rfl) rfl rfl ?_
                refine g_s 7 255 rfl (by kernel_rfl) rfl rfl ?_
                refine g_s 8 511 rfl (by kernel_rfl) rfl rfl ?_
                refine g_s 9 1023 rfl (by kernel_rfl) rfl rfl ?_
                refine g_s 10 2047 rfl (by kernel_rfl) rfl rfl ?_
                refine g_s 11 4095 rfl (by kernel_rfl) rfl rfl ?_
                refine g_s 12 8191 rfl (by kernel_rfl) rfl rfl ?_
                refine g_s 13 16383 rfl (by kernel_rfl) rfl rfl ?_
                refine g_s 14 32767 rfl (by kernel_rfl) rfl rfl ?_
                refine g_s 15 65535 rfl (by kernel_rfl) rfl rfl ?_
                refine g_s 16 131071 rfl (by kernel_rfl) rfl rfl ?_
                refine g_p 17 262143 rfl (by kernel_rfl) (y_pick_f rfl rfl) rfl rfl ?_
                refine g_d (by kernel_rfl) ?_
                refine tr_thenN ?_
                exact tr_join [(0, x0.enc), (3, x3.enc), (4, (.int .i64 x4)), (5, (.int .i64 x5)), (34, (.bool false))] ⟨rfl, rfl, rfl, rfl, rfl, trivial⟩ ⟨_, _, _, _, _, rfl, H⟩
    · refine tr_seq_j (fun L' h => ∃ (x0 : Sl) (x3 : Sl) (x4 : Int) (x14 : Bool), L' = [(0, x0.enc), (3, x3.enc), (4, (.int .i64 x4)), (14, (.bool x14))] ∧ F.spatelaw8_ordered.j9 Q (F.spatelaw8_ordered.l1 Q q1) x0 x3 x4 x14 h) ?_ ?_
      · rintro L' h ⟨x0, x3, x4, x14, rfl, H⟩
        unfold F.spatelaw8_ordered.j9 at H
        refine tr_cond rfl (fun g40 => ?_) (fun g40 => ?_)
        · replace H := H.1 g40
          refine tr_skip ?_
          refine tr_thenN ?_
          exact tr_join [(0, x0.enc), (3, x3.enc), (4, (.int .i64 x4))] ⟨rfl, rfl, rfl, trivial⟩ ⟨_, _, _, rfl, H⟩
        · replace H := H.2 g40
          refine tr_exit ?_
          refine tr_thenE ?_
          refine tr_thenE ?_
          refine tr_hit ?_
          refine tr_thenN ?_
          refine tr_seq ?_
          refine tr_region ?_
          refine tr_p (y_move rfl) rfl rfl ?_
          refine tr_p (y_assign rfl) rfl rfl ?_
          refine tr_nil ?_
          refine tr_thenN ?_
          refine tr_ret ?_
          exact tr_ret1 rfl rfl ⟨_, rfl, H⟩
      · refine tr_region ?_
        refine tr_p (y_move rfl) rfl rfl ?_
        refine tr_p (y_move rfl) rfl rfl ?_
        refine tr_p (y_len (ts := #[]) Try.runUnderlying51 (o := x0.ptr) (n := x0.len) (cap := x0.cap) rfl) rfl rfl ?_
        refine tr_p (y_lss rfl rfl) rfl rfl ?_
        refine tr_p (y_move rfl) rfl rfl ?_
        refine tr_split (t := 11) rfl (fun g41 => ?_) (fun g41 => ?_)
        · replace H := H.1 g41
          refine tr_p (y_move rfl) rfl rfl ?_
          refine tr_p (y_lss rfl rfl) rfl rfl ?_
          refine tr_p (y_pick_t rfl rfl) rfl rfl ?_
          refine tr_nil ?_
          refine tr_thenN ?_
          exact tr_join [(0, x0.enc), (3, x3.enc), (4, (.int .i64 x4)), (14, (.bool (decide (x4 < 200))))] ⟨rfl, rfl, rfl, rfl, trivial⟩ ⟨_, _, _, _, rfl, H⟩
        · replace H := H.2 g41
          refine tr_s rfl rfl ?_
          refine tr_s rfl rfl ?_
          refine tr_p (y_pick_f rfl rfl) rfl rfl ?_
          refine tr_nil ?_
          refine tr_thenN ?_
          exact tr_join [(0, x0.enc), (3, x3.enc), (4, (.int .i64 x4)), (14, (.bool false))] ⟨rfl, rfl, rfl, rfl, trivial⟩ ⟨_, _, _, _, rfl, H⟩
/-- spate/spatelaw2.mark -/
def F.spatelaw2_mark  (h : H) (Q : S_api_Cell → H → Prop) : Prop :=
  new h (((⟨0, (⟨#[]⟩ : ByteArray), 0⟩ : S_api_Cell) : S_api_Cell).cells.toArray) ty_34 fun a2 h1 =>
  stH h1 a2 ((⟨(-9), (⟨#[109, 97, 114, 107]⟩ : ByteArray), 9⟩ : S_api_Cell).cells) fun h3 =>
  ld_S_api_Cell h3 a2 fun y4 =>
  Q y4 h3
theorem F.spatelaw2_mark_ok  {h : H} {Q : S_api_Cell → H → Prop} (H : F.spatelaw2_mark  h Q) : Fn PP 47 ([] : List Value).toArray h fun r h' => ∃ r0, r = (.agg r0.cells.toArray) ∧ Q r0 h' := by
  unfold F.spatelaw2_mark at H
  refine fn_of Try.func47 Try.ntmps47 rfl rfl fun w0 => ?_
  refine tr_sub [] trivial ?_
  refine tr_seq ?_
  refine tr_region ?_
  refine tr_e (f_alloc (cs := ((⟨0, (⟨#[]⟩ : ByteArray), 0⟩ : S_api_Cell) : S_api_Cell).cells.toArray) Try.zeroValue34 rfl H) rfl rfl ?_
  rintro _ h1 ⟨a2, rfl, H⟩
  refine tr_nil ?_
  refine tr_thenN ?_
  refine tr_seq ?_
  refine tr_region ?_
  refine tr_p (f_build rfl (bd_34_0_1_2 (-9) (⟨#[109, 97, 114, 107]⟩ : ByteArray) 9)) rfl rfl ?_
  refine tr_e (f_store (vs := (⟨(-9), (⟨#[109, 97, 114, 107]⟩ : ByteArray), 9⟩ : S_api_Cell).cells) Try.sizeOf34 rfl rfl cellsOfStruct rfl (by intro v hv; exact ones_S_api_Cell _ v hv) H) rfl rfl ?_
  rintro _ h3 ⟨rfl, H⟩
  refine tr_nil ?_
  refine tr_thenN ?_
  refine tr_ret ?_
  obtain ⟨y4, k5, H⟩ := H
  exact tr_rv1 rfl (rv_cellS Try.isAgg34 Try.sizeOf34 rfl rfl k5) ⟨_, rfl, H⟩
def F.spatelaw2_LendResponse.l1 (Q : S_api_Response → H → Prop) : Nat → Addr → Addr → Sl → Int → H → Prop
  | 0, _, _, _, _, _ => False
  | q1 + 1, x1, x2, x3, x4, h =>
    ((decide (x4 < (x3.len : Int))) = true →
    F.spatelaw2_mark  h fun r17 h16 =>
    idxA x3 x4 7 fun a18 =>
    stH h16 (a18.add 0) r17.cells fun h20 =>
    (F.spatelaw2_LendResponse.l1 Q q1) x1 x2 x3 (IntKind.wrap .i64 (x4 + 1)) h20) ∧
    ((decide (x4 < (x3.len : Int))) = false →
    ldL h (x1.add 4) fun y21 =>
    cutL x3 0 (y21.len : Int) 7 fun s24 =>
    stH h (x1.add 4) [s24.enc] fun h25 =>
    ld_S_api_Response h25 x1 fun y26 =>
    stH h25 x2 y26.cells fun h28 =>
    ld_S_api_Response h28 x2 fun y29 =>
    Q y29 h28)
/-- spate/spatelaw2.LendResponse -/
def F.spatelaw2_LendResponse (p0 : S_api_Response) (h : H) (Q : S_api_Response → H → Prop) : Prop :=
  new h p0.cells.toArray ty_57 fun a2 h1 =>
  new h1 (((⟨0, 0, 0, 0, (⟨none, 0, 0⟩ : Sl), (⟨0, 0, 0, 0, 0, 0⟩ : S_api_Stats)⟩ : S_api_Response) : S_api_Response).cells.toArray) ty_57 fun a4 h3 =>
  ldL h3 (a2.add 4) fun y5 =>
  runL PP (Instr.makeSlice 51 (.int .i64 (IntKind.wrap .i64 ((y5.len : Int) + 3))) (.int .i64 (IntKind.wrap .i64 ((y5.len : Int) + 3)))) h3 fun s8 h7 =>
  ldL h7 (a2.add 4) fun y9 =>
  runI PP (Builtin.copy_ #[51, 51] 3 #[s8.enc, y9.enc]) h7 .i64 fun s12 h11 =>
  ldL h11 (a2.add 4) fun y13 =>
  ∃ m, F.spatelaw2_LendResponse.l1 Q m a2 a4 s8 (y13.len : Int) h11
theorem F.spatelaw2_LendResponse_ok {p0 : S_api_Response} {h : H} {Q : S_api_Response → H → Prop} (H : F.spatelaw2_LendResponse p0 h Q) : Fn PP 30 ([(.agg p0.cells.toArray)] : List Value).toArray h fun r h' => ∃ r0, r = (.agg r0.cells.toArray) ∧ Q r0 h' := by
  unfold F.spatelaw2_LendResponse at H
  refine fn_of Try.func30 Try.ntmps30 rfl rfl fun w0 => ?_
  refine tr_sub [(0, (.agg p0.cells.toArray))] ⟨rfl, trivial⟩ ?_
  refine tr_seq ?_
  refine tr_region ?_
  refine tr_e (f_box (cs := p0.cells.toArray) rfl rfl H) rfl rfl ?_
  rintro _ h1 ⟨a2, rfl, H⟩
  refine tr_e (f_alloc (cs := ((⟨0, 0, 0, 0, (⟨none, 0, 0⟩ : Sl), (⟨0, 0, 0, 0, 0, 0⟩ : S_api_Stats)⟩ : S_api_Response) : S_api_Response).cells.toArray) Try.zeroValue57 rfl H) rfl rfl ?_
  rintro _ h3 ⟨a4, rfl, H⟩
  refine tr_nil ?_
  refine tr_thenN ?_
  refine tr_seq ?_
  refine tr_region ?_
  refine tr_p (y_fa (off := 4) Try.runUnderlying57 fo_57_4 rfl) rfl rfl ?_
  obtain ⟨y5, k6, H⟩ := H
  refine tr_h (y_ld Try.isAgg51 rfl) k6 rfl rfl ?_
  refine tr_p (y_len (ts := #[]) Try.runUnderlying51 (o := y5.ptr) (n := y5.len) (cap := y5.cap) rfl) rfl rfl ?_
  refine tr_p (y_add rfl rfl) rfl rfl ?_
  refine tr_e (f_make rfl rfl H) rfl rfl ?_
  rintro _ h7 ⟨s8, rfl, H⟩
  refine tr_p (y_assign rfl) rfl rfl ?_
  refine tr_nil ?_
  refine tr_thenN ?_
  refine tr_seq ?_
  refine tr_region ?_
  refine tr_p (y_move rfl) rfl rfl ?_
  refine tr_p (y_fa (off := 4) Try.runUnderlying57 fo_57_4 rfl) rfl rfl ?_
  obtain ⟨y9, k10, H⟩ := H
  refine tr_h (y_ld Try.isAgg51 rfl) k10 rfl rfl ?_
  refine tr_e (f_copy rfl H) rfl rfl ?_
  rintro _ h11 ⟨s12, rfl, H⟩
  refine tr_nil ?_
  refine tr_thenN ?_
  refine tr_seq ?_
  refine tr_seq ?_
  refine tr_region ?_
  refine tr_p (y_fa (off := 4) Try.runUnderlying57 fo_57_4 rfl) rfl rfl ?_
  obtain ⟨y13, k14, H⟩ := H
  refine tr_h (y_ld Try.isAgg51 rfl) k14 rfl rfl ?_
  refine tr_p (y_len (ts := #[]) Try.runUnderlying51 (o := y13.ptr) (n := y13.len) (cap := y13.cap) rfl) rfl rfl ?_
  refine tr_p (y_assign rfl) rfl rfl ?_
  refine tr_nil ?_
  refine tr_thenN ?_
  refine tr_block ?_
  obtain ⟨m31, H⟩ := H
  refine tr_sub [(1, (.pointer (some a2))), (2, (.pointer (some a4))), (3, s8.enc), (4, (.int .i64 (y13.len : Int)))] ⟨rfl, rfl, rfl, rfl, trivial⟩ ?_
  refine tr_loop_j (fun m L' h => ∃ (x1 : Addr) (x2 : Addr) (x3 : Sl) (x4 : Int), L' = [(1, (.pointer (some x1))), (2, (.pointer (some x2))), (3, x3.enc), (4, (.int .i64 x4))] ∧ F.spatelaw2_LendResponse.l1 Q m x1 x2 x3 x4 h) ?_ ?_ m31 ⟨_, _, _, _, rfl, H⟩
  · rintro L' h ⟨_, _, _, _, _, H⟩; exact H
  · rintro q1 L' h ⟨x1, x2, x3, x4, rfl, H⟩
    unfold F.spatelaw2_LendResponse.l1 at H
    refine tr_seq ?_
    refine tr_seq ?_
    refine tr_region ?_
    refine tr_p (y_move rfl) rfl rfl ?_
    refine tr_p (y_move rfl) rfl rfl ?_
    refine tr_p (y_len (ts := #[]) Try.runUnderlying51 (o := x3.ptr) (n := x3.len) (cap := x3.cap) rfl) rfl rfl ?_
    refine tr_p (y_lss rfl rfl) rfl rfl ?_
    refine tr_nil ?_
    refine tr_thenN ?_
    refine tr_cond rfl (fun g15 => ?_) (fun g15 => ?_)
    · replace H := H.1 g15
      refine tr_skip ?_
      refine tr_thenN ?_
      refine tr_seq ?_
      refine tr_block ?_
      refine tr_region ?_
      refine tr_p (y_move rfl) rfl rfl ?_
      refine tr_p (y_move rfl) rfl rfl ?_
      refine tr_e (e_call Try.call47 rfl (F.spatelaw2_mark_ok H)) rfl rfl ?_
      rintro _ h16 ⟨r17, rfl, H⟩
      obtain ⟨a18, e19, H⟩ := H
      refine tr_p (f_idx (s := x3) Try.runUnderlying51 Try.sizeOf66 rfl rfl e19) rfl rfl ?_
      refine tr_p (y_fa (off := 0) Try.runUnderlying66 fo_66_0 rfl) rfl rfl ?_
      refine tr_e (f_store (vs := r17.cells) Try.sizeOf34 rfl rfl cellsOfStruct rfl (by intro v hv; exact ones_S_api_Cell _ v hv) H) rfl rfl ?_
      rintro _ h20 ⟨rfl, H⟩
      refine tr_nil ?_
      refine tr_blockN ?_
      refine tr_thenN ?_
      refine tr_region ?_
      refine tr_p (y_move rfl) rfl rfl ?_
      refine tr_p (y_add rfl rfl) rfl rfl ?_
      refine tr_p (y_assign rfl) rfl rfl ?_
      refine tr_nil ?_
      refine tr_thenN ?_
      exact tr_join [(1, (.pointer (some x1))), (2, (.pointer (some x2))), (3, x3.enc), (4, (.int .i64 (IntKind.wrap .i64 (x4 + 1))))] ⟨rfl, rfl, rfl, rfl, trivial⟩ ⟨_, _, _, _, rfl, H⟩
    · replace H := H.2 g15
      refine tr_exit ?_
      refine tr_thenE ?_
      refine tr_thenE ?_
      refine tr_hit ?_
      refine tr_thenN ?_
      refine tr_seq ?_
      refine tr_region ?_
      refine tr_p (y_move rfl) rfl rfl ?_
      refine tr_p (y_fa (off := 4) Try.runUnderlying57 fo_57_4 rfl) rfl rfl ?_
      obtain ⟨y21, k22, H⟩ := H
      refine tr_h (y_ld Try.isAgg51 rfl) k22 rfl rfl ?_
      refine tr_p (y_len (ts := #[]) Try.runUnderlying51 (o := y21.ptr) (n := y21.len) (cap := y21.cap) rfl) rfl rfl ?_
      obtain ⟨s24, e23, H⟩ := H
      refine tr_p (f_cutL (s := x3) none (some (.i64, (y21.len : Int))) Try.runUnderlying51 Try.sizeOf66 rfl rfl rfl e23) rfl rfl ?_
      refine tr_p (y_fa (off := 4) Try.runUnderlying57 fo_57_4 rfl) rfl rfl ?_
      refine tr_e (f_store (vs := [s24.enc]) Try.sizeOf51 rfl rfl rfl rfl (one1 rfl) H) rfl rfl ?_
      rintro _ h25 ⟨rfl, H⟩
      refine tr_nil ?_
      refine tr_thenN ?_
      refine tr_seq ?_
      refine tr_region ?_
      obtain ⟨y26, k27, H⟩ := H
      refine tr_h (y_ldS Try.isAgg57 Try.sizeOf57 rfl rfl) k27 rfl rfl ?_
      refine tr_e (f_store (vs := y26.cells) Try.sizeOf57 rfl rfl cellsOfStruct rfl (by intro v hv; exact ones_S_api_Response _ v hv) H) rfl rfl ?_
      rintro _ h28 ⟨rfl, H⟩
      refine tr_nil ?_
      refine tr_thenN ?_
      refine tr_ret ?_
      obtain ⟨y29, k30, H⟩ := H
      exact tr_rv1 rfl (rv_cellS Try.isAgg57 Try.sizeOf57 rfl rfl k30) ⟨_, rfl, H⟩
/-- (spate/merge.fronts).Len -/
def F.merge_fronts_Len (p0 : Sl) (h : H) (Q : Int → H → Prop) : Prop :=
  Q (p0.len : Int) h
theorem F.merge_fronts_Len_ok {p0 : Sl} {h : H} {Q : Int → H → Prop} (H : F.merge_fronts_Len p0 h Q) : Fn PP 74 ([p0.enc] : List Value).toArray h fun r h' => ∃ r0, r = (.int .i64 r0) ∧ Q r0 h' := by
  unfold F.merge_fronts_Len at H
  refine fn_of Try.func74 Try.ntmps74 rfl rfl fun w0 => ?_
  refine tr_sub [(0, p0.enc)] ⟨rfl, trivial⟩ ?_
  refine tr_seq ?_
  refine tr_region ?_
  refine tr_p (y_assign rfl) rfl rfl ?_
  refine tr_nil ?_
  refine tr_thenN ?_
  refine tr_seq ?_
  refine tr_region ?_
  refine tr_p (y_move rfl) rfl rfl ?_
  refine tr_p (y_len (ts := #[]) Try.runUnderlying86 (o := p0.ptr) (n := p0.len) (cap := p0.cap) rfl) rfl rfl ?_
  refine tr_p (y_assign rfl) rfl rfl ?_
  refine tr_nil ?_
  refine tr_thenN ?_
  refine tr_ret ?_
  exact tr_ret1 rfl rfl ⟨_, rfl, H⟩
/-- (spate/merge.fronts).Less -/
def F.merge_fronts_Less (p0 : Sl) (p1 : Int) (p2 : Int) (h : H) (Q : Bool → H → Prop) : Prop :=
  idxA p0 p1 2 fun a1 =>
  ldL h (a1.add 0) fun y3 =>
  idxA y3 0 7 fun a5 =>
  ld_S_api_Cell h (a5.add 0) fun y7 =>
  idxA p0 p2 2 fun a9 =>
  ldL h (a9.add 0) fun y11 =>
  idxA y11 0 7 fun a13 =>
  ld_S_api_Cell h (a13.add 0) fun y15 =>
  idxA p0 p1 2 fun a17 =>
  ldI .i64 h (a17.add 1) fun y19 =>
  idxA p0 p2 2 fun a21 =>
  ldI .i64 h (a21.add 1) fun y23 =>
  F.merge_Compare y7 y15 h fun r26 h25 =>
  cellH h25 (a21.add 1) = some (.int .i64 y23) ∧
  cellH h25 (a17.add 1) = some (.int .i64 y19) ∧
  F.cmp_Compare_int y19 y23 h25 fun r30 h29 =>
  newL h29 #[(.int .i64 r26), (.int .i64 r30)] ty_3 2 fun s32 h31 =>
  F.cmp_Or_int s32 h31 fun r34 h33 =>
  Q (decide (r34 < 0)) h33
theorem F.merge_fronts_Less_ok {p0 : Sl} {p1 : Int} {p2 : Int} {h : H} {Q : Bool → H → Prop} (H : F.merge_fronts_Less p0 p1 p2 h Q) : Fn PP 75 ([p0.enc, (.int .i64 p1), (.int .i64 p2)] : List Value).toArray h fun r h' => ∃ r0, r = (.bool r0) ∧ Q r0 h' := by
  unfold F.merge_fronts_Less at H
  refine fn_of Try.func75 Try.ntmps75 rfl rfl fun w0 => ?_
  refine tr_sub [(0, p0.enc), (1, (.int .i64 p1)), (2, (.int .i64 p2))] ⟨rfl, rfl, rfl, trivial⟩ ?_
  refine tr_seq ?_
  refine tr_region ?_
  refine tr_p (y_assign rfl) rfl rfl ?_
  refine tr_nil ?_
  refine tr_thenN ?_
  refine tr_seq ?_
  refine tr_draw mixed [0, 0, 3, 7, 15, 31, 63, 127, 0, 0, 768, 1792, 3840, 7936, 16128, 32512, 65535, 0, 0, 393216, 917504, 1966080, 0, 0, 12582912, 29360128, 62914560, 134217727, 268435455, 536870911, 1073741823, 2147483647] (by kernel_rfl) ?_
  refine g_p 0 1 rfl (by kernel_rfl) (y_move rfl) rfl rfl ?_
  refine g_p 1 3 rfl (by kernel_rfl) (y_move rfl) rfl rfl ?_
  obtain ⟨a1, e2, H⟩ := H
  refine g_p 2 7 rfl (by kernel_rfl) (f_idx (s := p0) Try.runUnderlying86 Try.sizeOf88 rfl rfl e2) rfl rfl ?_
  refine g_p 3 15 rfl (by kernel_rfl) (y_fa (off := 0) Try.runUnderlying88 fo_88_0 rfl) rfl rfl ?_
  obtain ⟨y3, k4, H⟩ := H
  refine g_h 4 31 rfl (by kernel_rfl) (y_ld Try.isAgg51 rfl) k4 rfl rfl ?_
  obtain ⟨a5, e6, H⟩ := H
  refine g_p 5 63 rfl (by kernel_rfl) (f_idx (s := y3) Try.runUnderlying51 Try.sizeOf66 rfl rfl e6) rfl rfl ?_
  refine g_p 6 127 rfl (by kernel_rfl) (y_fa (off := 0) Try.runUnderlying66 fo_66_0 rfl) rfl rfl ?_
  obtain ⟨y7, k8, H⟩ := H
  refine g_h 7 255 rfl (by kernel_rfl) (y_ldS Try.isAgg34 Try.sizeOf34 rfl rfl) k8 rfl rfl ?_
  refine g_p 8 511 rfl (by kernel_rfl) (y_move rfl) rfl rfl ?_
  refine g_p 9 1023 rfl (by kernel_rfl) (y_move rfl) rfl rfl ?_
  obtain ⟨a9, e10, H⟩ := H
  refine g_p 10 2047 rfl (by kernel_rfl) (f_idx (s := p0) Try.runUnderlying86 Try.sizeOf88 rfl rfl e10) rfl rfl ?_
  refine g_p 11 4095 rfl (by kernel_rfl) (y_fa (off := 0) Try.runUnderlying88 fo_88_0 rfl) rfl rfl ?_
  obtain ⟨y11, k12, H⟩ := H
  refine g_h 12 8191 rfl (by kernel_rfl) (y_ld Try.isAgg51 rfl) k12 rfl rfl ?_
  obtain ⟨a13, e14, H⟩ := H
  refine g_p 13 16383 rfl (by kernel_rfl) (f_idx (s := y11) Try.runUnderlying51 Try.sizeOf66 rfl rfl e14) rfl rfl ?_
  refine g_p 14 32767 rfl (by kernel_rfl) (y_fa (off := 0) Try.runUnderlying66 fo_66_0 rfl) rfl rfl ?_
  obtain ⟨y15, k16, H⟩ := H
  refine g_h 15 65535 rfl (by kernel_rfl) (y_ldS Try.isAgg34 Try.sizeOf34 rfl rfl) k16 rfl rfl ?_
  refine g_p 17 196607 rfl (by kernel_rfl) (y_move rfl) rfl rfl ?_
  refine g_p 18 458751 rfl (by kernel_rfl) (y_move rfl) rfl rfl ?_
  obtain ⟨a17, e18, H⟩ := H
  refine g_p 19 983039 rfl (by kernel_rfl) (f_idx (s := p0) Try.runUnderlying86 Try.sizeOf88 rfl rfl e18) rfl rfl ?_
  refine g_p 20 2031615 rfl (by kernel_rfl) (y_fa (off := 1) Try.runUnderlying88 fo_88_1 rfl) rfl rfl ?_
  obtain ⟨y19, k20, H⟩ := H
  refine g_h 21 4128767 rfl (by kernel_rfl) (y_ld Try.isAgg3 rfl) k20 rfl rfl ?_
  refine g_p 22 8323071 rfl (by kernel_rfl) (y_move rfl) rfl rfl ?_
  refine g_p 23 16711679 rfl (by kernel_rfl) (y_move rfl) rfl rfl ?_
  obtain ⟨a21, e22, H⟩ := H
  refine g_p 24 33488895 rfl (by kernel_rfl) (f_idx (s := p0) Try.runUnderlying86 Try.sizeOf88 rfl rfl e22) rfl rfl ?_
  refine g_p 25 67043327 rfl (by kernel_rfl) (y_fa (off := 1) Try.runUnderlying88 fo_88_1 rfl) rfl rfl ?_
  obtain ⟨y23, k24, H⟩ := H
  refine g_h 26 134152191 rfl (by kernel_rfl) (y_ld Try.isAgg3 rfl) k24 rfl rfl ?_
  refine g_e 16 134217727 [(26, fun h => cellH h (a21.add 1) = some (.int .i64 y23)), (21, fun h => cellH h (a17.add 1) = some (.int .i64 y19))] (by kernel_rfl) rfl (by kernel_rfl) (e_call Try.call26 rfl (F.merge_Compare_ok H)) rfl rfl ?_
  rintro _ h25 ⟨r26, rfl, H⟩
  obtain ⟨k27, k28, H⟩ := H
  refine ⟨And.intro k27 (And.intro k28 trivial), ?_⟩
  refine g_e 27 268435455 [] (by kernel_rfl) rfl (by kernel_rfl) (e_call Try.call43 rfl (F.cmp_Compare_int_ok H)) rfl rfl ?_
  rintro _ h29 ⟨r30, rfl, H⟩
  refine ⟨trivial, ?_⟩
  refine g_e 28 536870911 [] (by kernel_rfl) rfl (by kernel_rfl) (f_buildL (cs := #[(.int .i64 r26), (.int .i64 r30)]) rfl rfl (bl_23_2_0_1 r26 r30) H) rfl rfl ?_
  rintro _ h31 ⟨s32, rfl, H⟩
  refine ⟨trivial, ?_⟩
  refine g_e 29 1073741823 [] (by kernel_rfl) rfl (by kernel_rfl) (e_call Try.call42 rfl (F.cmp_Or_int_ok H)) rfl rfl ?_
  rintro _ h33 ⟨r34, rfl, H⟩
  refine ⟨trivial, ?_⟩
  refine g_p 30 2147483647 rfl (by kernel_rfl) (y_lss rfl rfl) rfl rfl ?_
  refine g_p 31 4294967295 rfl (by kernel_rfl) (y_assign rfl) rfl rfl ?_
  refine g_d (by kernel_rfl) ?_
  refine tr_thenN ?_
  refine tr_ret ?_
  exact tr_ret1 rfl rfl ⟨_, rfl, H⟩
/-- (spate/merge.fronts).Swap -/
def F.merge_fronts_Swap (p0 : Sl) (p1 : Int) (p2 : Int) (h : H) (Q : H → Prop) : Prop :=
  idxA p0 p2 2 fun a1 =>
  ld_S_merge_front h a1 fun y3 =>
  idxA p0 p1 2 fun a5 =>
  ld_S_merge_front h a5 fun y7 =>
  idxA p0 p1 2 fun a9 =>
  stH h a9 y3.cells fun h11 =>
  idxA p0 p2 2 fun a12 =>
  stH h11 a12 y7.cells fun h14 =>
  Q h14
theorem F.merge_fronts_Swap_ok {p0 : Sl} {p1 : Int} {p2 : Int} {h : H} {Q : H → Prop} (H : F.merge_fronts_Swap p0 p1 p2 h Q) : Fn PP 76 ([p0.enc, (.int .i64 p1), (.int .i64 p2)] : List Value).toArray h fun r h' => r = .tuple #[] ∧ Q  h' := by
  unfold F.merge_fronts_Swap at H
  refine fn_of Try.func76 Try.ntmps76 rfl rfl fun w0 => ?_
  refine tr_sub [(0, p0.enc), (1, (.int .i64 p1)), (2, (.int .i64 p2))] ⟨rfl, rfl, rfl, trivial⟩ ?_
  refine tr_draw mixed [0, 0, 0, 0, 0, 0, 48, 112, 0, 0, 768, 1792, 4083, 8179, 16383, 32767] (by kernel_rfl) ?_
  refine g_p 0 1 rfl (by kernel_rfl) (y_move rfl) rfl rfl ?_
  refine g_p 1 3 rfl (by kernel_rfl) (y_move rfl) rfl rfl ?_
  refine g_p 2 7 rfl (by kernel_rfl) (y_move rfl) rfl rfl ?_
  refine g_p 3 15 rfl (by kernel_rfl) (y_move rfl) rfl rfl ?_
  refine g_p 4 31 rfl (by kernel_rfl) (y_move rfl) rfl rfl ?_
  refine g_p 5 63 rfl (by kernel_rfl) (y_move rfl) rfl rfl ?_
  obtain ⟨a1, e2, H⟩ := H
  refine g_p 6 127 rfl (by kernel_rfl) (f_idx (s := p0) Try.runUnderlying86 Try.sizeOf88 rfl rfl e2) rfl rfl ?_
  obtain ⟨y3, k4, H⟩ := H
  refine g_h 7 255 rfl (by kernel_rfl) (y_ldS Try.isAgg88 Try.sizeOf88 rfl rfl) k4 rfl rfl ?_
  refine g_p 8 511 rfl (by kernel_rfl) (y_move rfl) rfl rfl ?_
  refine g_p 9 1023 rfl (by kernel_rfl) (y_move rfl) rfl rfl ?_
  obtain ⟨a5, e6, H⟩ := H
  refine g_p 10 2047 rfl (by kernel_rfl) (f_idx (s := p0) Try.runUnderlying86 Try.sizeOf88 rfl rfl e6) rfl rfl ?_
  obtain ⟨y7, k8, H⟩ := H
  refine g_h 11 4095 rfl (by kernel_rfl) (y_ldS Try.isAgg88 Try.sizeOf88 rfl rfl) k8 rfl rfl ?_
  obtain ⟨a9, e10, H⟩ := H
  refine g_p 12 8191 rfl (by kernel_rfl) (f_idx (s := p0) Try.runUnderlying86 Try.sizeOf88 rfl rfl e10) rfl rfl ?_
  refine g_e 13 16383 [] (by kernel_rfl) rfl (by kernel_rfl) (f_store (vs := y3.cells) Try.sizeOf88 rfl rfl cellsOfStruct rfl (by intro v hv; exact ones_S_merge_front _ v hv) H) rfl rfl ?_
  rintro _ h11 ⟨rfl, H⟩
  refine ⟨trivial, ?_⟩
  obtain ⟨a12, e13, H⟩ := H
  refine g_p 14 32767 rfl (by kernel_rfl) (f_idx (s := p0) Try.runUnderlying86 Try.sizeOf88 rfl rfl e13) rfl rfl ?_
  refine g_e 15 65535 [] (by kernel_rfl) rfl (by kernel_rfl) (f_store (vs := y7.cells) Try.sizeOf88 rfl rfl cellsOfStruct rfl (by intro v hv; exact ones_S_merge_front _ v hv) H) rfl rfl ?_
  rintro _ h14 ⟨rfl, H⟩
  refine ⟨trivial, ?_⟩
  refine g_d (by kernel_rfl) ?_
  exact tr_end0 rfl ⟨rfl, H⟩
def F.container_heap_down.j1 (Q : Bool → H → Prop) (x1 : Int) (x7 : Int) (h : H) : Prop :=
  Q (decide (x7 > x1)) h
def F.container_heap_down.j4 (Q : Bool → H → Prop) (C1 : (Option Addr) → Int → Int → Int → H → Prop) (x0 : Option Addr) (x1 : Int) (x2 : Int) (x7 : Int) (x9 : Int) (h : H) : Prop :=
  nn x0 fun a2 =>
  ldL h a2 fun y3 =>
  F.merge_fronts_Less y3 x9 x7 h fun r4 h1 =>
  ((!r4) = true →
  F.container_heap_down.j1 Q x1 x7 h1) ∧
  ((!r4) = false →
  nn x0 fun a7 =>
  ldL h1 a7 fun y8 =>
  F.merge_fronts_Swap y8 x7 x9 h1 fun h6 =>
  C1 x0 x1 x2 x9 h6)
def F.container_heap_down.j5 (Q : Bool → H → Prop) (C1 : (Option Addr) → Int → Int → Int → H → Prop) (x0 : Option Addr) (x1 : Int) (x2 : Int) (x7 : Int) (x9 : Int) (x10 : Int) (x33 : Bool) (h : H) : Prop :=
  (x33 = true →
  F.container_heap_down.j4 Q C1 x0 x1 x2 x7 x10 h) ∧
  (x33 = false →
  F.container_heap_down.j4 Q C1 x0 x1 x2 x7 x9 h)
def F.container_heap_down.j3 (Q : Bool → H → Prop) (C1 : (Option Addr) → Int → Int → Int → H → Prop) (x0 : Option Addr) (x1 : Int) (x2 : Int) (x7 : Int) (x8 : Int) (h : H) : Prop :=
  ((decide ((IntKind.wrap .i64 (x8 + 1)) < x2)) = true →
  nn x0 fun a12 =>
  ldL h a12 fun y13 =>
  F.merge_fronts_Less y13 (IntKind.wrap .i64 (x8 + 1)) x8 h fun r14 h11 =>
  F.container_heap_down.j5 Q C1 x0 x1 x2 x7 x8 (IntKind.wrap .i64 (x8 + 1)) r14 h11) ∧
  ((decide ((IntKind.wrap .i64 (x8 + 1)) < x2)) = false →
  F.container_heap_down.j5 Q C1 x0 x1 x2 x7 x8 (IntKind.wrap .i64 (x8 + 1)) false h)
def F.container_heap_down.j6 (Q : Bool → H → Prop) (C1 : (Option Addr) → Int → Int → Int → H → Prop) (x0 : Option Addr) (x1 : Int) (x2 : Int) (x7 : Int) (x8 : Int) (x21 : Bool) (h : H) : Prop :=
  (x21 = true →
  F.container_heap_down.j1 Q x1 x7 h) ∧
  (x21 = false →
  F.container_heap_down.j3 Q C1 x0 x1 x2 x7 x8 h)
def F.container_heap_down.l2 (Q : Bool → H → Prop) : Nat → (Option Addr) → Int → Int → Int → H → Prop
  | 0, _, _, _, _, _ => False
  | q2 + 1, x0, x1, x2, x7, h =>
    ((decide ((IntKind.wrap .i64 ((IntKind.wrap .i64 (2 * x7)) + 1)) ≥ x2)) = true →
    F.container_heap_down.j6 Q (F.container_heap_down.l2 Q q2) x0 x1 x2 x7 (IntKind.wrap .i64 ((IntKind.wrap .i64 (2 * x7)) + 1)) true h) ∧
    ((decide ((IntKind.wrap .i64 ((IntKind.wrap .i64 (2 * x7)) + 1)) ≥ x2)) = false →
    F.container_heap_down.j6 Q (F.container_heap_down.l2 Q q2) x0 x1 x2 x7 (IntKind.wrap .i64 ((IntKind.wrap .i64 (2 * x7)) + 1)) (decide ((IntKind.wrap .i64 ((IntKind.wrap .i64 (2 * x7)) + 1)) < 0)) h)
/-- container/heap.down -/
def F.container_heap_down (p0 : Option Addr) (p1 : Int) (p2 : Int) (h : H) (Q : Bool → H → Prop) : Prop :=
  ∃ m, F.container_heap_down.l2 Q m p0 p1 p2 p1 h
theorem F.container_heap_down_ok {p0 : Option Addr} {p1 : Int} {p2 : Int} {h : H} {Q : Bool → H → Prop} (H : F.container_heap_down p0 p1 p2 h Q) : Fn PP 54 ([(.iface 90 (.pointer p0)), (.int .i64 p1), (.int .i64 p2)] : List Value).toArray h fun r h' => ∃ r0, r = (.bool r0) ∧ Q r0 h' := by
  unfold F.container_heap_down at H
  refine fn_of Try.func54 Try.ntmps54 rfl rfl fun w0 => ?_
  refine tr_sub [(0, (.iface 90 (.pointer p0))), (1, (.int .i64 p1)), (2, (.int .i64 p2))] ⟨rfl, rfl, rfl, trivial⟩ ?_
  refine tr_seq ?_
  refine tr_region ?_
  refine tr_p (y_assign rfl) rfl rfl ?_
  refine tr_nil ?_
  refine tr_thenN ?_
  refine tr_seq ?_
  refine tr_region ?_
  refine tr_p (y_move rfl) rfl rfl ?_
  refine tr_p (y_assign rfl) rfl rfl ?_
  refine tr_nil ?_
  refine tr_thenN ?_
  refine tr_seq_j (fun L' h => ∃ (x1 : Int) (x7 : Int), L' = [(1, (.int .i64 x1)), (7, (.int .i64 x7))] ∧ F.container_heap_down.j1 Q x1 x7 h) ?_ ?_
  · rintro L' h ⟨x1, x7, rfl, H⟩
    unfold F.container_heap_down.j1 at H
    refine tr_seq ?_
    refine tr_region ?_
    refine tr_p (y_move rfl) rfl rfl ?_
    refine tr_p (y_move rfl) rfl rfl ?_
    refine tr_p (y_gtr rfl rfl) rfl rfl ?_
    refine tr_p (y_assign rfl) rfl rfl ?_
    refine tr_nil ?_
    refine tr_thenN ?_
    refine tr_ret ?_
    exact tr_ret1 rfl rfl ⟨_, rfl, H⟩
  · refine tr_block ?_
    obtain ⟨m17, H⟩ := H
    refine tr_sub [(0, (.iface 90 (.pointer p0))), (1, (.int .i64 p1)), (2, (.int .i64 p2)), (7, (.int .i64 p1))] ⟨rfl, rfl, rfl, rfl, trivial⟩ ?_
    refine tr_loop_j (fun m L' h => ∃ (x0 : Option Addr) (x1 : Int) (x2 : Int) (x7 : Int), L' = [(0, (.iface 90 (.pointer x0))), (1, (.int .i64 x1)), (2, (.int .i64 x2)), (7, (.int .i64 x7))] ∧ F.container_heap_down.l2 Q m x0 x1 x2 x7 h) ?_ ?_ m17 ⟨_, _, _, _, rfl, H⟩
    · rintro L' h ⟨_, _, _, _, _, H⟩; exact H
    · rintro q2 L' h ⟨x0, x1, x2, x7, rfl, H⟩
      unfold F.container_heap_down.l2 at H
      refine tr_block ?_
      refine tr_seq ?_
      refine tr_region ?_
      refine tr_p (y_move rfl) rfl rfl ?_
      refine tr_p (y_mul rfl rfl) rfl rfl ?_
      refine tr_p (y_add rfl rfl) rfl rfl ?_
      refine tr_p (y_assign rfl) rfl rfl ?_
      refine tr_nil ?_
      refine tr_thenN ?_
      refine tr_seq_j (fun L' h => ∃ (x0 : Option Addr) (x1 : Int) (x2 : Int) (x7 : Int) (x8 : Int), L' = [(0, (.iface 90 (.pointer x0))), (1, (.int .i64 x1)), (2, (.int .i64 x2)), (7, (.int .i64 x7)), (8, (.int .i64 x8))] ∧ F.container_heap_down.j3 Q (F.container_heap_down.l2 Q q2) x0 x1 x2 x7 x8 h) ?_ ?_
      · rintro L' h ⟨x0, x1, x2, x7, x8, rfl, H⟩
        unfold F.container_heap_down.j3 at H
        refine tr_seq ?_
        refine tr_region ?_
        refine tr_p (y_move rfl) rfl rfl ?_
        refine tr_p (y_assign rfl) rfl rfl ?_
        refine tr_nil ?_
        refine tr_thenN ?_
        refine tr_seq_j (fun L' h => ∃ (x0 : Option Addr) (x1 : Int) (x2 : Int) (x7 : Int) (x9 : Int), L' = [(0, (.iface 90 (.pointer x0))), (1, (.int .i64 x1)), (2, (.int .i64 x2)), (7, (.int .i64 x7)), (9, (.int .i64 x9))] ∧ F.container_heap_down.j4 Q (F.container_heap_down.l2 Q q2) x0 x1 x2 x7 x9 h) ?_ ?_
        · rintro L' h ⟨x0, x1, x2, x7, x9, rfl, H⟩
          unfold F.container_heap_down.j4 at H
          refine tr_seq ?_
          refine tr_seq ?_
          refine tr_region ?_
          refine tr_p (y_move rfl) rfl rfl ?_
          refine tr_p (y_move rfl) rfl rfl ?_
          refine tr_p (y_move rfl) rfl rfl ?_
          refine tr_e (e_invL mt_90_Less Try.isAgg86 Try.call75 rfl rfl (inv_map (fun y3 H => (F.merge_fronts_Less_ok H)) H)) rfl rfl ?_
          rintro _ h1 ⟨r4, rfl, H⟩
          refine tr_p (y_not rfl) rfl rfl ?_
          refine tr_nil ?_
          refine tr_thenN ?_
          refine tr_cond rfl (fun g5 => ?_) (fun g5 => ?_)
          · replace H := H.1 g5
            refine tr_exit ?_
            refine tr_thenE ?_
            refine tr_miss rfl ?_
            refine tr_thenE ?_
            refine tr_hit ?_
            refine tr_thenN ?_
            exact tr_join [(1, (.int .i64 x1)), (7, (.int .i64 x7))] ⟨rfl, rfl, trivial⟩ ⟨_, _, rfl, H⟩
          · replace H := H.2 g5
            refine tr_skip ?_
            refine tr_thenN ?_
            refine tr_seq ?_
            refine tr_region ?_
            refine tr_p (y_move rfl) rfl rfl ?_
            refine tr_p (y_move rfl) rfl rfl ?_
            refine tr_p (y_move rfl) rfl rfl ?_
            refine tr_e (e_invL mt_90_Swap Try.isAgg86 Try.call76 rfl rfl (inv_map (fun y8 H => (F.merge_fronts_Swap_ok H)) H)) rfl rfl ?_
            rintro _ h6 ⟨rfl, H⟩
            refine tr_nil ?_
            refine tr_thenN ?_
            refine tr_region ?_
            refine tr_p (y_move rfl) rfl rfl ?_
            refine tr_p (y_assign rfl) rfl rfl ?_
            refine tr_nil ?_
            refine tr_blockN ?_
            refine tr_thenN ?_
            exact tr_join [(0, (.iface 90 (.pointer x0))), (1, (.int .i64 x1)), (2, (.int .i64 x2)), (7, (.int .i64 x9))] ⟨rfl, rfl, rfl, rfl, trivial⟩ ⟨_, _, _, _, rfl, H⟩
        · refine tr_seq ?_
          refine tr_region ?_
          refine tr_p (y_move rfl) rfl rfl ?_
          refine tr_p (y_add rfl rfl) rfl rfl ?_
          refine tr_p (y_assign rfl) rfl rfl ?_
          refine tr_nil ?_
          refine tr_thenN ?_
          refine tr_seq_j (fun L' h => ∃ (x0 : Option Addr) (x1 : Int) (x2 : Int) (x7 : Int) (x9 : Int) (x10 : Int) (x33 : Bool), L' = [(0, (.iface 90 (.pointer x0))), (1, (.int .i64 x1)), (2, (.int .i64 x2)), (7, (.int .i64 x7)), (9, (.int .i64 x9)), (10, (.int .i64 x10)), (33, (.bool x33))] ∧ F.container_heap_down.j5 Q (F.container_heap_down.l2 Q q2) x0 x1 x2 x7 x9 x10 x33 h) ?_ ?_
          · rintro L' h ⟨x0, x1, x2, x7, x9, x10, x33, rfl, H⟩
            unfold F.container_heap_down.j5 at H
            refine tr_cond rfl (fun g9 => ?_) (fun g9 => ?_)
            · replace H := H.1 g9
              refine tr_region ?_
              refine tr_p (y_move rfl) rfl rfl ?_
              refine tr_p (y_assign rfl) rfl rfl ?_
              refine tr_nil ?_
              refine tr_thenN ?_
              exact tr_join [(0, (.iface 90 (.pointer x0))), (1, (.int .i64 x1)), (2, (.int .i64 x2)), (7, (.int .i64 x7)), (9, (.int .i64 x10))] ⟨rfl, rfl, rfl, rfl, rfl, trivial⟩ ⟨_, _, _, _, _, rfl, H⟩
            · replace H := H.2 g9
              refine tr_skip ?_
              refine tr_thenN ?_
              exact tr_join [(0, (.iface 90 (.pointer x0))), (1, (.int .i64 x1)), (2, (.int .i64 x2)), (7, (.int .i64 x7)), (9, (.int .i64 x9))] ⟨rfl, rfl, rfl, rfl, rfl, trivial⟩ ⟨_, _, _, _, _, rfl, H⟩
          · refine tr_region ?_
            refine tr_p (y_move rfl) rfl rfl ?_
            refine tr_p (y_move rfl) rfl rfl ?_
            refine tr_p (y_lss rfl rfl) rfl rfl ?_
            refine tr_p (y_move rfl) rfl rfl ?_
            refine tr_split (t := 28) rfl (fun g10 => ?_) (fun g10 => ?_)
            · replace H := H.1 g10
              refine tr_p (y_move rfl) rfl rfl ?_
              refine tr_p (y_move rfl) rfl rfl ?_
              refine tr_p (y_move rfl) rfl rfl ?_
              refine tr_e (e_invL mt_90_Less Try.isAgg86 Try.call75 rfl rfl (inv_map (fun y13 H => (F.merge_fronts_Less_ok H)) H)) rfl rfl ?_
              rintro _ h11 ⟨r14, rfl, H⟩
              refine tr_p (y_pick_t rfl rfl) rfl rfl ?_
              refine tr_nil ?_
              refine tr_thenN ?_
              exact tr_join [(0, (.iface 90 (.pointer x0))), (1, (.int .i64 x1)), (2, (.int .i64 x2)), (7, (.int .i64 x7)), (9, (.int .i64 x8)), (10, (.int .i64 (IntKind.wrap .i64 (x8 + 1)))), (33, (.bool r14))] ⟨rfl, rfl, rfl, rfl, rfl, rfl, rfl, trivial⟩ ⟨_, _, _, _, _, _, _, rfl, H⟩
            · replace H := H.2 g10
              refine tr_s rfl rfl ?_
              refine tr_s rfl rfl ?_
              refine tr_s rfl rfl ?_
              refine tr_s rfl rfl ?_
              refine tr_p (y_pick_f rfl rfl) rfl rfl ?_
              refine tr_nil ?_
              refine tr_thenN ?_
              exact tr_join [(0, (.iface 90 (.pointer x0))), (1, (.int .i64 x1)), (2, (.int .i64 x2)), (7, (.int .i64 x7)), (9, (.int .i64 x8)), (10, (.int .i64 (IntKind.wrap .i64 (x8 + 1)))), (33, (.bool false))] ⟨rfl, rfl, rfl, rfl, rfl, rfl, rfl, trivial⟩ ⟨_, _, _, _, _, _, _, rfl, H⟩
      · refine tr_seq_j (fun L' h => ∃ (x0 : Option Addr) (x1 : Int) (x2 : Int) (x7 : Int) (x8 : Int) (x21 : Bool), L' = [(0, (.iface 90 (.pointer x0))), (1, (.int .i64 x1)), (2, (.int .i64 x2)), (7, (.int .i64 x7)), (8, (.int .i64 x8)), (21, (.bool x21))] ∧ F.container_heap_down.j6 Q (F.container_heap_down.l2 Q q2) x0 x1 x2 x7 x8 x21 h) ?_ ?_
        · rintro L' h ⟨x0, x1, x2, x7, x8, x21, rfl, H⟩
          unfold F.container_heap_down.j6 at H
          refine tr_cond rfl (fun g15 => ?_) (fun g15 => ?_)
          · replace H := H.1 g15
            refine tr_exit ?_
            refine tr_thenE ?_
            refine tr_miss rfl ?_
            refine tr_thenE ?_
            refine tr_hit ?_
            refine tr_thenN ?_
            exact tr_join [(1, (.int .i64 x1)), (7, (.int .i64 x7))] ⟨rfl, rfl, trivial⟩ ⟨_, _, rfl, H⟩
          · replace H := H.2 g15
            refine tr_skip ?_
            refine tr_thenN ?_
            exact tr_join [(0, (.iface 90 (.pointer x0))), (1, (.int .i64 x1)), (2, (.int .i64 x2)), (7, (.int .i64 x7)), (8, (.int .i64 x8))] ⟨rfl, rfl, rfl, rfl, rfl, trivial⟩ ⟨_, _, _, _, _, rfl, H⟩
        · refine tr_region ?_
          refine tr_p (y_move rfl) rfl rfl ?_
          refine tr_p (y_move rfl) rfl rfl ?_
          refine tr_p (y_geq rfl rfl) rfl rfl ?_
          refine tr_p (y_move rfl) rfl rfl ?_
          refine tr_split (t := 18) rfl (fun g16 => ?_) (fun g16 => ?_)
          · replace H := H.1 g16
            refine tr_s rfl rfl ?_
            refine tr_s rfl rfl ?_
            refine tr_p (y_pick_t rfl rfl) rfl rfl ?_
            refine tr_nil ?_
            refine tr_thenN ?_
            exact tr_join [(0, (.iface 90 (.pointer x0))), (1, (.int .i64 x1)), (2, (.int .i64 x2)), (7, (.int .i64 x7)), (8, (.int .i64 (IntKind.wrap .i64 ((IntKind.wrap .i64 (2 * x7)) + 1)))), (21, (.bool true))] ⟨rfl, rfl, rfl, rfl, rfl, rfl, trivial⟩ ⟨_, _, _, _, _, _, rfl, H⟩
          · replace H := H.2 g16
            refine tr_p (y_move rfl) rfl rfl ?_
            refine tr_p (y_lss rfl rfl) rfl rfl ?_
            refine tr_p (y_pick_f rfl rfl) rfl rfl ?_
            refine tr_nil ?_
            refine tr_thenN ?_
            exact tr_join [(0, (.iface 90 (.pointer x0))), (1, (.int .i64 x1)), (2, (.int .i64 x2)), (7, (.int .i64 x7)), (8, (.int .i64 (IntKind.wrap .i64 ((IntKind.wrap .i64 (2 * x7)) + 1)))), (21, (.bool (decide ((IntKind.wrap .i64 ((IntKind.wrap .i64 (2 * x7)) + 1)) < 0))))] ⟨rfl, rfl, rfl, rfl, rfl, rfl, trivial⟩ ⟨_, _, _, _, _, _, rfl, H⟩
def F.container_heap_Init.l1 (Q : H → Prop) : Nat → (Option Addr) → Int → Int → H → Prop
  | 0, _, _, _, _ => False
  | q1 + 1, x0, x2, x3, h =>
    ((decide (x3 ≥ 0)) = true →
    F.container_heap_down x0 x3 x2 h fun r8 h7 =>
    (F.container_heap_Init.l1 Q q1) x0 x2 (IntKind.wrap .i64 (x3 - 1)) h7) ∧
    ((decide (x3 ≥ 0)) = false →
    Q h)
/-- container/heap.Init -/
def F.container_heap_Init (p0 : Option Addr) (h : H) (Q : H → Prop) : Prop :=
  nn p0 fun a2 =>
  ldL h a2 fun y3 =>
  F.merge_fronts_Len y3 h fun r4 h1 =>
  (2 : Int) ≠ 0 ∧
  ∃ m, F.container_heap_Init.l1 Q m p0 r4 (IntKind.wrap .i64 ((IntKind.wrap .i64 (Int.tdiv r4 2)) - 1)) h1
theorem F.container_heap_Init_ok {p0 : Option Addr} {h : H} {Q : H → Prop} (H : F.container_heap_Init p0 h Q) : Fn PP 48 ([(.iface 90 (.pointer p0))] : List Value).toArray h fun r h' => r = .tuple #[] ∧ Q  h' := by
  unfold F.container_heap_Init at H
  refine fn_of Try.func48 Try.ntmps48 rfl rfl fun w0 => ?_
  refine tr_sub [(0, (.iface 90 (.pointer p0)))] ⟨rfl, trivial⟩ ?_
  refine tr_seq ?_
  refine tr_region ?_
  refine tr_p (y_move rfl) rfl rfl ?_
  refine tr_e (e_invL mt_90_Len Try.isAgg86 Try.call74 rfl rfl (inv_map (fun y3 H => (F.merge_fronts_Len_ok H)) H)) rfl rfl ?_
  rintro _ h1 ⟨r4, rfl, H⟩
  refine tr_p (y_assign rfl) rfl rfl ?_
  refine tr_nil ?_
  refine tr_thenN ?_
  refine tr_seq ?_
  refine tr_region ?_
  refine tr_p (y_move rfl) rfl rfl ?_
  obtain ⟨e5, H⟩ := H
  refine tr_p (y_quo rfl rfl e5) rfl rfl ?_
  refine tr_p (y_sub rfl rfl) rfl rfl ?_
  refine tr_p (y_assign rfl) rfl rfl ?_
  refine tr_nil ?_
  refine tr_thenN ?_
  refine tr_block ?_
  obtain ⟨m9, H⟩ := H
  refine tr_sub [(0, (.iface 90 (.pointer p0))), (2, (.int .i64 r4)), (3, (.int .i64 (IntKind.wrap .i64 ((IntKind.wrap .i64 (Int.tdiv r4 2)) - 1))))] ⟨rfl, rfl, rfl, trivial⟩ ?_
  refine tr_loop_j (fun m L' h => ∃ (x0 : Option Addr) (x2 : Int) (x3 : Int), L' = [(0, (.iface 90 (.pointer x0))), (2, (.int .i64 x2)), (3, (.int .i64 x3))] ∧ F.container_heap_Init.l1 Q m x0 x2 x3 h) ?_ ?_ m9 ⟨_, _, _, rfl, H⟩
  · rintro L' h ⟨_, _, _, _, H⟩; exact H
  · rintro q1 L' h ⟨x0, x2, x3, rfl, H⟩
    unfold F.container_heap_Init.l1 at H
    refine tr_seq ?_
    refine tr_seq ?_
    refine tr_region ?_
    refine tr_p (y_move rfl) rfl rfl ?_
    refine tr_p (y_geq rfl rfl) rfl rfl ?_
    refine tr_nil ?_
    refine tr_thenN ?_
    refine tr_cond rfl (fun g6 => ?_) (fun g6 => ?_)
    · replace H := H.1 g6
      refine tr_skip ?_
      refine tr_thenN ?_
      refine tr_seq ?_
      refine tr_block ?_
      refine tr_region ?_
      refine tr_p (y_move rfl) rfl rfl ?_
      refine tr_p (y_move rfl) rfl rfl ?_
      refine tr_p (y_move rfl) rfl rfl ?_
      refine tr_e (e_call Try.call54 rfl (F.container_heap_down_ok H)) rfl rfl ?_
      rintro _ h7 ⟨r8, rfl, H⟩
      refine tr_nil ?_
      refine tr_blockN ?_
      refine tr_thenN ?_
      refine tr_region ?_
      refine tr_p (y_move rfl) rfl rfl ?_
      refine tr_p (y_sub rfl rfl) rfl rfl ?_
      refine tr_p (y_assign rfl) rfl rfl ?_
      refine tr_nil ?_
      refine tr_thenN ?_
      exact tr_join [(0, (.iface 90 (.pointer x0))), (2, (.int .i64 x2)), (3, (.int .i64 (IntKind.wrap .i64 (x3 - 1))))] ⟨rfl, rfl, rfl, trivial⟩ ⟨_, _, _, rfl, H⟩
    · replace H := H.2 g6
      refine tr_exit ?_
      refine tr_thenE ?_
      refine tr_thenE ?_
      refine tr_hit ?_
      exact tr_end0 rfl ⟨rfl, H⟩
/-- (*spate/merge.fronts).Pop -/
def F.merge_fronts_Pop (p0 : Option Addr) (h : H) (Q : Value → H → Prop) : Prop :=
  nn p0 fun a1 =>
  ldL h a1 fun y3 =>
  idxA y3 (IntKind.wrap .i64 ((y3.len : Int) - 1)) 2 fun a5 =>
  ld_S_merge_front h a5 fun y7 =>
  new h (((⟨(⟨none, 0, 0⟩ : Sl), 0⟩ : S_merge_front) : S_merge_front).cells.toArray) ty_88 fun a10 h9 =>
  stH h9 a10 y7.cells fun h11 =>
  cutL y3 0 (IntKind.wrap .i64 ((y3.len : Int) - 1)) 2 fun s13 =>
  nn p0 fun a14 =>
  stH h11 a14 [s13.enc] fun h16 =>
  ld_S_merge_front h16 a10 fun y17 =>
  Q (.iface 88 (.agg y17.cells.toArray)) h16
theorem F.merge_fronts_Pop_ok {p0 : Option Addr} {h : H} {Q : Value → H → Prop} (H : F.merge_fronts_Pop p0 h Q) : Fn PP 77 ([(.pointer p0)] : List Value).toArray h fun r h' => ∃ r0, r = r0 ∧ Q r0 h' := by
  unfold F.merge_fronts_Pop at H
  refine fn_of Try.func77 Try.ntmps77 rfl rfl fun w0 => ?_
  refine tr_sub [(0, (.pointer p0))] ⟨rfl, trivial⟩ ?_
  refine tr_seq ?_
  refine tr_region ?_
  refine tr_p (y_assign rfl) rfl rfl ?_
  refine tr_nil ?_
  refine tr_thenN ?_
  refine tr_seq ?_
  refine tr_region ?_
  refine tr_p (y_move rfl) rfl rfl ?_
  obtain ⟨a1, e2, H⟩ := H
  refine tr_p (f_nn rfl e2) rfl rfl ?_
  obtain ⟨y3, k4, H⟩ := H
  refine tr_h (y_ld Try.isAgg86 rfl) k4 rfl rfl ?_
  refine tr_p (y_assign rfl) rfl rfl ?_
  refine tr_nil ?_
  refine tr_thenN ?_
  refine tr_seq ?_
  refine tr_region ?_
  refine tr_p (y_move rfl) rfl rfl ?_
  refine tr_p (y_move rfl) rfl rfl ?_
  refine tr_p (y_len (ts := #[]) Try.runUnderlying86 (o := y3.ptr) (n := y3.len) (cap := y3.cap) rfl) rfl rfl ?_
  refine tr_p (y_sub rfl rfl) rfl rfl ?_
  obtain ⟨a5, e6, H⟩ := H
  refine tr_p (f_idx (s := y3) Try.runUnderlying86 Try.sizeOf88 rfl rfl e6) rfl rfl ?_
  obtain ⟨y7, k8, H⟩ := H
  refine tr_h (y_ldS Try.isAgg88 Try.sizeOf88 rfl rfl) k8 rfl rfl ?_
  refine tr_e (f_alloc (cs := ((⟨(⟨none, 0, 0⟩ : Sl), 0⟩ : S_merge_front) : S_merge_front).cells.toArray) Try.zeroValue88 rfl H) rfl rfl ?_
  rintro _ h9 ⟨a10, rfl, H⟩
  refine tr_e (f_store (vs := y7.cells) Try.sizeOf88 rfl rfl cellsOfStruct rfl (by intro v hv; exact ones_S_merge_front _ v hv) H) rfl rfl ?_
  rintro _ h11 ⟨rfl, H⟩
  refine tr_nil ?_
  refine tr_thenN ?_
  refine tr_seq ?_
  refine tr_region ?_
  refine tr_p (y_move rfl) rfl rfl ?_
  refine tr_p (y_move rfl) rfl rfl ?_
  refine tr_p (y_move rfl) rfl rfl ?_
  refine tr_p (y_len (ts := #[]) Try.runUnderlying86 (o := y3.ptr) (n := y3.len) (cap := y3.cap) rfl) rfl rfl ?_
  refine tr_p (y_sub rfl rfl) rfl rfl ?_
  obtain ⟨s13, e12, H⟩ := H
  refine tr_p (f_cutL (s := y3) none (some (.i64, (IntKind.wrap .i64 ((y3.len : Int) - 1)))) Try.runUnderlying86 Try.sizeOf88 rfl rfl rfl e12) rfl rfl ?_
  obtain ⟨a14, e15, H⟩ := H
  refine tr_p (f_nn rfl e15) rfl rfl ?_
  refine tr_e (f_store (vs := [s13.enc]) Try.sizeOf86 rfl rfl rfl rfl (one1 rfl) H) rfl rfl ?_
  rintro _ h16 ⟨rfl, H⟩
  refine tr_nil ?_
  refine tr_thenN ?_
  refine tr_seq ?_
  refine tr_region ?_
  obtain ⟨y17, k18, H⟩ := H
  refine tr_h (y_ldS Try.isAgg88 Try.sizeOf88 rfl rfl) k18 rfl rfl ?_
  refine tr_p (y_mkif Try.runUnderlying88 rfl rfl) rfl rfl ?_
  refine tr_p (y_assign rfl) rfl rfl ?_
  refine tr_nil ?_
  refine tr_thenN ?_
  refine tr_ret ?_
  exact tr_ret1 rfl rfl ⟨_, rfl, H⟩
/-- container/heap.Pop -/
def F.container_heap_Pop (p0 : Option Addr) (h : H) (Q : Value → H → Prop) : Prop :=
  nn p0 fun a2 =>
  ldL h a2 fun y3 =>
  F.merge_fronts_Len y3 h fun r4 h1 =>
  nn p0 fun a6 =>
  ldL h1 a6 fun y7 =>
  F.merge_fronts_Swap y7 0 (IntKind.wrap .i64 (r4 - 1)) h1 fun h5 =>
  F.container_heap_down p0 0 (IntKind.wrap .i64 (r4 - 1)) h5 fun r9 h8 =>
  F.merge_fronts_Pop p0 h8 fun r11 h10 =>
  Q r11 h10
theorem F.container_heap_Pop_ok {p0 : Option Addr} {h : H} {Q : Value → H → Prop} (H : F.container_heap_Pop p0 h Q) : Fn PP 49 ([(.iface 90 (.pointer p0))] : List Value).toArray h fun r h' => ∃ r0, r = r0 ∧ Q r0 h' := by
  unfold F.container_heap_Pop at H
  refine fn_of Try.func49 Try.ntmps49 rfl rfl fun w0 => ?_
  refine tr_sub [(0, (.iface 90 (.pointer p0)))] ⟨rfl, trivial⟩ ?_
  refine tr_seq ?_
  refine tr_region ?_
  refine tr_p (y_assign rfl) rfl rfl ?_
  refine tr_nil ?_
  refine tr_thenN ?_
  refine tr_seq ?_
  refine tr_region ?_
  refine tr_p (y_move rfl) rfl rfl ?_
  refine tr_e (e_invL mt_90_Len Try.isAgg86 Try.call74 rfl rfl (inv_map (fun y3 H => (F.merge_fronts_Len_ok H)) H)) rfl rfl ?_
  rintro _ h1 ⟨r4, rfl, H⟩
  refine tr_p (y_sub rfl rfl) rfl rfl ?_
  refine tr_p (y_assign rfl) rfl rfl ?_
  refine tr_nil ?_
  refine tr_thenN ?_
  refine tr_seq ?_
  refine tr_region ?_
  refine tr_p (y_move rfl) rfl rfl ?_
  refine tr_p (y_move rfl) rfl rfl ?_
  refine tr_e (e_invL mt_90_Swap Try.isAgg86 Try.call76 rfl rfl (inv_map (fun y7 H => (F.merge_fronts_Swap_ok H)) H)) rfl rfl ?_
  rintro _ h5 ⟨rfl, H⟩
  refine tr_nil ?_
  refine tr_thenN ?_
  refine tr_seq ?_
  refine tr_region ?_
  refine tr_p (y_move rfl) rfl rfl ?_
  refine tr_p (y_move rfl) rfl rfl ?_
  refine tr_e (e_call Try.call54 rfl (F.container_heap_down_ok H)) rfl rfl ?_
  rintro _ h8 ⟨r9, rfl, H⟩
  refine tr_nil ?_
  refine tr_thenN ?_
  refine tr_seq ?_
  refine tr_region ?_
  refine tr_p (y_move rfl) rfl rfl ?_
  refine tr_e (e_invP mt_90_Pop Try.call77 rfl rfl (F.merge_fronts_Pop_ok H)) rfl rfl ?_
  rintro r11 h10 ⟨_, rfl, H⟩
  refine tr_p (y_assign rfl) rfl rfl ?_
  refine tr_nil ?_
  refine tr_thenN ?_
  refine tr_ret ?_
  exact tr_ret1 rfl rfl ⟨_, rfl, H⟩
def F.container_heap_up.j2 (Q : H → Prop) (C1 : (Option Addr) → Int → H → Prop) (x0 : Option Addr) (x1 : Int) (x4 : Int) (h : H) : Prop :=
  nn x0 fun a3 =>
  ldL h a3 fun y4 =>
  F.merge_fronts_Swap y4 x4 x1 h fun h2 =>
  C1 x0 x4 h2
def F.container_heap_up.j3 (Q : H → Prop) (C1 : (Option Addr) → Int → H → Prop) (x0 : Option Addr) (x1 : Int) (x4 : Int) (x17 : Bool) (h : H) : Prop :=
  (x17 = true →
  Q h) ∧
  (x17 = false →
  F.container_heap_up.j2 Q C1 x0 x1 x4 h)
def F.container_heap_up.l1 (Q : H → Prop) : Nat → (Option Addr) → Int → H → Prop
  | 0, _, _, _ => False
  | q1 + 1, x0, x1, h =>
    (2 : Int) ≠ 0 ∧
    ((((IntKind.wrap .i64 (Int.tdiv (IntKind.wrap .i64 (x1 - 1)) 2)) == x1)) = true →
    F.container_heap_up.j3 Q (F.container_heap_up.l1 Q q1) x0 x1 (IntKind.wrap .i64 (Int.tdiv (IntKind.wrap .i64 (x1 - 1)) 2)) true h) ∧
    ((((IntKind.wrap .i64 (Int.tdiv (IntKind.wrap .i64 (x1 - 1)) 2)) == x1)) = false →
    nn x0 fun a8 =>
    ldL h a8 fun y9 =>
    F.merge_fronts_Less y9 x1 (IntKind.wrap .i64 (Int.tdiv (IntKind.wrap .i64 (x1 - 1)) 2)) h fun r10 h7 =>
    F.container_heap_up.j3 Q (F.container_heap_up.l1 Q q1) x0 x1 (IntKind.wrap .i64 (Int.tdiv (IntKind.wrap .i64 (x1 - 1)) 2)) (!r10) h7)
/-- container/heap.up -/
def F.container_heap_up (p0 : Option Addr) (p1 : Int) (h : H) (Q : H → Prop) : Prop :=
  ∃ m, F.container_heap_up.l1 Q m p0 p1 h
theorem F.container_heap_up_ok {p0 : Option Addr} {p1 : Int} {h : H} {Q : H → Prop} (H : F.container_heap_up p0 p1 h Q) : Fn PP 55 ([(.iface 90 (.pointer p0)), (.int .i64 p1)] : List Value).toArray h fun r h' => r = .tuple #[] ∧ Q  h' := by
  unfold F.container_heap_up at H
  refine fn_of Try.func55 Try.ntmps55 rfl rfl fun w0 => ?_
  refine tr_sub [(0, (.iface 90 (.pointer p0))), (1, (.int .i64 p1))] ⟨rfl, rfl, trivial⟩ ?_
  refine tr_block ?_
  obtain ⟨m11, H⟩ := H
  refine tr_sub [(0, (.iface 90 (.pointer p0))), (1, (.int .i64 p1))] ⟨rfl, rfl, trivial⟩ ?_
  refine tr_loop_j (fun m L' h => ∃ (x0 : Option Addr) (x1 : Int), L' = [(0, (.iface 90 (.pointer x0))), (1, (.int .i64 x1))] ∧ F.container_heap_up.l1 Q m x0 x1 h) ?_ ?_ m11 ⟨_, _, rfl, H⟩
  · rintro L' h ⟨_, _, _, H⟩; exact H
  · rintro q1 L' h ⟨x0, x1, rfl, H⟩
    unfold F.container_heap_up.l1 at H
    refine tr_block ?_
    refine tr_seq ?_
    refine tr_region ?_
    refine tr_p (y_move rfl) rfl rfl ?_
    refine tr_p (y_sub rfl rfl) rfl rfl ?_
    obtain ⟨e1, H⟩ := H
    refine tr_p (y_quo rfl rfl e1) rfl rfl ?_
    refine tr_p (y_assign rfl) rfl rfl ?_
    refine tr_nil ?_
    refine tr_thenN ?_
    refine tr_seq_j (fun L' h => ∃ (x0 : Option Addr) (x1 : Int) (x4 : Int), L' = [(0, (.iface 90 (.pointer x0))), (1, (.int .i64 x1)), (4, (.int .i64 x4))] ∧ F.container_heap_up.j2 Q (F.container_heap_up.l1 Q q1) x0 x1 x4 h) ?_ ?_
    · rintro L' h ⟨x0, x1, x4, rfl, H⟩
      unfold F.container_heap_up.j2 at H
      refine tr_seq ?_
      refine tr_region ?_
      refine tr_p (y_move rfl) rfl rfl ?_
      refine tr_p (y_move rfl) rfl rfl ?_
      refine tr_p (y_move rfl) rfl rfl ?_
      refine tr_e (e_invL mt_90_Swap Try.isAgg86 Try.call76 rfl rfl (inv_map (fun y4 H => (F.merge_fronts_Swap_ok H)) H)) rfl rfl ?_
      rintro _ h2 ⟨rfl, H⟩
      refine tr_nil ?_
      refine tr_thenN ?_
      refine tr_region ?_
      refine tr_p (y_move rfl) rfl rfl ?_
      refine tr_p (y_assign rfl) rfl rfl ?_
      refine tr_nil ?_
      refine tr_blockN ?_
      refine tr_thenN ?_
      exact tr_join [(0, (.iface 90 (.pointer x0))), (1, (.int .i64 x4))] ⟨rfl, rfl, trivial⟩ ⟨_, _, rfl, H⟩
    · refine tr_seq_j (fun L' h => ∃ (x0 : Option Addr) (x1 : Int) (x4 : Int) (x17 : Bool), L' = [(0, (.iface 90 (.pointer x0))), (1, (.int .i64 x1)), (4, (.int .i64 x4)), (17, (.bool x17))] ∧ F.container_heap_up.j3 Q (F.container_heap_up.l1 Q q1) x0 x1 x4 x17 h) ?_ ?_
      · rintro L' h ⟨x0, x1, x4, x17, rfl, H⟩
        unfold F.container_heap_up.j3 at H
        refine tr_cond rfl (fun g5 => ?_) (fun g5 => ?_)
        · replace H := H.1 g5
          refine tr_exit ?_
          refine tr_thenE ?_
          refine tr_miss rfl ?_
          refine tr_thenE ?_
          refine tr_hit ?_
          exact tr_end0 rfl ⟨rfl, H⟩
        · replace H := H.2 g5
          refine tr_skip ?_
          refine tr_thenN ?_
          exact tr_join [(0, (.iface 90 (.pointer x0))), (1, (.int .i64 x1)), (4, (.int .i64 x4))] ⟨rfl, rfl, rfl, trivial⟩ ⟨_, _, _, rfl, H⟩
      · refine tr_region ?_
        refine tr_p (y_move rfl) rfl rfl ?_
        refine tr_p (y_move rfl) rfl rfl ?_
        refine tr_p (y_eql rfl rfl) rfl rfl ?_
        refine tr_p (y_move rfl) rfl rfl ?_
        refine tr_split (t := 11) rfl (fun g6 => ?_) (fun g6 => ?_)
        · replace H := H.1 g6
          refine tr_s rfl rfl ?_
          refine tr_s rfl rfl ?_
          refine tr_s rfl rfl ?_
          refine tr_s rfl rfl ?_
          refine tr_s rfl rfl ?_
          refine tr_p (y_pick_t rfl rfl) rfl rfl ?_
          refine tr_nil ?_
          refine tr_thenN ?_
          exact tr_join [(0, (.iface 90 (.pointer x0))), (1, (.int .i64 x1)), (4, (.int .i64 (IntKind.wrap .i64 (Int.tdiv (IntKind.wrap .i64 (x1 - 1)) 2)))), (17, (.bool true))] ⟨rfl, rfl, rfl, rfl, trivial⟩ ⟨_, _, _, _, rfl, H⟩
        · replace H := H.2 g6
          refine tr_p (y_move rfl) rfl rfl ?_
          refine tr_p (y_move rfl) rfl rfl ?_
          refine tr_p (y_move rfl) rfl rfl ?_
          refine tr_e (e_invL mt_90_Less Try.isAgg86 Try.call75 rfl rfl (inv_map (fun y9 H => (F.merge_fronts_Less_ok H)) H)) rfl rfl ?_
          rintro _ h7 ⟨r10, rfl, H⟩
          refine tr_p (y_not rfl) rfl rfl ?_
          refine tr_p (y_pick_f rfl rfl) rfl rfl ?_
          refine tr_nil ?_
          refine tr_thenN ?_
          exact tr_join [(0, (.iface 90 (.pointer x0))), (1, (.int .i64 x1)), (4, (.int .i64 (IntKind.wrap .i64 (Int.tdiv (IntKind.wrap .i64 (x1 - 1)) 2)))), (17, (.bool (!r10)))] ⟨rfl, rfl, rfl, rfl, trivial⟩ ⟨_, _, _, _, rfl, H⟩
/-- container/heap.Fix -/
def F.container_heap_Fix (p0 : Option Addr) (p1 : Int) (h : H) (Q : H → Prop) : Prop :=
  nn p0 fun a2 =>
  ldL h a2 fun y3 =>
  F.merge_fronts_Len y3 h fun r4 h1 =>
  F.container_heap_down p0 p1 r4 h1 fun r6 h5 =>
  ((!r6) = true →
  F.container_heap_up p0 p1 h5 fun h8 =>
  Q h8) ∧
  ((!r6) = false →
  Q h5)
theorem F.container_heap_Fix_ok {p0 : Option Addr} {p1 : Int} {h : H} {Q : H → Prop} (H : F.container_heap_Fix p0 p1 h Q) : Fn PP 50 ([(.iface 90 (.pointer p0)), (.int .i64 p1)] : List Value).toArray h fun r h' => r = .tuple #[] ∧ Q  h' := by
  unfold F.container_heap_Fix at H
  refine fn_of Try.func50 Try.ntmps50 rfl rfl fun w0 => ?_
  refine tr_sub [(0, (.iface 90 (.pointer p0))), (1, (.int .i64 p1))] ⟨rfl, rfl, trivial⟩ ?_
  refine tr_seq ?_
  refine tr_region ?_
  refine tr_p (y_move rfl) rfl rfl ?_
  refine tr_p (y_move rfl) rfl rfl ?_
  refine tr_p (y_move rfl) rfl rfl ?_
  refine tr_e (e_invL mt_90_Len Try.isAgg86 Try.call74 rfl rfl (inv_map (fun y3 H => (F.merge_fronts_Len_ok H)) H)) rfl rfl ?_
  rintro _ h1 ⟨r4, rfl, H⟩
  refine tr_e (e_call Try.call54 rfl (F.container_heap_down_ok H)) rfl rfl ?_
  rintro _ h5 ⟨r6, rfl, H⟩
  refine tr_p (y_not rfl) rfl rfl ?_
  refine tr_nil ?_
  refine tr_thenN ?_
  refine tr_cond rfl (fun g7 => ?_) (fun g7 => ?_)
  · replace H := H.1 g7
    refine tr_region ?_
    refine tr_p (y_move rfl) rfl rfl ?_
    refine tr_p (y_move rfl) rfl rfl ?_
    refine tr_e (e_call Try.call55 rfl (F.container_heap_up_ok H)) rfl rfl ?_
    rintro _ h8 ⟨rfl, H⟩
    refine tr_nil ?_
    exact tr_end0 rfl ⟨rfl, H⟩
  · replace H := H.2 g7
    refine tr_skip ?_
    exact tr_end0 rfl ⟨rfl, H⟩
def F.merge_Rows.j3 (Q : Sl → H → Prop) (C1 : Int → Addr → Sl → H → Prop) (x0 : Int) (x5 : Addr) (x8 : Sl) (h : H) : Prop :=
  ldL h x5 fun y17 =>
  idxA y17 0 2 fun a19 =>
  ldL h (a19.add 0) fun y21 =>
  idxA y21 0 7 fun a23 =>
  ld_S_api_Row h a23 fun y25 =>
  newL h ((y25.cells).toArray) ty_66 1 fun s28 h27 =>
  runL PP (Builtin.append_ #[51, 51] 51 #[x8.enc, s28.enc]) h27 fun s30 h29 =>
  ldL h29 x5 fun y31 =>
  ldL h29 x5 fun y33 =>
  idxA y33 0 2 fun a35 =>
  ldL h29 (a35.add 0) fun y37 =>
  cutL y37 1 (y37.len : Int) 7 fun s40 =>
  idxA y31 0 2 fun a41 =>
  stH h29 (a41.add 0) [s40.enc] fun h43 =>
  ldL h43 x5 fun y44 =>
  idxA y44 0 2 fun a46 =>
  ldL h43 (a46.add 0) fun y48 =>
  ((((y48.len : Int) == 0)) = true →
  F.container_heap_Pop (some x5) h43 fun r52 h51 =>
  C1 x0 x5 s30 h51) ∧
  ((((y48.len : Int) == 0)) = false →
  F.container_heap_Fix (some x5) 0 h43 fun h53 =>
  C1 x0 x5 s30 h53)
def F.merge_Rows.j4 (Q : Sl → H → Prop) (C1 : Int → Addr → Sl → H → Prop) (x0 : Int) (x5 : Addr) (x8 : Sl) (x36 : Bool) (h : H) : Prop :=
  (x36 = true →
  F.merge_Rows.j3 Q C1 x0 x5 x8 h) ∧
  (x36 = false →
  Q x8 h)
def F.merge_Rows.l2 (Q : Sl → H → Prop) : Nat → Int → Addr → Sl → H → Prop
  | 0, _, _, _, _ => False
  | q2 + 1, x0, x5, x8, h =>
    ldL h x5 fun y55 =>
    ((decide ((y55.len : Int) > 0)) = true →
    F.merge_Rows.j4 Q (F.merge_Rows.l2 Q q2) x0 x5 x8 (decide ((x8.len : Int) < x0)) h) ∧
    ((decide ((y55.len : Int) > 0)) = false →
    F.merge_Rows.j4 Q (F.merge_Rows.l2 Q q2) x0 x5 x8 false h)
def F.merge_Rows.l1 (Q : Sl → H → Prop) : Nat → Int → Addr → Sl → Int → Int → H → Prop
  | 0, _, _, _, _, _, _ => False
  | q1 + 1, x0, x5, x9, x10, x11, h =>
    ((decide (x11 < x10)) = true →
    idxA x9 x11 1 fun a4 =>
    ldL h a4 fun y6 =>
    ((decide ((y6.len : Int) > 0)) = true →
    ldL h x5 fun y9 =>
    newL h (((⟨y6, x11⟩ : S_merge_front).cells).toArray) ty_88 1 fun s12 h11 =>
    runL PP (Builtin.append_ #[86, 86] 86 #[y9.enc, s12.enc]) h11 fun s14 h13 =>
    stH h13 x5 [s14.enc] fun h15 =>
    (F.merge_Rows.l1 Q q1) x0 x5 x9 x10 (IntKind.wrap .i64 (x11 + 1)) h15) ∧
    ((decide ((y6.len : Int) > 0)) = false →
    (F.merge_Rows.l1 Q q1) x0 x5 x9 x10 (IntKind.wrap .i64 (x11 + 1)) h)) ∧
    ((decide (x11 < x10)) = false →
    F.container_heap_Init (some x5) h fun h16 =>
    ∃ m, F.merge_Rows.l2 Q m x0 x5 (⟨none, 0, 0⟩ : Sl) h16)
/-- spate/merge.Rows -/
def F.merge_Rows (p0 : Int) (p1 : Sl) (h : H) (Q : Sl → H → Prop) : Prop :=
  new h #[(⟨none, 0, 0⟩ : Sl).enc] ty_86 fun a2 h1 =>
  ∃ m, F.merge_Rows.l1 Q m p0 a2 p1 (p1.len : Int) 0 h1
theorem F.merge_Rows_ok {p0 : Int} {p1 : Sl} {h : H} {Q : Sl → H → Prop} (H : F.merge_Rows p0 p1 h Q) : Fn PP 31 ([(.int .i64 p0), p1.enc] : List Value).toArray h fun r h' => ∃ r0, r = r0.enc ∧ Q r0 h' := by
  unfold F.merge_Rows at H
  refine fn_of Try.func31 Try.ntmps31 rfl rfl fun w0 => ?_
  refine tr_sub [(0, (.int .i64 p0)), (1, p1.enc)] ⟨rfl, rfl, trivial⟩ ?_
  refine tr_seq ?_
  refine tr_region ?_
  refine tr_p (y_assign rfl) rfl rfl ?_
  refine tr_nil ?_
  refine tr_thenN ?_
  refine tr_seq ?_
  refine tr_region ?_
  refine tr_e (f_alloc (cs := #[(⟨none, 0, 0⟩ : Sl).enc]) Try.zeroValue86 rfl H) rfl rfl ?_
  rintro _ h1 ⟨a2, rfl, H⟩
  refine tr_nil ?_
  refine tr_thenN ?_
  refine tr_seq ?_
  refine tr_seq ?_
  refine tr_region ?_
  refine tr_p (y_move rfl) rfl rfl ?_
  refine tr_p (y_len (ts := #[]) Try.runUnderlying53 (o := p1.ptr) (n := p1.len) (cap := p1.cap) rfl) rfl rfl ?_
  refine tr_p (y_move rfl) rfl rfl ?_
  refine tr_nil ?_
  refine tr_thenN ?_
  refine tr_block ?_
  obtain ⟨m59, H⟩ := H
  refine tr_sub [(0, (.int .i64 p0)), (5, (.pointer (some a2))), (9, p1.enc), (10, (.int .i64 (p1.len : Int))), (11, (.int .i64 0))] ⟨rfl, rfl, rfl, rfl, rfl, trivial⟩ ?_
  refine tr_loop_j (fun m L' h => ∃ (x0 : Int) (x5 : Addr) (x9 : Sl) (x10 : Int) (x11 : Int), L' = [(0, (.int .i64 x0)), (5, (.pointer (some x5))), (9, x9.enc), (10, (.int .i64 x10)), (11, (.int .i64 x11))] ∧ F.merge_Rows.l1 Q m x0 x5 x9 x10 x11 h) ?_ ?_ m59 ⟨_, _, _, _, _, rfl, H⟩
  · rintro L' h ⟨_, _, _, _, _, _, H⟩; exact H
  · rintro q1 L' h ⟨x0, x5, x9, x10, x11, rfl, H⟩
    unfold F.merge_Rows.l1 at H
    refine tr_seq ?_
    refine tr_region ?_
    refine tr_p (y_lss rfl rfl) rfl rfl ?_
    refine tr_nil ?_
    refine tr_thenN ?_
    refine tr_seq ?_
    refine tr_cond rfl (fun g3 => ?_) (fun g3 => ?_)
    · replace H := H.1 g3
      refine tr_skip ?_
      refine tr_thenN ?_
      refine tr_seq ?_
      refine tr_block ?_
      refine tr_seq ?_
      refine tr_region ?_
      refine tr_p (y_move rfl) rfl rfl ?_
      obtain ⟨a4, e5, H⟩ := H
      refine tr_p (f_idx (s := x9) Try.runUnderlying53 Try.sizeOf51 rfl rfl e5) rfl rfl ?_
      obtain ⟨y6, k7, H⟩ := H
      refine tr_h (y_ld Try.isAgg51 rfl) k7 rfl rfl ?_
      refine tr_p (y_assign rfl) rfl rfl ?_
      refine tr_p (y_assign rfl) rfl rfl ?_
      refine tr_nil ?_
      refine tr_thenN ?_
      refine tr_seq ?_
      refine tr_region ?_
      refine tr_p (y_move rfl) rfl rfl ?_
      refine tr_p (y_len (ts := #[]) Try.runUnderlying51 (o := y6.ptr) (n := y6.len) (cap := y6.cap) rfl) rfl rfl ?_
      refine tr_p (y_gtr rfl rfl) rfl rfl ?_
      refine tr_nil ?_
      refine tr_thenN ?_
      refine tr_cond rfl (fun g8 => ?_) (fun g8 => ?_)
      · replace H := H.1 g8
        refine tr_region ?_
        obtain ⟨y9, k10, H⟩ := H
        refine tr_h (y_ld Try.isAgg86 rfl) k10 rfl rfl ?_
        refine tr_p (y_move rfl) rfl rfl ?_
        refine tr_p (y_move rfl) rfl rfl ?_
        refine tr_p (f_build rfl (bd_88_0_1 y6 x11)) rfl rfl ?_
        refine tr_e (f_buildL (cs := ((⟨y6, x11⟩ : S_merge_front).cells).toArray) rfl rfl (bl_86_1_0 (⟨y6, x11⟩ : S_merge_front)) H) rfl rfl ?_
        rintro _ h11 ⟨s12, rfl, H⟩
        refine tr_e (f_app rfl H) rfl rfl ?_
        rintro _ h13 ⟨s14, rfl, H⟩
        refine tr_e (f_store (vs := [s14.enc]) Try.sizeOf86 rfl rfl rfl rfl (one1 rfl) H) rfl rfl ?_
        rintro _ h15 ⟨rfl, H⟩
        refine tr_nil ?_
        refine tr_blockN ?_
        refine tr_thenN ?_
        refine tr_region ?_
        refine tr_p (y_add rfl rfl) rfl rfl ?_
        refine tr_p (y_move rfl) rfl rfl ?_
        refine tr_nil ?_
        refine tr_thenN ?_
        exact tr_join [(0, (.int .i64 x0)), (5, (.pointer (some x5))), (9, x9.enc), (10, (.int .i64 x10)), (11, (.int .i64 (IntKind.wrap .i64 (x11 + 1))))] ⟨rfl, rfl, rfl, rfl, rfl, trivial⟩ ⟨_, _, _, _, _, rfl, H⟩
      · replace H := H.2 g8
        refine tr_skip ?_
        refine tr_blockN ?_
        refine tr_thenN ?_
        refine tr_region ?_
        refine tr_p (y_add rfl rfl) rfl rfl ?_
        refine tr_p (y_move rfl) rfl rfl ?_
        refine tr_nil ?_
        refine tr_thenN ?_
        exact tr_join [(0, (.int .i64 x0)), (5, (.pointer (some x5))), (9, x9.enc), (10, (.int .i64 x10)), (11, (.int .i64 (IntKind.wrap .i64 (x11 + 1))))] ⟨rfl, rfl, rfl, rfl, rfl, trivial⟩ ⟨_, _, _, _, _, rfl, H⟩
    · replace H := H.2 g3
      refine tr_exit ?_
      refine tr_thenE ?_
      refine tr_thenE ?_
      refine tr_hit ?_
      refine tr_thenN ?_
      refine tr_seq ?_
      refine tr_region ?_
      refine tr_p (y_mkif Try.runUnderlying90 rfl rfl) rfl rfl ?_
      refine tr_e (e_call Try.call48 rfl (F.container_heap_Init_ok H)) rfl rfl ?_
      rintro _ h16 ⟨rfl, H⟩
      refine tr_nil ?_
      refine tr_thenN ?_
      refine tr_seq ?_
      refine tr_region ?_
      refine tr_p (y_assign rfl) rfl rfl ?_
      refine tr_nil ?_
      refine tr_thenN ?_
      refine tr_seq ?_
      refine tr_block ?_
      obtain ⟨m58, H⟩ := H
      refine tr_sub [(0, (.int .i64 x0)), (5, (.pointer (some x5))), (8, (⟨none, 0, 0⟩ : Sl).enc)] ⟨rfl, rfl, rfl, trivial⟩ ?_
      refine tr_loop_j (fun m L' h => ∃ (x0 : Int) (x5 : Addr) (x8 : Sl), L' = [(0, (.int .i64 x0)), (5, (.pointer (some x5))), (8, x8.enc)] ∧ F.merge_Rows.l2 Q m x0 x5 x8 h) ?_ ?_ m58 ⟨_, _, _, rfl, H⟩
      · rintro L' h ⟨_, _, _, _, H⟩; exact H
      · rintro q2 L' h ⟨x0, x5, x8, rfl, H⟩
        unfold F.merge_Rows.l2 at H
        refine tr_seq_j (fun L' h => ∃ (x0 : Int) (x5 : Addr) (x8 : Sl), L' = [(0, (.int .i64 x0)), (5, (.pointer (some x5))), (8, x8.enc)] ∧ F.merge_Rows.j3 Q (F.merge_Rows.l2 Q q2) x0 x5 x8 h) ?_ ?_
        · rintro L' h ⟨x0, x5, x8, rfl, H⟩
          unfold F.merge_Rows.j3 at H
          refine tr_block ?_
          refine tr_seq ?_
          refine tr_region ?_
          refine tr_p (y_move rfl) rfl rfl ?_
          obtain ⟨y17, k18, H⟩ := H
          refine tr_h (y_ld Try.isAgg86 rfl) k18 rfl rfl ?_
          obtain ⟨a19, e20, H⟩ := H
          refine tr_p (f_idx (s := y17) Try.runUnderlying86 Try.sizeOf88 rfl rfl e20) rfl rfl ?_
          refine tr_p (y_fa (off := 0) Try.runUnderlying88 fo_88_0 rfl) rfl rfl ?_
          obtain ⟨y21, k22, H⟩ := H
          refine tr_h (y_ld Try.isAgg51 rfl) k22 rfl rfl ?_
          obtain ⟨a23, e24, H⟩ := H
          refine tr_p (f_idx (s := y21) Try.runUnderlying51 Try.sizeOf66 rfl rfl e24) rfl rfl ?_
          obtain ⟨y25, k26, H⟩ := H
          refine tr_h (y_ldS Try.isAgg66 Try.sizeOf66 rfl rfl) k26 rfl rfl ?_
          refine tr_e (f_buildL (cs := (y25.cells).toArray) rfl rfl (bl_51_1_0 y25) H) rfl rfl ?_
          rintro _ h27 ⟨s28, rfl, H⟩
          refine tr_e (f_app rfl H) rfl rfl ?_
          rintro _ h29 ⟨s30, rfl, H⟩
          refine tr_p (y_assign rfl) rfl rfl ?_
          refine tr_nil ?_
          refine tr_thenN ?_
          refine tr_seq ?_
          refine tr_draw mixed [0, 0, 2, 6, 14, 30, 63, 127, 255] (by kernel_rfl) ?_
          obtain ⟨y31, k32, H⟩ := H
          refine g_h 0 1 rfl (by kernel_rfl) (y_ld Try.isAgg86 rfl) k32 rfl rfl ?_
          obtain ⟨y33, k34, H⟩ := H
          refine g_h 1 3 rfl (by kernel_rfl) (y_ld Try.isAgg86 rfl) k34 rfl rfl ?_
          obtain ⟨a35, e36, H⟩ := H
          refine g_p 2 7 rfl (by kernel_rfl) (f_idx (s := y33) Try.runUnderlying86 Try.sizeOf88 rfl rfl e36) rfl rfl ?_
          refine g_p 3 15 rfl (by kernel_rfl) (y_fa (off := 0) Try.runUnderlying88 fo_88_0 rfl) rfl rfl ?_
          obtain ⟨y37, k38, H⟩ := H
          refine g_h 4 31 rfl (by kernel_rfl) (y_ld Try.isAgg51 rfl) k38 rfl rfl ?_
          obtain ⟨s40, e39, H⟩ := H
          refine g_p 5 63 rfl (by kernel_rfl) (f_cutL (s := y37) (some (.i64, 1)) none Try.runUnderlying51 Try.sizeOf66 rfl rfl rfl e39) rfl rfl ?_
          obtain ⟨a41, e42, H⟩ := H
          refine g_p 6 127 rfl (by kernel_rfl) (f_idx (s := y31) Try.runUnderlying86 Try.sizeOf88 rfl rfl e42) rfl rfl ?_
          refine g_p 7 255 rfl (by kernel_rfl) (y_fa (off := 0) Try.runUnderlying88 fo_88_0 rfl) rfl rfl ?_
          refine g_e 8 511 [] (by kernel_rfl) rfl (by kernel_rfl) (f_store (vs := [s40.enc]) Try.sizeOf51 rfl rfl rfl rfl (one1 rfl) H) rfl rfl ?_
          rintro _ h43 ⟨rfl, H⟩
          refine ⟨trivial, ?_⟩
          refine g_d (by kernel_rfl) ?_
          refine tr_thenN ?_
          refine tr_seq ?_
          refine tr_region ?_
          obtain ⟨y44, k45, H⟩ := H
          refine tr_h (y_ld Try.isAgg86 rfl) k45 rfl rfl ?_
          obtain ⟨a46, e47, H⟩ := H
          refine tr_p (f_idx (s := y44) Try.runUnderlying86 Try.sizeOf88 rfl rfl e47) rfl rfl ?_
          refine tr_p (y_fa (off := 0) Try.runUnderlying88 fo_88_0 rfl) rfl rfl ?_
          obtain ⟨y48, k49, H⟩ := H
          refine tr_h (y_ld Try.isAgg51 rfl) k49 rfl rfl ?_
          refine tr_p (y_len (ts := #[]) Try.runUnderlying51 (o := y48.ptr) (n := y48.len) (cap := y48.cap) rfl) rfl rfl ?_
          refine tr_p (y_eql rfl rfl) rfl rfl ?_
          refine tr_nil ?_
          refine tr_thenN ?_
          refine tr_cond rfl (fun g50 => ?_) (fun g50 => ?_)
          · replace H := H.1 g50
            refine tr_region ?_
            refine tr_p (y_mkif Try.runUnderlying90 rfl rfl) rfl rfl ?_
            refine tr_e (e_call Try.call49 rfl (F.container_heap_Pop_ok H)) rfl rfl ?_
            rintro r52 h51 ⟨_, rfl, H⟩
            refine tr_nil ?_
            refine tr_blockN ?_
            refine tr_thenN ?_
            exact tr_join [(0, (.int .i64 x0)), (5, (.pointer (some x5))), (8, s30.enc)] ⟨rfl, rfl, rfl, trivial⟩ ⟨_, _, _, rfl, H⟩
          · replace H := H.2 g50
            refine tr_region ?_
            refine tr_p (y_mkif Try.runUnderlying90 rfl rfl) rfl rfl ?_
            refine tr_e (e_call Try.call50 rfl (F.container_heap_Fix_ok H)) rfl rfl ?_
            rintro _ h53 ⟨rfl, H⟩
            refine tr_nil ?_
            refine tr_blockN ?_
            refine tr_thenN ?_
            exact tr_join [(0, (.int .i64 x0)), (5, (.pointer (some x5))), (8, s30.enc)] ⟨rfl, rfl, rfl, trivial⟩ ⟨_, _, _, rfl, H⟩
        · refine tr_seq_j (fun L' h => ∃ (x0 : Int) (x5 : Addr) (x8 : Sl) (x36 : Bool), L' = [(0, (.int .i64 x0)), (5, (.pointer (some x5))), (8, x8.enc), (36, (.bool x36))] ∧ F.merge_Rows.j4 Q (F.merge_Rows.l2 Q q2) x0 x5 x8 x36 h) ?_ ?_
          · rintro L' h ⟨x0, x5, x8, x36, rfl, H⟩
            unfold F.merge_Rows.j4 at H
            refine tr_cond rfl (fun g54 => ?_) (fun g54 => ?_)
            · replace H := H.1 g54
              refine tr_skip ?_
              refine tr_thenN ?_
              exact tr_join [(0, (.int .i64 x0)), (5, (.pointer (some x5))), (8, x8.enc)] ⟨rfl, rfl, rfl, trivial⟩ ⟨_, _, _, rfl, H⟩
            · replace H := H.2 g54
              refine tr_exit ?_
              refine tr_thenE ?_
              refine tr_thenE ?_
              refine tr_hit ?_
              refine tr_thenN ?_
              refine tr_seq ?_
              refine tr_region ?_
              refine tr_p (y_move rfl) rfl rfl ?_
              refine tr_p (y_assign rfl) rfl rfl ?_
              refine tr_nil ?_
              refine tr_thenN ?_
              refine tr_ret ?_
              exact tr_ret1 rfl rfl ⟨_, rfl, H⟩
          · refine tr_region ?_
            obtain ⟨y55, k56, H⟩ := H
            refine tr_h (y_ld Try.isAgg86 rfl) k56 rfl rfl ?_
            refine tr_p (y_len (ts := #[]) Try.runUnderlying86 (o := y55.ptr) (n := y55.len) (cap := y55.cap) rfl) rfl rfl ?_
            refine tr_p (y_gtr rfl rfl) rfl rfl ?_
            refine tr_p (y_move rfl) rfl rfl ?_
            refine tr_split (t := 31) rfl (fun g57 => ?_) (fun g57 => ?_)
            · replace H := H.1 g57
              refine tr_p (y_move rfl) rfl rfl ?_
              refine tr_p (y_len (ts := #[]) Try.runUnderlying51 (o := x8.ptr) (n := x8.len) (cap := x8.cap) rfl) rfl rfl ?_
              refine tr_p (y_move rfl) rfl rfl ?_
              refine tr_p (y_lss rfl rfl) rfl rfl ?_
              refine tr_p (y_pick_t rfl rfl) rfl rfl ?_
              refine tr_nil ?_
              refine tr_thenN ?_
              exact tr_join [(0, (.int .i64 x0)), (5, (.pointer (some x5))), (8, x8.enc), (36, (.bool (decide ((x8.len : Int) < x0))))] ⟨rfl, rfl, rfl, rfl, trivial⟩ ⟨_, _, _, _, rfl, H⟩
            · replace H := H.2 g57
              refine tr_s rfl rfl ?_
              refine tr_s rfl rfl ?_
              refine tr_s rfl rfl ?_
              refine tr_s rfl rfl ?_
              refine tr_p (y_pick_f rfl rfl) rfl rfl ?_
              refine tr_nil ?_
              refine tr_thenN ?_
              exact tr_join [(0, (.int .i64 x0)), (5, (.pointer (some x5))), (8, x8.enc), (36, (.bool false))] ⟨rfl, rfl, rfl, rfl, trivial⟩ ⟨_, _, _, _, rfl, H⟩
end Go.Proofs.Ytidpbnbjpglhfaa.V
namespace Go.Proofs.Ytidpbnbjpglhfaa.V
open Go
set_option linter.unusedVariables false
set_option maxRecDepth 100000
def F.spateref8_Rows.j1 (Q : Sl → H → Prop) (x5 : Sl) (h : H) : Prop :=
  Q x5 h
def F.spateref8_Rows.j4 (Q : Sl → H → Prop) (C1 : Int → Sl → Sl → Sl → H → Prop) (C2 : Int → Sl → Sl → Sl → Int → Int → H → Prop) (x0 : Int) (x1 : Sl) (x5 : Sl) (x6 : Sl) (x7 : Int) (x8 : Int) (h : H) : Prop :=
  C2 x0 x1 x5 x6 x7 (IntKind.wrap .i64 (x8 + 1)) h
def F.spateref8_Rows.j5 (Q : Sl → H → Prop) (C1 : Int → Sl → Sl → Sl → H → Prop) (C2 : Int → Sl → Sl → Sl → Int → Int → H → Prop) (x0 : Int) (x1 : Sl) (x5 : Sl) (x6 : Sl) (x7 : Int) (x8 : Int) (x61 : Bool) (h : H) : Prop :=
  (x61 = true →
  F.spateref8_Rows.j4 Q C1 C2 x0 x1 x5 x6 x8 x8 h) ∧
  (x61 = false →
  F.spateref8_Rows.j4 Q C1 C2 x0 x1 x5 x6 x7 x8 h)
def F.spateref8_Rows.l3 (Q : Sl → H → Prop) (C1 : Int → Sl → Sl → Sl → H → Prop) : Nat → Int → Sl → Sl → Sl → Int → Int → H → Prop
  | 0, _, _, _, _, _, _, _ => False
  | q3 + 1, x0, x1, x5, x6, x7, x8, h =>
    ((decide (x8 < (x1.len : Int))) = true →
    idxA x6 x8 1 fun a6 =>
    ldI .i64 h a6 fun y8 =>
    idxA x1 x8 1 fun a10 =>
    ldL h a10 fun y12 =>
    ((decide (y8 < (y12.len : Int))) = true →
    ((decide (x7 < 0)) = true →
    F.spateref8_Rows.j5 Q C1 (F.spateref8_Rows.l3 Q C1 q3) x0 x1 x5 x6 x7 x8 true h) ∧
    ((decide (x7 < 0)) = false →
    idxA x1 x8 1 fun a16 =>
    ldL h a16 fun y18 =>
    idxA x6 x8 1 fun a20 =>
    ldI .i64 h a20 fun y22 =>
    idxA y18 y22 7 fun a24 =>
    ld_S_api_Cell h (a24.add 0) fun y26 =>
    idxA x1 x7 1 fun a28 =>
    ldL h a28 fun y30 =>
    idxA x6 x7 1 fun a32 =>
    ldI .i64 h a32 fun y34 =>
    idxA y30 y34 7 fun a36 =>
    ld_S_api_Cell h (a36.add 0) fun y38 =>
    F.spateref8_Compare y26 y38 h fun r41 h40 =>
    F.spateref8_Rows.j5 Q C1 (F.spateref8_Rows.l3 Q C1 q3) x0 x1 x5 x6 x7 x8 (decide (r41 < 0)) h40)) ∧
    ((decide (y8 < (y12.len : Int))) = false →
    F.spateref8_Rows.j5 Q C1 (F.spateref8_Rows.l3 Q C1 q3) x0 x1 x5 x6 x7 x8 false h)) ∧
    ((decide (x8 < (x1.len : Int))) = false →
    ((decide (x7 < 0)) = true →
    F.spateref8_Rows.j1 Q x5 h) ∧
    ((decide (x7 < 0)) = false →
    idxA x1 x7 1 fun a43 =>
    ldL h a43 fun y45 =>
    idxA x6 x7 1 fun a47 =>
    ldI .i64 h a47 fun y49 =>
    idxA y45 y49 7 fun a51 =>
    ld_S_api_Row h a51 fun y53 =>
    newL h ((y53.cells).toArray) ty_66 1 fun s56 h55 =>
    runL PP (Builtin.append_ #[51, 51] 51 #[x5.enc, s56.enc]) h55 fun s58 h57 =>
    idxA x6 x7 1 fun a59 =>
    ldI .i64 h57 a59 fun y61 =>
    idxA x6 x7 1 fun a63 =>
    stH h57 a63 [(.int .i64 (IntKind.wrap .i64 (y61 + 1)))] fun h65 =>
    C1 x0 x1 s58 x6 h65))
def F.spateref8_Rows.l2 (Q : Sl → H → Prop) : Nat → Int → Sl → Sl → Sl → H → Prop
  | 0, _, _, _, _, _ => False
  | q2 + 1, x0, x1, x5, x6, h =>
    ((decide ((x5.len : Int) < x0)) = true →
    ∃ m, F.spateref8_Rows.l3 Q (F.spateref8_Rows.l2 Q q2) m x0 x1 x5 x6 (-1) 0 h) ∧
    ((decide ((x5.len : Int) < x0)) = false →
    F.spateref8_Rows.j1 Q x5 h)
/-- spate/spateref8.Rows -/
def F.spateref8_Rows (p0 : Int) (p1 : Sl) (h : H) (Q : Sl → H → Prop) : Prop :=
  runL PP (Instr.makeSlice 23 (.int .i64 (p1.len : Int)) (.int .i64 (p1.len : Int))) h fun s2 h1 =>
  ∃ m, F.spateref8_Rows.l2 Q m p0 p1 (⟨none, 0, 0⟩ : Sl) s2 h1
theorem F.spateref8_Rows_ok {p0 : Int} {p1 : Sl} {h : H} {Q : Sl → H → Prop} (H : F.spateref8_Rows p0 p1 h Q) : Fn PP 33 ([(.int .i64 p0), p1.enc] : List Value).toArray h fun r h' => ∃ r0, r = r0.enc ∧ Q r0 h' := by
  unfold F.spateref8_Rows at H
  refine fn_of Try.func33 Try.ntmps33 rfl rfl fun w0 => ?_
  refine tr_sub [(0, (.int .i64 p0)), (1, p1.enc)] ⟨rfl, rfl, trivial⟩ ?_
  refine tr_seq ?_
  refine tr_region ?_
  refine tr_p (y_assign rfl) rfl rfl ?_
  refine tr_nil ?_
  refine tr_thenN ?_
  refine tr_seq ?_
  refine tr_region ?_
  refine tr_p (y_assign rfl) rfl rfl ?_
  refine tr_nil ?_
  refine tr_thenN ?_
  refine tr_seq ?_
  refine tr_region ?_
  refine tr_p (y_move rfl) rfl rfl ?_
  refine tr_p (y_len (ts := #[]) Try.runUnderlying53 (o := p1.ptr) (n := p1.len) (cap := p1.cap) rfl) rfl rfl ?_
  refine tr_e (f_make rfl rfl H) rfl rfl ?_
  rintro _ h1 ⟨s2, rfl, H⟩
  refine tr_p (y_assign rfl) rfl rfl ?_
  refine tr_nil ?_
  refine tr_thenN ?_
  refine tr_seq_j (fun L' h => ∃ (x5 : Sl), L' = [(5, x5.enc)] ∧ F.spateref8_Rows.j1 Q x5 h) ?_ ?_
  · rintro L' h ⟨x5, rfl, H⟩
    unfold F.spateref8_Rows.j1 at H
    refine tr_seq ?_
    refine tr_region ?_
    refine tr_p (y_move rfl) rfl rfl ?_
    refine tr_p (y_assign rfl) rfl rfl ?_
    refine tr_nil ?_
    refine tr_thenN ?_
    refine tr_ret ?_
    exact tr_ret1 rfl rfl ⟨_, rfl, H⟩
  · refine tr_block ?_
    obtain ⟨m67, H⟩ := H
    refine tr_sub [(0, (.int .i64 p0)), (1, p1.enc), (5, (⟨none, 0, 0⟩ : Sl).enc), (6, s2.enc)] ⟨rfl, rfl, rfl, rfl, trivial⟩ ?_
    refine tr_loop_j (fun m L' h => ∃ (x0 : Int) (x1 : Sl) (x5 : Sl) (x6 : Sl), L' = [(0, (.int .i64 x0)), (1, x1.enc), (5, x5.enc), (6, x6.enc)] ∧ F.spateref8_Rows.l2 Q m x0 x1 x5 x6 h) ?_ ?_ m67 ⟨_, _, _, _, rfl, H⟩
    · rintro L' h ⟨_, _, _, _, _, H⟩; exact H
    · rintro q2 L' h ⟨x0, x1, x5, x6, rfl, H⟩
      unfold F.spateref8_Rows.l2 at H
      refine tr_seq ?_
      refine tr_seq ?_
      refine tr_region ?_
      refine tr_p (y_move rfl) rfl rfl ?_
      refine tr_p (y_len (ts := #[]) Try.runUnderlying51 (o := x5.ptr) (n := x5.len) (cap := x5.cap) rfl) rfl rfl ?_
      refine tr_p (y_move rfl) rfl rfl ?_
      refine tr_p (y_lss rfl rfl) rfl rfl ?_
      refine tr_nil ?_
      refine tr_thenN ?_
      refine tr_cond rfl (fun g3 => ?_) (fun g3 => ?_)
      · replace H := H.1 g3
        refine tr_skip ?_
        refine tr_thenN ?_
        refine tr_block ?_
        refine tr_seq ?_
        refine tr_region ?_
        refine tr_p (y_assign rfl) rfl rfl ?_
        refine tr_nil ?_
        refine tr_thenN ?_
        refine tr_seq ?_
        refine tr_seq ?_
        refine tr_region ?_
        refine tr_p (y_assign rfl) rfl rfl ?_
        refine tr_nil ?_
        refine tr_thenN ?_
        refine tr_block ?_
        obtain ⟨m66, H⟩ := H
        refine tr_sub [(0, (.int .i64 x0)), (1, x1.enc), (5, x5.enc), (6, x6.enc), (7, (.int .i64 (-1))), (8, (.int .i64 0))] ⟨rfl, rfl, rfl, rfl, rfl, rfl, trivial⟩ ?_
        refine tr_loop_j (fun m L' h => ∃ (x0 : Int) (x1 : Sl) (x5 : Sl) (x6 : Sl) (x7 : Int) (x8 : Int), L' = [(0, (.int .i64 x0)), (1, x1.enc), (5, x5.enc), (6, x6.enc), (7, (.int .i64 x7)), (8, (.int .i64 x8))] ∧ F.spateref8_Rows.l3 Q (F.spateref8_Rows.l2 Q q2) m x0 x1 x5 x6 x7 x8 h) ?_ ?_ m66 ⟨_, _, _, _, _, _, rfl, H⟩
        · rintro L' h ⟨_, _, _, _, _, _, _, H⟩; exact H
        · rintro q3 L' h ⟨x0, x1, x5, x6, x7, x8, rfl, H⟩
          unfold F.spateref8_Rows.l3 at H
          refine tr_seq ?_
          refine tr_seq ?_
          refine tr_region ?_
          refine tr_p (y_move rfl) rfl rfl ?_
          refine tr_p (y_move rfl) rfl rfl ?_
          refine tr_p (y_len (ts := #[]) Try.runUnderlying53 (o := x1.ptr) (n := x1.len) (cap := x1.cap) rfl) rfl rfl ?_
          refine tr_p (y_lss rfl rfl) rfl rfl ?_
          refine tr_nil ?_
          refine tr_thenN ?_
          refine tr_cond rfl (fun g4 => ?_) (fun g4 => ?_)
          · replace H := H.1 g4
            refine tr_skip ?_
            refine tr_thenN ?_
            refine tr_seq_j (fun L' h => ∃ (x0 : Int) (x1 : Sl) (x5 : Sl) (x6 : Sl) (x7 : Int) (x8 : Int), L' = [(0, (.int .i64 x0)), (1, x1.enc), (5, x5.enc), (6, x6.enc), (7, (.int .i64 x7)), (8, (.int .i64 x8))] ∧ F.spateref8_Rows.j4 Q (F.spateref8_Rows.l2 Q q2) (F.spateref8_Rows.l3 Q (F.spateref8_Rows.l2 Q q2) q3) x0 x1 x5 x6 x7 x8 h) ?_ ?_
            · rintro L' h ⟨x0, x1, x5, x6, x7, x8, rfl, H⟩
              unfold F.spateref8_Rows.j4 at H
              refine tr_region ?_
              refine tr_p (y_move rfl) rfl rfl ?_
              refine tr_p (y_add rfl rfl) rfl rfl ?_
              refine tr_p (y_assign rfl) rfl rfl ?_
              refine tr_nil ?_
              refine tr_thenN ?_
              exact tr_join [(0, (.int .i64 x0)), (1, x1.enc), (5, x5.enc), (6, x6.enc), (7, (.int .i64 x7)), (8, (.int .i64 (IntKind.wrap .i64 (x8 + 1))))] ⟨rfl, rfl, rfl, rfl, rfl, rfl, trivial⟩ ⟨_, _, _, _, _, _, rfl, H⟩
            · refine tr_block ?_
              refine tr_seq_j (fun L' h => ∃ (x0 : Int) (x1 : Sl) (x5 : Sl) (x6 : Sl) (x7 : Int) (x8 : Int) (x61 : Bool), L' = [(0, (.int .i64 x0)), (1, x1.enc), (5, x5.enc), (6, x6.enc), (7, (.int .i64 x7)), (8, (.int .i64 x8)), (61, (.bool x61))] ∧ F.spateref8_Rows.j5 Q (F.spateref8_Rows.l2 Q q2) (F.spateref8_Rows.l3 Q (F.spateref8_Rows.l2 Q q2) q3) x0 x1 x5 x6 x7 x8 x61 h) ?_ ?_
              · rintro L' h ⟨x0, x1, x5, x6, x7, x8, x61, rfl, H⟩
                unfold F.spateref8_Rows.j5 at H
                refine tr_cond rfl (fun g5 => ?_) (fun g5 => ?_)
                · replace H := H.1 g5
                  refine tr_region ?_
                  refine tr_p (y_move rfl) rfl rfl ?_
                  refine tr_p (y_assign rfl) rfl rfl ?_
                  refine tr_nil ?_
                  refine tr_blockN ?_
                  refine tr_thenN ?_
                  exact tr_join [(0, (.int .i64 x0)), (1, x1.enc), (5, x5.enc), (6, x6.enc), (7, (.int .i64 x8)), (8, (.int .i64 x8))] ⟨rfl, rfl, rfl, rfl, rfl, rfl, trivial⟩ ⟨_, _, _, _, _, _, rfl, H⟩
                · replace H := H.2 g5
                  refine tr_skip ?_
                  refine tr_blockN ?_
                  refine tr_thenN ?_
                  exact tr_join [(0, (.int .i64 x0)), (1, x1.enc), (5, x5.enc), (6, x6.enc), (7, (.int .i64 x7)), (8, (.int .i64 x8))] ⟨rfl, rfl, rfl, rfl, rfl, rfl, trivial⟩ ⟨_, _, _, _, _, _, rfl, H⟩
              · refine tr_draw mixed [0, 0, 3, 7, 0, 0, 48, 112, 240, 511, 1023, 2047, 4095, 8191, 16383, 16383, 65535, 131071, 16383, 16383, 802815, 1851391, 4194303, 8388607, 16777215, 16383, 16383, 100679679, 234897407, 16383, 16383, 1610629119, 3758112767, 8556396543, 17146331135, 34326200319, 68719476735, 137438953471, 274877906943, 549755813887] (by kernel_rfl) ?_
                refine g_p 0 1 rfl (by kernel_rfl) (y_move rfl) rfl rfl ?_
                refine g_p 1 3 rfl (by kernel_rfl) (y_move rfl) rfl rfl ?_
                obtain ⟨a6, e7, H⟩ := H
                refine g_p 2 7 rfl (by kernel_rfl) (f_idx (s := x6) Try.runUnderlying23 Try.sizeOf3 rfl rfl e7) rfl rfl ?_
                obtain ⟨y8, k9, H⟩ := H
                refine g_h 3 15 rfl (by kernel_rfl) (y_ld Try.isAgg3 rfl) k9 rfl rfl ?_
                refine g_p 4 31 rfl (by kernel_rfl) (y_move rfl) rfl rfl ?_
                refine g_p 5 63 rfl (by kernel_rfl) (y_move rfl) rfl rfl ?_
                obtain ⟨a10, e11, H⟩ := H
                refine g_p 6 127 rfl (by kernel_rfl) (f_idx (s := x1) Try.runUnderlying53 Try.sizeOf51 rfl rfl e11) rfl rfl ?_
                obtain ⟨y12, k13, H⟩ := H
                refine g_h 7 255 rfl (by kernel_rfl) (y_ld Try.isAgg51 rfl) k13 rfl rfl ?_
                refine g_p 8 511 rfl (by kernel_rfl) (y_len (ts := #[]) Try.runUnderlying51 (o := y12.ptr) (n := y12.len) (cap := y12.cap) rfl) rfl rfl ?_
                refine g_p 9 1023 rfl (by kernel_rfl) (y_lss rfl rfl) rfl rfl ?_
                refine g_p 10 2047 rfl (by kernel_rfl) (y_move rfl) rfl rfl ?_
                refine g_split (t := 32) rfl (fun g14 => ?_) (fun g14 => ?_)
                · replace H := H.1 g14
                  refine g_p 11 4095 rfl (by kernel_rfl) (y_move rfl) rfl rfl ?_
                  refine g_p 12 8191 rfl (by kernel_rfl) (y_lss rfl rfl) rfl rfl ?_
                  refine g_p 13 16383 rfl (by kernel_rfl) (y_move rfl) rfl rfl ?_
                  refine g_split (t := 35) rfl (fun g15 => ?_) (fun g15 => ?_)
                  · replace H := H.1 g15
                    refine g_s 14 32767 rfl (by kernel_rfl) rfl rfl ?_
                    refine g_s 15 65535 rfl (by kernel_rfl) rfl rfl ?_
                    refine g_s 16 131071 rfl (by kernel_rfl) rfl rfl ?_
                    refine g_s 17 262143 rfl (by kernel_rfl) rfl rfl ?_
                    refine g_s 18 524287 rfl (by kernel_rfl) rfl rfl ?_
                    refine g_s 19 1048575 rfl (by kernel_rfl) rfl rfl ?_
                    refine g_s 20 2097151 rfl (by kernel_rfl) rfl rfl ?_
                    refine g_s 21 4194303 rfl (by kernel_rfl) rfl rfl ?_
                    refine g_s 22 8388607 rfl (by kernel_rfl) rfl rfl ?_
                    refine g_s 23 16777215 rfl (by kernel_rfl) rfl rfl ?_
                    refine g_s 24 33554431 rfl (by kernel_rfl) rfl rfl ?_
                    refine g_s 25 67108863 rfl (by kernel_rfl) rfl rfl ?_
                    refine g_s 26 134217727 rfl (by kernel_rfl) rfl rfl ?_
                    refine g_s 27 268435455 rfl (by kernel_rfl) rfl rfl ?_
                    refine g_s 28 536870911 rfl (by kernel_rfl) rfl rfl ?_
                    refine g_s 29 1073741823 rfl (by kernel_rfl) rfl rfl ?_
                    refine g_s 30 2147483647 rfl (by kernel_rfl) rfl rfl ?_
                    refine g_s 31 4294967295 rfl (by kernel_rfl) rfl rfl ?_
                    refine g_s 32 8589934591 rfl (by kernel_rfl) rfl rfl ?_
                    refine g_s 33 17179869183 rfl (by kernel_rfl) rfl rfl ?_
                    refine g_s 34 34359738367 rfl (by kernel_rfl) rfl rfl ?_
                    refine g_s 35 68719476735 rfl (by kernel_rfl) rfl rfl ?_
                    refine g_s 36 137438953471 rfl (by kernel_rfl) rfl rfl ?_
                    refine g_s 37 274877906943 rfl (by kernel_rfl) rfl rfl ?_
                    refine g_p 38 549755813887 rfl (by kernel_rfl) (y_pick_t rfl rfl) rfl rfl ?_
                    refine g_p 39 1099511627775 rfl (by kernel_rfl) (y_pick_t rfl rfl) rfl rfl ?_
                    refine g_d (by kernel_rfl) ?_
                    refine tr_thenN ?_
                    exact tr_join [(0, (.int .i64 x0)), (1, x1.enc), (5, x5.enc), (6, x6.enc), (7, (.int .i64 x7)), (8, (.int .i64 x8)), (61, (.bool true))] ⟨rfl, rfl, rfl, rfl, rfl, rfl, rfl, trivial⟩ ⟨_, _, _, _, _, _, _, rfl, H⟩
                  · replace H := H.2 g15
                    refine g_p 14 32767 rfl (by kernel_rfl) (y_move rfl) rfl rfl ?_
                    refine g_p 15 65535 rfl (by kernel_rfl) (y_move rfl) rfl rfl ?_
                    obtain ⟨a16, e17, H⟩ := H
                    refine g_p 16 131071 rfl (by kernel_rfl) (f_idx (s := x1) Try.runUnderlying53 Try.sizeOf51 rfl rfl e17) rfl rfl ?_
                    obtain ⟨y18, k19, H⟩ := H
                    refine g_h 17 262143 rfl (by kernel_rfl) (y_ld Try.isAgg51 rfl) k19 rfl rfl ?_
                    refine g_p 18 524287 rfl (by kernel_rfl) (y_move rfl) rfl rfl ?_
                    refine g_p 19 1048575 rfl (by kernel_rfl) (y_move rfl) rfl rfl ?_
                    obtain ⟨a20, e21, H⟩ := H
                    refine g_p 20 2097151 rfl (by kernel_rfl) (f_idx (s := x6) Try.runUnderlying23 Try.sizeOf3 rfl rfl e21) rfl rfl ?_
                    obtain ⟨y22, k23, H⟩ := H
                    refine g_h 21 4194303 rfl (by kernel_rfl) (y_ld Try.isAgg3 rfl) k23 rfl rfl ?_
                    obtain ⟨a24, e25, H⟩ := H
                    refine g_p 22 8388607 rfl (by kernel_rfl) (f_idx (s := y18) Try.runUnderlying51 Try.sizeOf66 rfl rfl e25) rfl rfl ?_
                    refine g_p 23 16777215 rfl (by kernel_rfl) (y_fa (off := 0) Try.runUnderlying66 fo_66_0 rfl) rfl rfl ?_
                    obtain ⟨y26, k27, H⟩ := H
                    refine g_h 24 33554431 rfl (by kernel_rfl) (y_ldS Try.isAgg34 Try.sizeOf34 rfl rfl) k27 rfl rfl ?_
                    refine g_p 25 67108863 rfl (by kernel_rfl) (y_move rfl) rfl rfl ?_
                    refine g_p 26 134217727 rfl (by kernel_rfl) (y_move rfl) rfl rfl ?_
                    obtain ⟨a28, e29, H⟩ := H
                    refine g_p 27 268435455 rfl (by kernel_rfl) (f_idx (s := x1) Try.runUnderlying53 Try.sizeOf51 rfl rfl e29) rfl rfl ?_
                    obtain ⟨y30, k31, H⟩ := H
                    refine g_h 28 536870911 rfl (by kernel_rfl) (y_ld Try.isAgg51 rfl) k31 rfl rfl ?_
                    refine g_p 29 1073741823 rfl (by kernel_rfl) (y_move rfl) rfl rfl ?_
                    refine g_p 30 2147483647 rfl (by kernel_rfl) (y_move rfl) rfl rfl ?_
                    obtain ⟨a32, e33, H⟩ := H
                    refine g_p 31 4294967295 rfl (by kernel_rfl) (f_idx (s := x6) Try.runUnderlying23 Try.sizeOf3 rfl rfl e33) rfl rfl ?_
                    obtain ⟨y34, k35, H⟩ := H
                    refine g_h 32 8589934591 rfl (by kernel_rfl) (y_ld Try.isAgg3 rfl) k35 rfl rfl ?_
                    obtain ⟨a36, e37, H⟩ := H
                    refine g_p 33 17179869183 rfl (by kernel_rfl) (f_idx (s := y30) Try.runUnderlying51 Try.sizeOf66 rfl rfl e37) rfl rfl ?_
                    refine g_p 34 34359738367 rfl (by kernel_rfl) (y_fa (off := 0) Try.runUnderlying66 fo_66_0 rfl) rfl rfl ?_
                    obtain ⟨y38, k39, H⟩ := H
                    refine g_h 35 68719476735 rfl (by kernel_rfl) (y_ldS Try.isAgg34 Try.sizeOf34 rfl rfl) k39 rfl rfl ?_
                    refine g_e 36 137438953471 [] (by kernel_rfl) rfl (by kernel_rfl) (e_call Try.call27 rfl (F.spateref8_Compare_ok H)) rfl rfl ?_
                    rintro _ h40 ⟨r41, rfl, H⟩
                    refine ⟨trivial, ?_⟩
                    refine g_p 37 274877906943 rfl (by kernel_rfl) (y_lss rfl rfl) rfl rfl ?_
                    refine g_p 38 549755813887 rfl (by kernel_rfl) (y_pick_f rfl rfl) rfl rfl ?_
                    refine g_p 39 1099511627775 rfl (by kernel_rfl) (y_pick_t rfl rfl) rfl rfl ?_
                    refine g_d (by kernel_rfl) ?_
                    refine tr_thenN ?_
                    exact tr_join [(0, (.int .i64 x0)), (1, x1.enc), (5, x5.enc), (6, x6.enc), (7, (.int .i64 x7)), (8, (.int .i64 x8)), (61, (.bool (decide (r41 < 0))))] ⟨rfl, rfl, rfl, rfl, rfl, rfl, rfl, trivial⟩ ⟨_, _, _, _, _, _, _, rfl, H⟩
                · replace H := H.2 g14
                  refine g_s 11 4095 rfl (by kernel_rfl) rfl rfl ?_
                  refine g_s 12 8191 rfl (by kernel_rfl) rfl rfl ?_
                  refine g_s 13 16383 rfl (by kernel_rfl) rfl rfl ?_
                  refine g_s 14 32767 rfl (by kernel_rfl) rfl rfl ?_
                  refine g_s 15 65535 rfl (by kernel_rfl) rfl rfl ?_
                  refine g_s 16 131071 rfl (by kernel_rfl) rfl rfl ?_
                  refine g_s 17 262143 rfl (by kernel_rfl) rfl rfl ?_
                  refine g_s 18 524287 rfl (by kernel_rfl) rfl rfl ?_
                  refine g_s 19 1048575 rfl (by kernel_rfl) rfl rfl ?_
                  refine g_s 20 2097151 rfl (by kernel_rfl) rfl rfl ?_
                  refine g_s 21 4194303 rfl (by kernel_rfl) rfl rfl ?_
                  refine g_s 22 8388607 rfl (by kernel_rfl) rfl rfl ?_
                  refine g_s 23 16777215 rfl (by kernel_rfl) rfl rfl ?_
                  refine g_s 24 33554431 rfl (by kernel_rfl) rfl rfl ?_
                  refine g_s 25 67108863 rfl (by kernel_rfl) rfl rfl ?_
                  refine g_s 26 134217727 rfl (by kernel_rfl) rfl rfl ?_
                  refine g_s 27 268435455 rfl (by kernel_rfl) rfl rfl ?_
                  refine g_s 28 536870911 rfl (by kernel_rfl) rfl rfl ?_
                  refine g_s 29 1073741823 rfl (by kernel_rfl) rfl rfl ?_
                  refine g_s 30 2147483647 rfl (by kernel_rfl) rfl rfl ?_
                  refine g_s 31 4294967295 rfl (by kernel_rfl) rfl rfl ?_
                  refine g_s 32 8589934591 rfl (by kernel_rfl) rfl rfl ?_
                  refine g_s 33 17179869183 rfl (by kernel_rfl) rfl rfl ?_
                  refine g_s 34 34359738367 rfl (by kernel_rfl) rfl rfl ?_
                  refine g_s 35 68719476735 rfl (by kernel_rfl) rfl rfl ?_
                  refine g_s 36 137438953471 rfl (by kernel_rfl) rfl rfl ?_
                  refine g_s 37 274877906943 rfl (by kernel_rfl) rfl rfl ?_
                  refine g_s 38 549755813887 rfl (by kernel_rfl) rfl rfl ?_
                  refine g_p 39 1099511627775 rfl (by kernel_rfl) (y_pick_f rfl rfl) rfl rfl ?_
                  refine g_d (by kernel_rfl) ?_
                  refine tr_thenN ?_
                  exact tr_join [(0, (.int .i64 x0)), (1, x1.enc), (5, x5.enc), (6, x6.enc), (7, (.int .i64 x7)), (8, (.int .i64 x8)), (61, (.bool false))] ⟨rfl, rfl, rfl, rfl, rfl, rfl, rfl, trivial⟩ ⟨_, _, _, _, _, _, _, rfl, H⟩
          · replace H := H.2 g4
            refine tr_exit ?_
            refine tr_thenE ?_
            refine tr_thenE ?_
            refine tr_hit ?_
            refine tr_thenN ?_
            refine tr_seq ?_
            refine tr_seq ?_
            refine tr_region ?_
            refine tr_p (y_move rfl) rfl rfl ?_
            refine tr_p (y_lss rfl rfl) rfl rfl ?_
            refine tr_nil ?_
            refine tr_thenN ?_
            refine tr_cond rfl (fun g42 => ?_) (fun g42 => ?_)
            · replace H := H.1 g42
              refine tr_exit ?_
              refine tr_thenE ?_
              refine tr_miss rfl ?_
              refine tr_thenE ?_
              refine tr_hit ?_
              refine tr_thenN ?_
              exact tr_join [(5, x5.enc)] ⟨rfl, trivial⟩ ⟨_, rfl, H⟩
            · replace H := H.2 g42
              refine tr_skip ?_
              refine tr_thenN ?_
              refine tr_seq ?_
              refine tr_draw mixed [0, 0, 0, 6, 14, 0, 0, 96, 224, 510, 1022, 2046, 4095, 8191] (by kernel_rfl) ?_
              refine g_p 0 1 rfl (by kernel_rfl) (y_move rfl) rfl rfl ?_
              refine g_p 1 3 rfl (by kernel_rfl) (y_move rfl) rfl rfl ?_
              refine g_p 2 7 rfl (by kernel_rfl) (y_move rfl) rfl rfl ?_
              obtain ⟨a43, e44, H⟩ := H
              refine g_p 3 15 rfl (by kernel_rfl) (f_idx (s := x1) Try.runUnderlying53 Try.sizeOf51 rfl rfl e44) rfl rfl ?_
              obtain ⟨y45, k46, H⟩ := H
              refine g_h 4 31 rfl (by kernel_rfl) (y_ld Try.isAgg51 rfl) k46 rfl rfl ?_
              refine g_p 5 63 rfl (by kernel_rfl) (y_move rfl) rfl rfl ?_
              refine g_p 6 127 rfl (by kernel_rfl) (y_move rfl) rfl rfl ?_
              obtain ⟨a47, e48, H⟩ := H
              refine g_p 7 255 rfl (by kernel_rfl) (f_idx (s := x6) Try.runUnderlying23 Try.sizeOf3 rfl rfl e48) rfl rfl ?_
              obtain ⟨y49, k50, H⟩ := H
              refine g_h 8 511 rfl (by kernel_rfl) (y_ld Try.isAgg3 rfl) k50 rfl rfl ?_
              obtain ⟨a51, e52, H⟩ := H
              refine g_p 9 1023 rfl (by kernel_rfl) (f_idx (s := y45) Try.runUnderlying51 Try.sizeOf66 rfl rfl e52) rfl rfl ?_
              obtain ⟨y53, k54, H⟩ := H
              refine g_h 10 2047 rfl (by kernel_rfl) (y_ldS Try.isAgg66 Try.sizeOf66 rfl rfl) k54 rfl rfl ?_
              refine g_e 11 4095 [] (by kernel_rfl) rfl (by kernel_rfl) (f_buildL (cs := (y53.cells).toArray) rfl rfl (bl_51_1_0 y53) H) rfl rfl ?_
              rintro _ h55 ⟨s56, rfl, H⟩
              refine ⟨trivial, ?_⟩
              refine g_e 12 8191 [] (by kernel_rfl) rfl (by kernel_rfl) (f_app rfl H) rfl rfl ?_
              rintro _ h57 ⟨s58, rfl, H⟩
              refine ⟨trivial, ?_⟩
              refine g_e 13 16383 [] (by kernel_rfl) rfl (by kernel_rfl) (yp_ev (y_assign rfl)) rfl rfl ?_
              rintro _ _ ⟨rfl, rfl⟩
              refine ⟨trivial, ?_⟩
              refine g_d (by kernel_rfl) ?_
              refine tr_thenN ?_
              refine tr_region ?_
              refine tr_p (y_move rfl) rfl rfl ?_
              refine tr_p (y_move rfl) rfl rfl ?_
              obtain ⟨a59, e60, H⟩ := H
              refine tr_p (f_idx (s := x6) Try.runUnderlying23 Try.sizeOf3 rfl rfl e60) rfl rfl ?_
              obtain ⟨y61, k62, H⟩ := H
              refine tr_h (y_ld Try.isAgg3 rfl) k62 rfl rfl ?_
              refine tr_p (y_add rfl rfl) rfl rfl ?_
              obtain ⟨a63, e64, H⟩ := H
              refine tr_p (f_idx (s := x6) Try.runUnderlying23 Try.sizeOf3 rfl rfl e64) rfl rfl ?_
              refine tr_e (f_store (vs := [(.int .i64 (IntKind.wrap .i64 (y61 + 1)))]) Try.sizeOf3 rfl rfl rfl rfl (one1 rfl) H) rfl rfl ?_
              rintro _ h65 ⟨rfl, H⟩
              refine tr_nil ?_
              refine tr_blockN ?_
              refine tr_thenN ?_
              exact tr_join [(0, (.int .i64 x0)), (1, x1.enc), (5, s58.enc), (6, x6.enc)] ⟨rfl, rfl, rfl, rfl, trivial⟩ ⟨_, _, _, _, rfl, H⟩
      · replace H := H.2 g3
        refine tr_exit ?_
        refine tr_thenE ?_
        refine tr_thenE ?_
        refine tr_hit ?_
        refine tr_thenN ?_
        exact tr_join [(5, x5.enc)] ⟨rfl, trivial⟩ ⟨_, rfl, H⟩
def F.spatelaw2_SameRows.l1 (Q : Bool → H → Prop) : Nat → Sl → Sl → Int → H → Prop
  | 0, _, _, _, _ => False
  | q1 + 1, x0, x1, x5, h =>
    ((decide (x5 < (x0.len : Int))) = true →
    idxA x0 x5 7 fun a3 =>
    ld_S_api_Row h a3 fun y5 =>
    idxA x1 x5 7 fun a7 =>
    ld_S_api_Row h a7 fun y9 =>
    ((!((((y5.Cell.View == y9.Cell.View) && ((y5.Cell.Key.toList == y9.Cell.Key.toList) && ((y5.Cell.Start == y9.Cell.Start) && true)))) && ((((y5.Agg.Count == y9.Agg.Count) && ((y5.Agg.Sum == y9.Agg.Sum) && ((y5.Agg.Min == y9.Agg.Min) && ((y5.Agg.Max == y9.Agg.Max) && true))))) && true))) = true →
    Q false h) ∧
    ((!((((y5.Cell.View == y9.Cell.View) && ((y5.Cell.Key.toList == y9.Cell.Key.toList) && ((y5.Cell.Start == y9.Cell.Start) && true)))) && ((((y5.Agg.Count == y9.Agg.Count) && ((y5.Agg.Sum == y9.Agg.Sum) && ((y5.Agg.Min == y9.Agg.Min) && ((y5.Agg.Max == y9.Agg.Max) && true))))) && true))) = false →
    (F.spatelaw2_SameRows.l1 Q q1) x0 x1 (IntKind.wrap .i64 (x5 + 1)) h)) ∧
    ((decide (x5 < (x0.len : Int))) = false →
    Q true h)
/-- spate/spatelaw2.SameRows -/
def F.spatelaw2_SameRows (p0 : Sl) (p1 : Sl) (h : H) (Q : Bool → H → Prop) : Prop :=
  ((((p0.len : Int) != (p1.len : Int))) = true →
  Q false h) ∧
  ((((p0.len : Int) != (p1.len : Int))) = false →
  ∃ m, F.spatelaw2_SameRows.l1 Q m p0 p1 0 h)
theorem F.spatelaw2_SameRows_ok {p0 : Sl} {p1 : Sl} {h : H} {Q : Bool → H → Prop} (H : F.spatelaw2_SameRows p0 p1 h Q) : Fn PP 32 ([p0.enc, p1.enc] : List Value).toArray h fun r h' => ∃ r0, r = (.bool r0) ∧ Q r0 h' := by
  unfold F.spatelaw2_SameRows at H
  refine fn_of Try.func32 Try.ntmps32 rfl rfl fun w0 => ?_
  refine tr_sub [(0, p0.enc), (1, p1.enc)] ⟨rfl, rfl, trivial⟩ ?_
  refine tr_seq ?_
  refine tr_region ?_
  refine tr_p (y_assign rfl) rfl rfl ?_
  refine tr_nil ?_
  refine tr_thenN ?_
  refine tr_seq ?_
  refine tr_seq ?_
  refine tr_region ?_
  refine tr_p (y_move rfl) rfl rfl ?_
  refine tr_p (y_len (ts := #[]) Try.runUnderlying51 (o := p0.ptr) (n := p0.len) (cap := p0.cap) rfl) rfl rfl ?_
  refine tr_p (y_move rfl) rfl rfl ?_
  refine tr_p (y_len (ts := #[]) Try.runUnderlying51 (o := p1.ptr) (n := p1.len) (cap := p1.cap) rfl) rfl rfl ?_
  refine tr_p (y_neq rfl rfl) rfl rfl ?_
  refine tr_nil ?_
  refine tr_thenN ?_
  refine tr_cond rfl (fun g1 => ?_) (fun g1 => ?_)
  · replace H := H.1 g1
    refine tr_seq ?_
    refine tr_region ?_
    refine tr_p (y_assign rfl) rfl rfl ?_
    refine tr_nil ?_
    refine tr_thenN ?_
    refine tr_ret ?_
    refine tr_thenR ?_
    exact tr_ret1 rfl rfl ⟨_, rfl, H⟩
  · replace H := H.2 g1
    refine tr_skip ?_
    refine tr_thenN ?_
    refine tr_seq ?_
    refine tr_seq ?_
    refine tr_region ?_
    refine tr_p (y_assign rfl) rfl rfl ?_
    refine tr_nil ?_
    refine tr_thenN ?_
    refine tr_block ?_
    obtain ⟨m12, H⟩ := H
    refine tr_sub [(0, p0.enc), (1, p1.enc), (5, (.int .i64 0))] ⟨rfl, rfl, rfl, trivial⟩ ?_
    refine tr_loop_j (fun m L' h => ∃ (x0 : Sl) (x1 : Sl) (x5 : Int), L' = [(0, x0.enc), (1, x1.enc), (5, (.int .i64 x5))] ∧ F.spatelaw2_SameRows.l1 Q m x0 x1 x5 h) ?_ ?_ m12 ⟨_, _, _, rfl, H⟩
    · rintro L' h ⟨_, _, _, _, H⟩; exact H
    · rintro q1 L' h ⟨x0, x1, x5, rfl, H⟩
      unfold F.spatelaw2_SameRows.l1 at H
      refine tr_seq ?_
      refine tr_seq ?_
      refine tr_region ?_
      refine tr_p (y_move rfl) rfl rfl ?_
      refine tr_p (y_move rfl) rfl rfl ?_
      refine tr_p (y_len (ts := #[]) Try.runUnderlying51 (o := x0.ptr) (n := x0.len) (cap := x0.cap) rfl) rfl rfl ?_
      refine tr_p (y_lss rfl rfl) rfl rfl ?_
      refine tr_nil ?_
      refine tr_thenN ?_
      refine tr_cond rfl (fun g2 => ?_) (fun g2 => ?_)
      · replace H := H.1 g2
        refine tr_skip ?_
        refine tr_thenN ?_
        refine tr_seq ?_
        refine tr_block ?_
        refine tr_seq ?_
        refine tr_draw mixed [0, 0, 3, 7, 0, 0, 48, 112, 255] (by kernel_rfl) ?_
        refine g_p 0 1 rfl (by kernel_rfl) (y_move rfl) rfl rfl ?_
        refine g_p 1 3 rfl (by kernel_rfl) (y_move rfl) rfl rfl ?_
        obtain ⟨a3, e4, H⟩ := H
        refine g_p 2 7 rfl (by kernel_rfl) (f_idx (s := x0) Try.runUnderlying51 Try.sizeOf66 rfl rfl e4) rfl rfl ?_
        obtain ⟨y5, k6, H⟩ := H
        refine g_h 3 15 rfl (by kernel_rfl) (y_ldS Try.isAgg66 Try.sizeOf66 rfl rfl) k6 rfl rfl ?_
        refine g_p 4 31 rfl (by kernel_rfl) (y_move rfl) rfl rfl ?_
        refine g_p 5 63 rfl (by kernel_rfl) (y_move rfl) rfl rfl ?_
        obtain ⟨a7, e8, H⟩ := H
        refine g_p 6 127 rfl (by kernel_rfl) (f_idx (s := x1) Try.runUnderlying51 Try.sizeOf66 rfl rfl e8) rfl rfl ?_
        obtain ⟨y9, k10, H⟩ := H
        refine g_h 7 255 rfl (by kernel_rfl) (y_ldS Try.isAgg66 Try.sizeOf66 rfl rfl) k10 rfl rfl ?_
        refine g_p 8 511 rfl (by kernel_rfl) (st_neq (b := ((((y5.Cell.View == y9.Cell.View) && ((y5.Cell.Key.toList == y9.Cell.Key.toList) && ((y5.Cell.Start == y9.Cell.Start) && true)))) && ((((y5.Agg.Count == y9.Agg.Count) && ((y5.Agg.Sum == y9.Agg.Sum) && ((y5.Agg.Min == y9.Agg.Min) && ((y5.Agg.Max == y9.Agg.Max) && true))))) && true))) eqg_66 (fun w => eqst_66 y5 y9 9997 w) rfl rfl) rfl rfl ?_
        refine g_d (by kernel_rfl) ?_
        refine tr_thenN ?_
        refine tr_cond rfl (fun g11 => ?_) (fun g11 => ?_)
        · replace H := H.1 g11
          refine tr_seq ?_
          refine tr_region ?_
          refine tr_p (y_assign rfl) rfl rfl ?_
          refine tr_nil ?_
          refine tr_thenN ?_
          refine tr_ret ?_
          refine tr_blockR ?_
          refine tr_thenR ?_
          refine tr_thenR ?_
          refine tr_blockR ?_
          refine tr_thenR ?_
          exact tr_ret1 rfl rfl ⟨_, rfl, H⟩
        · replace H := H.2 g11
          refine tr_skip ?_
          refine tr_blockN ?_
          refine tr_thenN ?_
          refine tr_region ?_
          refine tr_p (y_move rfl) rfl rfl ?_
          refine tr_p (y_add rfl rfl) rfl rfl ?_
          refine tr_p (y_assign rfl) rfl rfl ?_
          refine tr_nil ?_
          refine tr_thenN ?_
          exact tr_join [(0, x0.enc), (1, x1.enc), (5, (.int .i64 (IntKind.wrap .i64 (x5 + 1))))] ⟨rfl, rfl, rfl, trivial⟩ ⟨_, _, _, rfl, H⟩
      · replace H := H.2 g2
        refine tr_exit ?_
        refine tr_thenE ?_
        refine tr_thenE ?_
        refine tr_hit ?_
        refine tr_thenN ?_
        refine tr_seq ?_
        refine tr_region ?_
        refine tr_p (y_assign rfl) rfl rfl ?_
        refine tr_nil ?_
        refine tr_thenN ?_
        refine tr_ret ?_
        exact tr_ret1 rfl rfl ⟨_, rfl, H⟩
def F.spatelaw2_KeptRows.j2 (Q : Bool → H → Prop) (C1 : Sl → Bool → Sl → Int → H → Prop) (x1 : Sl) (x5 : Bool) (x6 : Sl) (x7 : Int) (h : H) : Prop :=
  C1 x1 x5 x6 (IntKind.wrap .i64 (x7 + 1)) h
def F.spatelaw2_KeptRows.j3 (Q : Bool → H → Prop) (C1 : Sl → Bool → Sl → Int → H → Prop) (x1 : Sl) (x5 : Bool) (x6 : Sl) (x7 : Int) (h : H) : Prop :=
  idxA x6 x7 7 fun a6 =>
  stH h a6 ((⟨(⟨0, (⟨#[115, 112, 111, 105, 108, 116]⟩ : ByteArray), 0⟩ : S_api_Cell), (⟨0, 0, 0, 0⟩ : S_api_Agg)⟩ : S_api_Row).cells) fun h8 =>
  F.spatelaw2_KeptRows.j2 Q C1 x1 x5 x6 x7 h8
def F.spatelaw2_KeptRows.l1 (Q : Bool → H → Prop) : Nat → Sl → Bool → Sl → Int → H → Prop
  | 0, _, _, _, _, _ => False
  | q1 + 1, x1, x5, x6, x7, h =>
    ((decide (x7 < (x6.len : Int))) = true →
    (x5 = true →
    ((decide (x7 < (x1.len : Int))) = true →
    F.spatelaw2_KeptRows.j3 Q (F.spatelaw2_KeptRows.l1 Q q1) x1 true x6 x7 h) ∧
    ((decide (x7 < (x1.len : Int))) = false →
    idxA x6 x7 7 fun a11 =>
    ld_S_api_Cell h (a11.add 0) fun y13 =>
    F.spatelaw2_mark  h fun r16 h15 =>
    Cells h15 (a11.add 0) y13.cells ∧
    F.spatelaw2_KeptRows.j3 Q (F.spatelaw2_KeptRows.l1 Q q1) x1 ((y13.View == r16.View) && ((y13.Key.toList == r16.Key.toList) && ((y13.Start == r16.Start) && true))) x6 x7 h15)) ∧
    (x5 = false →
    F.spatelaw2_KeptRows.j3 Q (F.spatelaw2_KeptRows.l1 Q q1) x1 false x6 x7 h)) ∧
    ((decide (x7 < (x6.len : Int))) = false →
    Q x5 h)
/-- spate/spatelaw2.KeptRows -/
def F.spatelaw2_KeptRows (p0 : Sl) (p1 : Sl) (h : H) (Q : Bool → H → Prop) : Prop :=
  F.spatelaw2_SameRows p0 p1 h fun r2 h1 =>
  cutL p0 0 (IntKind.wrap .i64 ((p0.len : Int) + 3)) 7 fun s4 =>
  ∃ m, F.spatelaw2_KeptRows.l1 Q m p1 r2 s4 0 h1
theorem F.spatelaw2_KeptRows_ok {p0 : Sl} {p1 : Sl} {h : H} {Q : Bool → H → Prop} (H : F.spatelaw2_KeptRows p0 p1 h Q) : Fn PP 34 ([p0.enc, p1.enc] : List Value).toArray h fun r h' => ∃ r0, r = (.bool r0) ∧ Q r0 h' := by
  unfold F.spatelaw2_KeptRows at H
  refine fn_of Try.func34 Try.ntmps34 rfl rfl fun w0 => ?_
  refine tr_sub [(0, p0.enc), (1, p1.enc)] ⟨rfl, rfl, trivial⟩ ?_
  refine tr_seq ?_
  refine tr_region ?_
  refine tr_p (y_assign rfl) rfl rfl ?_
  refine tr_nil ?_
  refine tr_thenN ?_
  refine tr_seq ?_
  refine tr_region ?_
  refine tr_p (y_move rfl) rfl rfl ?_
  refine tr_p (y_move rfl) rfl rfl ?_
  refine tr_e (e_call Try.call32 rfl (F.spatelaw2_SameRows_ok H)) rfl rfl ?_
  rintro _ h1 ⟨r2, rfl, H⟩
  refine tr_p (y_assign rfl) rfl rfl ?_
  refine tr_nil ?_
  refine tr_thenN ?_
  refine tr_seq ?_
  refine tr_region ?_
  refine tr_p (y_move rfl) rfl rfl ?_
  refine tr_p (y_move rfl) rfl rfl ?_
  refine tr_p (y_len (ts := #[]) Try.runUnderlying51 (o := p0.ptr) (n := p0.len) (cap := p0.cap) rfl) rfl rfl ?_
  refine tr_p (y_add rfl rfl) rfl rfl ?_
  obtain ⟨s4, e3, H⟩ := H
  refine tr_p (f_cutL (s := p0) none (some (.i64, (IntKind.wrap .i64 ((p0.len : Int) + 3)))) Try.runUnderlying51 Try.sizeOf66 rfl rfl rfl e3) rfl rfl ?_
  refine tr_p (y_assign rfl) rfl rfl ?_
  refine tr_nil ?_
  refine tr_thenN ?_
  refine tr_seq ?_
  refine tr_seq ?_
  refine tr_region ?_
  refine tr_p (y_assign rfl) rfl rfl ?_
  refine tr_nil ?_
  refine tr_thenN ?_
  refine tr_block ?_
  obtain ⟨m18, H⟩ := H
  refine tr_sub [(1, p1.enc), (5, (.bool r2)), (6, s4.enc), (7, (.int .i64 0))] ⟨rfl, rfl, rfl, rfl, trivial⟩ ?_
  refine tr_loop_j (fun m L' h => ∃ (x1 : Sl) (x5 : Bool) (x6 : Sl) (x7 : Int), L' = [(1, x1.enc), (5, (.bool x5)), (6, x6.enc), (7, (.int .i64 x7))] ∧ F.spatelaw2_KeptRows.l1 Q m x1 x5 x6 x7 h) ?_ ?_ m18 ⟨_, _, _, _, rfl, H⟩
  · rintro L' h ⟨_, _, _, _, _, H⟩; exact H
  · rintro q1 L' h ⟨x1, x5, x6, x7, rfl, H⟩
    unfold F.spatelaw2_KeptRows.l1 at H
    refine tr_seq ?_
    refine tr_seq ?_
    refine tr_region ?_
    refine tr_p (y_move rfl) rfl rfl ?_
    refine tr_p (y_move rfl) rfl rfl ?_
    refine tr_p (y_len (ts := #[]) Try.runUnderlying51 (o := x6.ptr) (n := x6.len) (cap := x6.cap) rfl) rfl rfl ?_
    refine tr_p (y_lss rfl rfl) rfl rfl ?_
    refine tr_nil ?_
    refine tr_thenN ?_
    refine tr_cond rfl (fun g5 => ?_) (fun g5 => ?_)
    · replace H := H.1 g5
      refine tr_skip ?_
      refine tr_thenN ?_
      refine tr_seq_j (fun L' h => ∃ (x1 : Sl) (x5 : Bool) (x6 : Sl) (x7 : Int), L' = [(1, x1.enc), (5, (.bool x5)), (6, x6.enc), (7, (.int .i64 x7))] ∧ F.spatelaw2_KeptRows.j2 Q (F.spatelaw2_KeptRows.l1 Q q1) x1 x5 x6 x7 h) ?_ ?_
      · rintro L' h ⟨x1, x5, x6, x7, rfl, H⟩
        unfold F.spatelaw2_KeptRows.j2 at H
        refine tr_region ?_
        refine tr_p (y_move rfl) rfl rfl ?_
        refine tr_p (y_add rfl rfl) rfl rfl ?_
        refine tr_p (y_assign rfl) rfl rfl ?_
        refine tr_nil ?_
        refine tr_thenN ?_
        exact tr_join [(1, x1.enc), (5, (.bool x5)), (6, x6.enc), (7, (.int .i64 (IntKind.wrap .i64 (x7 + 1))))] ⟨rfl, rfl, rfl, rfl, trivial⟩ ⟨_, _, _, _, rfl, H⟩
      · refine tr_block ?_
        refine tr_seq_j (fun L' h => ∃ (x1 : Sl) (x5 : Bool) (x6 : Sl) (x7 : Int), L' = [(1, x1.enc), (5, (.bool x5)), (6, x6.enc), (7, (.int .i64 x7))] ∧ F.spatelaw2_KeptRows.j3 Q (F.spatelaw2_KeptRows.l1 Q q1) x1 x5 x6 x7 h) ?_ ?_
        · rintro L' h ⟨x1, x5, x6, x7, rfl, H⟩
          unfold F.spatelaw2_KeptRows.j3 at H
          refine tr_region ?_
          refine tr_p (y_move rfl) rfl rfl ?_
          refine tr_p (y_move rfl) rfl rfl ?_
          refine tr_p (f_build rfl (bd_34_1 (⟨#[115, 112, 111, 105, 108, 116]⟩ : ByteArray))) rfl rfl ?_
          refine tr_p (f_build rfl (bd_66_0 (⟨0, (⟨#[115, 112, 111, 105, 108, 116]⟩ : ByteArray), 0⟩ : S_api_Cell))) rfl rfl ?_
          obtain ⟨a6, e7, H⟩ := H
          refine tr_p (f_idx (s := x6) Try.runUnderlying51 Try.sizeOf66 rfl rfl e7) rfl rfl ?_
          refine tr_e (f_store (vs := (⟨(⟨0, (⟨#[115, 112, 111, 105, 108, 116]⟩ : ByteArray), 0⟩ : S_api_Cell), (⟨0, 0, 0, 0⟩ : S_api_Agg)⟩ : S_api_Row).cells) Try.sizeOf66 rfl rfl cellsOfStruct rfl (by intro v hv; exact ones_S_api_Row _ v hv) H) rfl rfl ?_
          rintro _ h8 ⟨rfl, H⟩
          refine tr_nil ?_
          refine tr_blockN ?_
          refine tr_thenN ?_
          exact tr_join [(1, x1.enc), (5, (.bool x5)), (6, x6.enc), (7, (.int .i64 x7))] ⟨rfl, rfl, rfl, rfl, trivial⟩ ⟨_, _, _, _, rfl, H⟩
        · refine tr_draw mixed [0, 1, 3, 3, 11, 31, 63, 127, 127, 511, 1023, 2047, 127, 8191, 16383, 32767, 65535] (by kernel_rfl) ?_
          refine g_p 0 1 rfl (by kernel_rfl) (y_move rfl) rfl rfl ?_
          refine g_p 1 3 rfl (by kernel_rfl) (y_move rfl) rfl rfl ?_
          refine g_split (t := 23) rfl (fun g9 => ?_) (fun g9 => ?_)
          · replace H := H.1 g9
            refine g_p 2 7 rfl (by kernel_rfl) (y_move rfl) rfl rfl ?_
            refine g_p 3 15 rfl (by kernel_rfl) (y_move rfl) rfl rfl ?_
            refine g_p 4 31 rfl (by kernel_rfl) (y_len (ts := #[]) Try.runUnderlying51 (o := x1.ptr) (n := x1.len) (cap := x1.cap) rfl) rfl rfl ?_
            refine g_p 5 63 rfl (by kernel_rfl) (y_lss rfl rfl) rfl rfl ?_
            refine g_p 6 127 rfl (by kernel_rfl) (y_move rfl) rfl rfl ?_
            refine g_split (t := 28) rfl (fun g10 => ?_) (fun g10 => ?_)
            · replace H := H.1 g10
              refine g_s 7 255 rfl (by kernel_rfl) rfl rfl ?_
              refine g_s 8 511 rfl (by kernel_rfl) rfl rfl ?_
              refine g_s 9 1023 rfl (by kernel_rfl) rfl rfl ?_
              refine g_s 10 2047 rfl (by kernel_rfl) rfl rfl ?_
              refine g_s 11 4095 rfl (by kernel_rfl) rfl rfl ?_
              refine g_s 12 8191 rfl (by kernel_rfl) rfl rfl ?_
              refine g_s 13 16383 rfl (by kernel_rfl) rfl rfl ?_
              refine g_p 14 32767 rfl (by kernel_rfl) (y_pick_t rfl rfl) rfl rfl ?_
              refine g_p 15 65535 rfl (by kernel_rfl) (y_pick_t rfl rfl) rfl rfl ?_
              refine g_e 16 131071 [] (by kernel_rfl) rfl (by kernel_rfl) (yp_ev (y_assign rfl)) rfl rfl ?_
              rintro _ _ ⟨rfl, rfl⟩
              refine ⟨trivial, ?_⟩
              refine g_d (by kernel_rfl) ?_
              refine tr_thenN ?_
              exact tr_join [(1, x1.enc), (5, (.bool true)), (6, x6.enc), (7, (.int .i64 x7))] ⟨rfl, rfl, rfl, rfl, trivial⟩ ⟨_, _, _, _, rfl, H⟩
            · replace H := H.2 g10
              refine g_p 7 255 rfl (by kernel_rfl) (y_move rfl) rfl rfl ?_
              refine g_p 8 511 rfl (by kernel_rfl) (y_move rfl) rfl rfl ?_
              obtain ⟨a11, e12, H⟩ := H
              refine g_p 9 1023 rfl (by kernel_rfl) (f_idx (s := x6) Try.runUnderlying51 Try.sizeOf66 rfl rfl e12) rfl rfl ?_
              refine g_p 10 2047 rfl (by kernel_rfl) (y_fa (off := 0) Try.runUnderlying66 fo_66_0 rfl) rfl rfl ?_
              obtain ⟨y13, k14, H⟩ := H
              refine g_h 11 4095 rfl (by kernel_rfl) (y_ldS Try.isAgg34 Try.sizeOf34 rfl rfl) k14 rfl rfl ?_
              refine g_e 12 8191 [(11, fun h => Cells h (a11.add 0) y13.cells)] (by kernel_rfl) rfl (by kernel_rfl) (e_call Try.call47 rfl (F.spatelaw2_mark_ok H)) rfl rfl ?_
              rintro _ h15 ⟨r16, rfl, H⟩
              obtain ⟨k17, H⟩ := H
              refine ⟨And.intro k17 trivial, ?_⟩
              refine g_p 13 16383 rfl (by kernel_rfl) (st_eql (b := ((y13.View == r16.View) && ((y13.Key.toList == r16.Key.toList) && ((y13.Start == r16.Start) && true)))) eqg_34 (fun w => eqst_34 y13 r16 9998 w) rfl rfl) rfl rfl ?_
              refine g_p 14 32767 rfl (by kernel_rfl) (y_pick_f rfl rfl) rfl rfl ?_
              refine g_p 15 65535 rfl (by kernel_rfl) (y_pick_t rfl rfl) rfl rfl ?_
              refine g_e 16 131071 [] (by kernel_rfl) rfl (by kernel_rfl) (yp_ev (y_assign rfl)) rfl rfl ?_
              rintro _ _ ⟨rfl, rfl⟩
              refine ⟨trivial, ?_⟩
              refine g_d (by kernel_rfl) ?_
              refine tr_thenN ?_
              exact tr_join [(1, x1.enc), (5, (.bool ((y13.View == r16.View) && ((y13.Key.toList == r16.Key.toList) && ((y13.Start == r16.Start) && true))))), (6, x6.enc), (7, (.int .i64 x7))] ⟨rfl, rfl, rfl, rfl, trivial⟩ ⟨_, _, _, _, rfl, H⟩
          · replace H := H.2 g9
            refine g_s 2 7 rfl (by kernel_rfl) rfl rfl ?_
            refine g_s 3 15 rfl (by kernel_rfl) rfl rfl ?_
            refine g_s 4 31 rfl (by kernel_rfl) rfl rfl ?_
            refine g_s 5 63 rfl (by kernel_rfl) rfl rfl ?_
            refine g_s 6 127 rfl (by kernel_rfl) rfl rfl ?_
            refine g_s 7 255 rfl (by kernel_rfl) rfl rfl ?_
            refine g_s 8 511 rfl (by kernel_rfl) rfl rfl ?_
            refine g_s 9 1023 rfl (by kernel_rfl) rfl rfl ?_
            refine g_s 10 2047 rfl (by kernel_rfl) rfl rfl ?_
            refine g_s 11 4095 rfl (by kernel_rfl) rfl rfl ?_
            refine g_s 12 8191 rfl (by kernel_rfl) rfl rfl ?_
            refine g_s 13 16383 rfl (by kernel_rfl) rfl rfl ?_
            refine g_s 14 32767 rfl (by kernel_rfl) rfl rfl ?_
            refine g_p 15 65535 rfl (by kernel_rfl) (y_pick_f rfl rfl) rfl rfl ?_
            refine g_e 16 131071 [] (by kernel_rfl) rfl (by kernel_rfl) (yp_ev (y_assign rfl)) rfl rfl ?_
            rintro _ _ ⟨rfl, rfl⟩
            refine ⟨trivial, ?_⟩
            refine g_d (by kernel_rfl) ?_
            refine tr_thenN ?_
            exact tr_join [(1, x1.enc), (5, (.bool false)), (6, x6.enc), (7, (.int .i64 x7))] ⟨rfl, rfl, rfl, rfl, trivial⟩ ⟨_, _, _, _, rfl, H⟩
    · replace H := H.2 g5
      refine tr_exit ?_
      refine tr_thenE ?_
      refine tr_thenE ?_
      refine tr_hit ?_
      refine tr_thenN ?_
      refine tr_seq ?_
      refine tr_region ?_
      refine tr_p (y_move rfl) rfl rfl ?_
      refine tr_p (y_assign rfl) rfl rfl ?_
      refine tr_nil ?_
      refine tr_thenN ?_
      refine tr_ret ?_
      exact tr_ret1 rfl rfl ⟨_, rfl, H⟩
/-- spate/spatelaw8.MergeRows -/
def F.spatelaw8_MergeRows (p0 : Int) (p1 : Sl) (p2 : Sl) (p3 : Sl) (h : H) (Q : Bool → H → Prop) : Prop :=
  F.spatelaw8_known  h fun r2 h1 =>
  ((!r2) = true →
  Q false h1) ∧
  ((!r2) = false →
  F.spatelaw8_ordered p1 h1 fun r5 h4 =>
  F.spatelaw8_ordered p2 h4 fun r7 h6 =>
  F.spatelaw8_ordered p3 h6 fun r9 h8 =>
  newL h8 #[r5.enc, r7.enc, r9.enc] ty_51 3 fun s11 h10 =>
  idxA s11 0 1 fun a12 =>
  ldL h10 a12 fun y14 =>
  F.spatelaw2_LendResponse (⟨0, 0, 0, 0, y14, (⟨0, 0, 0, 0, 0, 0⟩ : S_api_Stats)⟩ : S_api_Response) h10 fun r17 h16 =>
  idxA s11 1 1 fun a18 =>
  ldL h16 a18 fun y20 =>
  F.spatelaw2_LendResponse (⟨0, 0, 0, 0, y20, (⟨0, 0, 0, 0, 0, 0⟩ : S_api_Stats)⟩ : S_api_Response) h16 fun r23 h22 =>
  idxA s11 2 1 fun a24 =>
  ldL h22 a24 fun y26 =>
  F.spatelaw2_LendResponse (⟨0, 0, 0, 0, y26, (⟨0, 0, 0, 0, 0, 0⟩ : S_api_Stats)⟩ : S_api_Response) h22 fun r29 h28 =>
  newL h28 #[r17.Rows.enc, r23.Rows.enc, r29.Rows.enc] ty_51 3 fun s31 h30 =>
  F.merge_Rows p0 s31 h30 fun r33 h32 =>
  F.spateref8_Rows p0 s11 h32 fun r35 h34 =>
  F.spatelaw2_SameRows r33 r35 h34 fun r37 h36 =>
  (r37 = true →
  idxA s11 0 1 fun a39 =>
  ldL h36 a39 fun y41 =>
  F.spatelaw2_KeptRows r17.Rows y41 h36 fun r44 h43 =>
  (r44 = true →
  idxA s11 1 1 fun a46 =>
  ldL h43 a46 fun y48 =>
  F.spatelaw2_KeptRows r23.Rows y48 h43 fun r51 h50 =>
  (r51 = true →
  idxA s11 2 1 fun a53 =>
  ldL h50 a53 fun y55 =>
  F.spatelaw2_KeptRows r29.Rows y55 h50 fun r58 h57 =>
  (r58 = true →
  F.spateref8_Rows p0 s11 h57 fun r61 h60 =>
  F.spatelaw2_SameRows r33 r61 h60 fun r63 h62 =>
  (r63 = true →
  F.merge_Rows p0 (⟨none, 0, 0⟩ : Sl) h62 fun r66 h65 =>
  ((((r66.len : Int) == 0)) = true →
  idxA s11 0 1 fun a68 =>
  ldL h65 a68 fun y70 =>
  cutL s11 0 1 1 fun s73 =>
  newL h65 #[y70.enc] ty_51 1 fun s75 h74 =>
  F.merge_Rows p0 s75 h74 fun r77 h76 =>
  F.spateref8_Rows p0 s73 h76 fun r79 h78 =>
  F.spatelaw2_SameRows r77 r79 h78 fun r81 h80 =>
  Q r81 h80) ∧
  ((((r66.len : Int) == 0)) = false →
  Q false h65)) ∧
  (r63 = false →
  Q false h62)) ∧
  (r58 = false →
  Q false h57)) ∧
  (r51 = false →
  Q false h50)) ∧
  (r44 = false →
  Q false h43)) ∧
  (r37 = false →
  Q false h36))
theorem F.spatelaw8_MergeRows_ok {p0 : Int} {p1 : Sl} {p2 : Sl} {p3 : Sl} {h : H} {Q : Bool → H → Prop} (H : F.spatelaw8_MergeRows p0 p1 p2 p3 h Q) : Fn PP 9 ([(.int .i64 p0), p1.enc, p2.enc, p3.enc] : List Value).toArray h fun r h' => ∃ r0, r = (.bool r0) ∧ Q r0 h' := by
  unfold F.spatelaw8_MergeRows at H
  refine fn_of Try.func9 Try.ntmps9 rfl rfl fun w0 => ?_
  refine tr_sub [(0, (.int .i64 p0)), (1, p1.enc), (2, p2.enc), (3, p3.enc)] ⟨rfl, rfl, rfl, rfl, trivial⟩ ?_
  refine tr_seq ?_
  refine tr_region ?_
  refine tr_p (y_assign rfl) rfl rfl ?_
  refine tr_nil ?_
  refine tr_thenN ?_
  refine tr_seq ?_
  refine tr_seq ?_
  refine tr_region ?_
  refine tr_e (e_call Try.call15 rfl (F.spatelaw8_known_ok H)) rfl rfl ?_
  rintro _ h1 ⟨r2, rfl, H⟩
  refine tr_p (y_not rfl) rfl rfl ?_
  refine tr_nil ?_
  refine tr_thenN ?_
  refine tr_cond rfl (fun g3 => ?_) (fun g3 => ?_)
  · replace H := H.1 g3
    refine tr_seq ?_
    refine tr_region ?_
    refine tr_p (y_assign rfl) rfl rfl ?_
    refine tr_nil ?_
    refine tr_thenN ?_
    refine tr_ret ?_
    refine tr_thenR ?_
    exact tr_ret1 rfl rfl ⟨_, rfl, H⟩
  · replace H := H.2 g3
    refine tr_skip ?_
    refine tr_thenN ?_
    refine tr_seq ?_
    refine tr_region ?_
    refine tr_p (y_move rfl) rfl rfl ?_
    refine tr_e (e_call Try.call29 rfl (F.spatelaw8_ordered_ok H)) rfl rfl ?_
    rintro _ h4 ⟨r5, rfl, H⟩
    refine tr_p (y_move rfl) rfl rfl ?_
    refine tr_e (e_call Try.call29 rfl (F.spatelaw8_ordered_ok H)) rfl rfl ?_
    rintro _ h6 ⟨r7, rfl, H⟩
    refine tr_p (y_move rfl) rfl rfl ?_
    refine tr_e (e_call Try.call29 rfl (F.spatelaw8_ordered_ok H)) rfl rfl ?_
    rintro _ h8 ⟨r9, rfl, H⟩
    refine tr_e (f_buildL (cs := #[r5.enc, r7.enc, r9.enc]) rfl rfl (bl_53_3_0_1_2 r5 r7 r9) H) rfl rfl ?_
    rintro _ h10 ⟨s11, rfl, H⟩
    refine tr_p (y_assign rfl) rfl rfl ?_
    refine tr_nil ?_
    refine tr_thenN ?_
    refine tr_seq ?_
    refine tr_region ?_
    refine tr_p (y_move rfl) rfl rfl ?_
    obtain ⟨a12, e13, H⟩ := H
    refine tr_p (f_idx (s := s11) Try.runUnderlying53 Try.sizeOf51 rfl rfl e13) rfl rfl ?_
    obtain ⟨y14, k15, H⟩ := H
    refine tr_h (y_ld Try.isAgg51 rfl) k15 rfl rfl ?_
    refine tr_p (f_build rfl (bd_57_4 y14)) rfl rfl ?_
    refine tr_e (e_call Try.call30 rfl (F.spatelaw2_LendResponse_ok H)) rfl rfl ?_
    rintro _ h16 ⟨r17, rfl, H⟩
    refine tr_p (y_field (fl_57_4 r17) rfl) rfl rfl ?_
    refine tr_p (y_assign rfl) rfl rfl ?_
    refine tr_nil ?_
    refine tr_thenN ?_
    refine tr_seq ?_
    refine tr_region ?_
    refine tr_p (y_move rfl) rfl rfl ?_
    obtain ⟨a18, e19, H⟩ := H
    refine tr_p (f_idx (s := s11) Try.runUnderlying53 Try.sizeOf51 rfl rfl e19) rfl rfl ?_
    obtain ⟨y20, k21, H⟩ := H
    refine tr_h (y_ld Try.isAgg51 rfl) k21 rfl rfl ?_
    refine tr_p (f_build rfl (bd_57_4 y20)) rfl rfl ?_
    refine tr_e (e_call Try.call30 rfl (F.spatelaw2_LendResponse_ok H)) rfl rfl ?_
    rintro _ h22 ⟨r23, rfl, H⟩
    refine tr_p (y_field (fl_57_4 r23) rfl) rfl rfl ?_
    refine tr_p (y_assign rfl) rfl rfl ?_
    refine tr_nil ?_
    refine tr_thenN ?_
    refine tr_seq ?_
    refine tr_region ?_
    refine tr_p (y_move rfl) rfl rfl ?_
    obtain ⟨a24, e25, H⟩ := H
    refine tr_p (f_idx (s := s11) Try.runUnderlying53 Try.sizeOf51 rfl rfl e25) rfl rfl ?_
    obtain ⟨y26, k27, H⟩ := H
    refine tr_h (y_ld Try.isAgg51 rfl) k27 rfl rfl ?_
    refine tr_p (f_build rfl (bd_57_4 y26)) rfl rfl ?_
    refine tr_e (e_call Try.call30 rfl (F.spatelaw2_LendResponse_ok H)) rfl rfl ?_
    rintro _ h28 ⟨r29, rfl, H⟩
    refine tr_p (y_field (fl_57_4 r29) rfl) rfl rfl ?_
    refine tr_p (y_assign rfl) rfl rfl ?_
    refine tr_nil ?_
    refine tr_thenN ?_
    refine tr_seq ?_
    refine tr_region ?_
    refine tr_p (y_move rfl) rfl rfl ?_
    refine tr_p (y_move rfl) rfl rfl ?_
    refine tr_p (y_move rfl) rfl rfl ?_
    refine tr_p (y_move rfl) rfl rfl ?_
    refine tr_e (f_buildL (cs := #[r17.Rows.enc, r23.Rows.enc, r29.Rows.enc]) rfl rfl (bl_53_3_0_1_2 r17.Rows r23.Rows r29.Rows) H) rfl rfl ?_
    rintro _ h30 ⟨s31, rfl, H⟩
    refine tr_e (e_call Try.call31 rfl (F.merge_Rows_ok H)) rfl rfl ?_
    rintro _ h32 ⟨r33, rfl, H⟩
    refine tr_p (y_assign rfl) rfl rfl ?_
    refine tr_nil ?_
    refine tr_thenN ?_
    refine tr_seq ?_
    refine tr_region ?_
    refine tr_p (y_move rfl) rfl rfl ?_
    refine tr_p (y_move rfl) rfl rfl ?_
    refine tr_p (y_move rfl) rfl rfl ?_
    refine tr_e (e_call Try.call33 rfl (F.spateref8_Rows_ok H)) rfl rfl ?_
    rintro _ h34 ⟨r35, rfl, H⟩
    refine tr_e (e_call Try.call32 rfl (F.spatelaw2_SameRows_ok H)) rfl rfl ?_
    rintro _ h36 ⟨r37, rfl, H⟩
    refine tr_p (y_assign rfl) rfl rfl ?_
    refine tr_nil ?_
    refine tr_thenN ?_
    refine tr_seq ?_
    refine tr_draw mixed [0, 1, 3, 3, 11, 27, 63, 127, 255, 511, 511, 1535, 3583, 8191, 16383, 32767, 65535, 65535, 196607, 458751, 1048575, 2097151, 4194303, 8388607, 8388607, 8388607, 58720255, 134217727, 268435455, 536870911, 1073741823, 2147483647, 4294967295, 8589934591, 17179869183, 34359738367, 68719476735, 68719476735, 206158430207, 481036337151, 1030792151039, 2199023255551, 68719476735, 68719476735, 8864812498943, 35184372088831, 70368744177663, 140737488355327, 281474976710655] (by kernel_rfl) ?_
    refine g_p 0 1 rfl (by kernel_rfl) (y_move rfl) rfl rfl ?_
    refine g_p 1 3 rfl (by kernel_rfl) (y_move rfl) rfl rfl ?_
    refine g_split (t := 54) rfl (fun g38 => ?_) (fun g38 => ?_)
    · replace H := H.1 g38
      refine g_p 2 7 rfl (by kernel_rfl) (y_move rfl) rfl rfl ?_
      refine g_p 3 15 rfl (by kernel_rfl) (y_move rfl) rfl rfl ?_
      obtain ⟨a39, e40, H⟩ := H
      refine g_p 4 31 rfl (by kernel_rfl) (f_idx (s := s11) Try.runUnderlying53 Try.sizeOf51 rfl rfl e40) rfl rfl ?_
      obtain ⟨y41, k42, H⟩ := H
      refine g_h 5 63 rfl (by kernel_rfl) (y_ld Try.isAgg51 rfl) k42 rfl rfl ?_
      refine g_e 6 127 [] (by kernel_rfl) rfl (by kernel_rfl) (e_call Try.call34 rfl (F.spatelaw2_KeptRows_ok H)) rfl rfl ?_
      rintro _ h43 ⟨r44, rfl, H⟩
      refine ⟨trivial, ?_⟩
      refine g_p 7 255 rfl (by kernel_rfl) (y_pick_t rfl rfl) rfl rfl ?_
      refine g_p 8 511 rfl (by kernel_rfl) (y_move rfl) rfl rfl ?_
      refine g_split (t := 61) rfl (fun g45 => ?_) (fun g45 => ?_)
      · replace H := H.1 g45
        refine g_p 9 1023 rfl (by kernel_rfl) (y_move rfl) rfl rfl ?_
        refine g_p 10 2047 rfl (by kernel_rfl) (y_move rfl) rfl rfl ?_
        obtain ⟨a46, e47, H⟩ := H
        refine g_p 11 4095 rfl (by kernel_rfl) (f_idx (s := s11) Try.runUnderlying53 Try.sizeOf51 rfl rfl e47) rfl rfl ?_
        obtain ⟨y48, k49, H⟩ := H
        refine g_h 12 8191 rfl (by kernel_rfl) (y_ld Try.isAgg51 rfl) k49 rfl rfl ?_
        refine g_e 13 16383 [] (by kernel_rfl) rfl (by kernel_rfl) (e_call Try.call34 rfl (F.spatelaw2_KeptRows_ok H)) rfl rfl ?_
        rintro _ h50 ⟨r51, rfl, H⟩
        refine ⟨trivial, ?_⟩
        refine g_p 14 32767 rfl (by kernel_rfl) (y_pick_t rfl rfl) rfl rfl ?_
        refine g_p 15 65535 rfl (by kernel_rfl) (y_move rfl) rfl rfl ?_
        refine g_split (t := 68) rfl (fun g52 => ?_) (fun g52 => ?_)
        · replace H := H.1 g52
          refine g_p 16 131071 rfl (by kernel_rfl) (y_move rfl) rfl rfl ?_
          refine g_p 17 262143 rfl (by kernel_rfl) (y_move rfl) rfl rfl ?_
          obtain ⟨a53, e54, H⟩ := H
          refine g_p 18 524287 rfl (by kernel_rfl) (f_idx (s := s11) Try.runUnderlying53 Try.sizeOf51 rfl rfl e54) rfl rfl ?_
          obtain ⟨y55, k56, H⟩ := H
          refine g_h 19 1048575 rfl (by kernel_rfl) (y_ld Try.isAgg51 rfl) k56 rfl rfl ?_
          refine g_e 20 2097151 [] (by kernel_rfl) rfl (by kernel_rfl) (e_call Try.call34 rfl (F.spatelaw2_KeptRows_ok H)) rfl rfl ?_
          rintro _ h57 ⟨r58, rfl, H⟩
          refine ⟨trivial, ?_⟩
          refine g_p 21 4194303 rfl (by kernel_rfl) (y_pick_t rfl rfl) rfl rfl ?_
          refine g_p 22 8388607 rfl (by kernel_rfl) (y_move rfl) rfl rfl ?_
          refine g_split (t := 75) rfl (fun g59 => ?_) (fun g59 => ?_)
          · replace H := H.1 g59
            refine g_p 23 16777215 rfl (by kernel_rfl) (y_move rfl) rfl rfl ?_
            refine g_p 24 33554431 rfl (by kernel_rfl) (y_move rfl) rfl rfl ?_
            refine g_p 25 67108863 rfl (by kernel_rfl) (y_move rfl) rfl rfl ?_
            refine g_e 26 134217727 [] (by kernel_rfl) rfl (by kernel_rfl) (e_call Try.call33 rfl (F.spateref8_Rows_ok H)) rfl rfl ?_
            rintro _ h60 ⟨r61, rfl, H⟩
            refine ⟨trivial, ?_⟩
            refine g_e 27 268435455 [] (by kernel_rfl) rfl (by kernel_rfl) (e_call Try.call32 rfl (F.spatelaw2_SameRows_ok H)) rfl rfl ?_
            rintro _ h62 ⟨r63, rfl, H⟩
            refine ⟨trivial, ?_⟩
            refine g_p 28 536870911 rfl (by kernel_rfl) (y_pick_t rfl rfl) rfl rfl ?_
            refine g_p 29 1073741823 rfl (by kernel_rfl) (y_move rfl) rfl rfl ?_
            refine g_split (t := 82) rfl (fun g64 => ?_) (fun g64 => ?_)
            · replace H := H.1 g64
              refine g_p 30 2147483647 rfl (by kernel_rfl) (y_move rfl) rfl rfl ?_
              refine g_e 31 4294967295 [] (by kernel_rfl) rfl (by kernel_rfl) (e_call Try.call31 rfl (F.merge_Rows_ok H)) rfl rfl ?_
              rintro _ h65 ⟨r66, rfl, H⟩
              refine ⟨trivial, ?_⟩
              refine g_p 32 8589934591 rfl (by kernel_rfl) (y_len (ts := #[]) Try.runUnderlying51 (o := r66.ptr) (n := r66.len) (cap := r66.cap) rfl) rfl rfl ?_
              refine g_p 33 17179869183 rfl (by kernel_rfl) (y_eql rfl rfl) rfl rfl ?_
              refine g_p 34 34359738367 rfl (by kernel_rfl) (y_pick_t rfl rfl) rfl rfl ?_
              refine g_p 35 68719476735 rfl (by kernel_rfl) (y_move rfl) rfl rfl ?_
              refine g_split (t := 88) rfl (fun g67 => ?_) (fun g67 => ?_)
              · replace H := H.1 g67
                refine g_p 36 137438953471 rfl (by kernel_rfl) (y_move rfl) rfl rfl ?_
                refine g_p 37 274877906943 rfl (by kernel_rfl) (y_move rfl) rfl rfl ?_
                obtain ⟨a68, e69, H⟩ := H
                refine g_p 38 549755813887 rfl (by kernel_rfl) (f_idx (s := s11) Try.runUnderlying53 Try.sizeOf51 rfl rfl e69) rfl rfl ?_
                obtain ⟨y70, k71, H⟩ := H
                refine g_h 39 1099511627775 rfl (by kernel_rfl) (y_ld Try.isAgg51 rfl) k71 rfl rfl ?_
                refine g_p 42 5497558138879 rfl (by kernel_rfl) (y_move rfl) rfl rfl ?_
                refine g_p 43 14293651161087 rfl (by kernel_rfl) (y_move rfl) rfl rfl ?_
                obtain ⟨s73, e72, H⟩ := H
                refine g_p 44 31885837205503 rfl (by kernel_rfl) (f_cutL (s := s11) none (some (.i64, 1)) Try.runUnderlying53 Try.sizeOf51 rfl rfl rfl e72) rfl rfl ?_
                refine g_e 40 32985348833279 [] (by kernel_rfl) rfl (by kernel_rfl) (f_buildL (cs := #[y70.enc]) rfl rfl (bl_53_1_0 y70) H) rfl rfl ?_
                rintro _ h74 ⟨s75, rfl, H⟩
                refine ⟨trivial, ?_⟩
                refine g_e 41 35184372088831 [] (by kernel_rfl) rfl (by kernel_rfl) (e_call Try.call31 rfl (F.merge_Rows_ok H)) rfl rfl ?_
                rintro _ h76 ⟨r77, rfl, H⟩
                refine ⟨trivial, ?_⟩
                refine g_e 45 70368744177663 [] (by kernel_rfl) rfl (by kernel_rfl) (e_call Try.call33 rfl (F.spateref8_Rows_ok H)) rfl rfl ?_
                rintro _ h78 ⟨r79, rfl, H⟩
                refine ⟨trivial, ?_⟩
                refine g_e 46 140737488355327 [] (by kernel_rfl) rfl (by kernel_rfl) (e_call Try.call32 rfl (F.spatelaw2_SameRows_ok H)) rfl rfl ?_
                rintro _ h80 ⟨r81, rfl, H⟩
                refine ⟨trivial, ?_⟩
                refine g_p 47 281474976710655 rfl (by kernel_rfl) (y_pick_t rfl rfl) rfl rfl ?_
                refine g_p 48 562949953421311 rfl (by kernel_rfl) (y_assign rfl) rfl rfl ?_
                refine g_d (by kernel_rfl) ?_
                refine tr_thenN ?_
                refine tr_ret ?_
                exact tr_ret1 rfl rfl ⟨_, rfl, H⟩
              · replace H := H.2 g67
                refine g_s 36 137438953471 rfl (by kernel_rfl) rfl rfl ?_
                refine g_s 37 274877906943 rfl (by kernel_rfl) rfl rfl ?_
                refine g_s 38 549755813887 rfl (by kernel_rfl) rfl rfl ?_
                refine g_s 39 1099511627775 rfl (by kernel_rfl) rfl rfl ?_
                refine g_s 40 2199023255551 rfl (by kernel_rfl) rfl rfl ?_
                refine g_s 41 4398046511103 rfl (by kernel_rfl) rfl rfl ?_
                refine g_s 42 8796093022207 rfl (by kernel_rfl) rfl rfl ?_
                refine g_s 43 17592186044415 rfl (by kernel_rfl) rfl rfl ?_
                refine g_s 44 35184372088831 rfl (by kernel_rfl) rfl rfl ?_
                refine g_s 45 70368744177663 rfl (by kernel_rfl) rfl rfl ?_
                refine g_s 46 140737488355327 rfl (by kernel_rfl) rfl rfl ?_
                refine g_p 47 281474976710655 rfl (by kernel_rfl) (y_pick_f rfl rfl) rfl rfl ?_
                refine g_p 48 562949953421311 rfl (by kernel_rfl) (y_assign rfl) rfl rfl ?_
                refine g_d (by kernel_rfl) ?_
                refine tr_thenN ?_
                refine tr_ret ?_
                exact tr_ret1 rfl rfl ⟨_, rfl, H⟩
            · replace H := H.2 g64
              refine g_s 30 2147483647 rfl (by kernel_rfl) rfl rfl ?_
              refine g_s 31 4294967295 rfl (by kernel_rfl) rfl rfl ?_
              refine g_s 32 8589934591 rfl (by kernel_rfl) rfl rfl ?_
              refine g_s 33 17179869183 rfl (by kernel_rfl) rfl rfl ?_
              refine g_p 34 34359738367 rfl (by kernel_rfl) (y_pick_f rfl rfl) rfl rfl ?_
              refine g_p 35 68719476735 rfl (by kernel_rfl) (y_move rfl) rfl rfl ?_
              refine g_s 36 137438953471 rfl (by kernel_rfl) rfl rfl ?_
              refine g_s 37 274877906943 rfl (by kernel_rfl) rfl rfl ?_
              refine g_s 38 549755813887 rfl (by kernel_rfl) rfl rfl ?_
              refine g_s 39 1099511627775 rfl (by kernel_rfl) rfl rfl ?_
              refine g_s 40 2199023255551 rfl (by kernel_rfl) rfl rfl ?_
              refine g_s 41 4398046511103 rfl (by kernel_rfl) rfl rfl ?_
              refine g_s 42 8796093022207 rfl (by kernel_rfl) rfl rfl ?_
              refine g_s 43 17592186044415 rfl (by kernel_rfl) rfl rfl ?_
              refine g_s 44 35184372088831 rfl (by kernel_rfl) rfl rfl ?_
              refine g_s 45 70368744177663 rfl (by kernel_rfl) rfl rfl ?_
              refine g_s 46 140737488355327 rfl (by kernel_rfl) rfl rfl ?_
              refine g_p 47 281474976710655 rfl (by kernel_rfl) (y_pick_f rfl rfl) rfl rfl ?_
              refine g_p 48 562949953421311 rfl (by kernel_rfl) (y_assign rfl) rfl rfl ?_
              refine g_d (by kernel_rfl) ?_
              refine tr_thenN ?_
              refine tr_ret ?_
              exact tr_ret1 rfl rfl ⟨_, rfl, H⟩
          · replace H := H.2 g59
            refine g_s 23 16777215 rfl (by kernel_rfl) rfl rfl ?_
            refine g_s 24 33554431 rfl (by kernel_rfl) rfl rfl ?_
            refine g_s 25 67108863 rfl (by kernel_rfl) rfl rfl ?_
            refine g_s 26 134217727 rfl (by kernel_rfl) rfl rfl ?_
            refine g_s 27 268435455 rfl (by kernel_rfl) rfl rfl ?_
            refine g_p 28 536870911 rfl (by kernel_rfl) (y_pick_f rfl rfl) rfl rfl ?_
            refine g_p 29 1073741823 rfl (by kernel_rfl) (y_move rfl) rfl rfl ?_
            refine g_s 30 2147483647 rfl (by kernel_rfl) rfl rfl ?_
            refine g_s 31 4294967295 rfl (by kernel_rfl) rfl rfl ?_
            refine g_s 32 8589934591 rfl (by kernel_rfl) rfl rfl ?_
            refine g_s 33 17179869183 rfl (by kernel_rfl) rfl rfl ?_
            refine g_p 34 34359738367 rfl (by kernel_rfl) (y_pick_f rfl rfl) rfl rfl ?_
            refine g_p 35 68719476735 rfl (by kernel_rfl) (y_move rfl) rfl rfl ?_
            refine g_s 36 137438953471 rfl (by kernel_rfl) rfl rfl ?_
            refine g_s 37 274877906943 rfl (by kernel_rfl) rfl rfl ?_
            refine g_s 38 549755813887 rfl (by kernel_rfl) rfl rfl ?_
            refine g_s 39 1099511627775 rfl (by kernel_rfl) rfl rfl ?_
            refine g_s 40 2199023255551 rfl (by kernel_rfl) rfl rfl ?_
            refine g_s 41 4398046511103 rfl (by kernel_rfl) rfl rfl ?_
            refine g_s 42 8796093022207 rfl (by kernel_rfl) rfl rfl ?_
            refine g_s 43 17592186044415 rfl (by kernel_rfl) rfl rfl ?_
            refine g_s 44 35184372088831 rfl (by kernel_rfl) rfl rfl ?_
            refine g_s 45 70368744177663 rfl (by kernel_rfl) rfl rfl ?_
            refine g_s 46 140737488355327 rfl (by kernel_rfl) rfl rfl ?_
            refine g_p 47 281474976710655 rfl (by kernel_rfl) (y_pick_f rfl rfl) rfl rfl ?_
            refine g_p 48 562949953421311 rfl (by kernel_rfl) (y_assign rfl) rfl rfl ?_
            refine g_d (by kernel_rfl) ?_
            refine tr_thenN ?_
            refine tr_ret ?_
            exact tr_ret1 rfl rfl ⟨_, rfl, H⟩
        · replace H := H.2 g52
          refine g_s 16 131071 rfl (by kernel_rfl) rfl rfl ?_
          refine g_s 17 262143 rfl (by kernel_rfl) rfl rfl ?_
          refine g_s 18 524287 rfl (by kernel_rfl) rfl rfl ?_
          refine g_s 19 1048575 rfl (by kernel_rfl) rfl rfl ?_
          refine g_s 20 2097151 rfl (by kernel_rfl) rfl rfl ?_
          refine g_p 21 4194303 rfl (by kernel_rfl) (y_pick_f rfl rfl) rfl rfl ?_
          refine g_p 22 8388607 rfl (by kernel_rfl) (y_move rfl) rfl rfl ?_
          refine g_s 23 16777215 rfl (by kernel_rfl) rfl rfl ?_
          refine g_s 24 33554431 rfl (by kernel_rfl) rfl rfl ?_
          refine g_s 25 67108863 rfl (by kernel_rfl) rfl rfl ?_
          refine g_s 26 134217727 rfl (by kernel_rfl) rfl rfl ?_
          refine g_s 27 268435455 rfl (by kernel_rfl) rfl rfl ?_
          refine g_p 28 536870911 rfl (by kernel_rfl) (y_pick_f rfl rfl) rfl rfl ?_
          refine g_p 29 1073741823 rfl (by kernel_rfl) (y_move rfl) rfl rfl ?_
          refine g_s 30 2147483647 rfl (by kernel_rfl) rfl rfl ?_
          refine g_s 31 4294967295 rfl (by kernel_rfl) rfl rfl ?_
          refine g_s 32 8589934591 rfl (by kernel_rfl) rfl rfl ?_
          refine g_s 33 17179869183 rfl (by kernel_rfl) rfl rfl ?_
          refine g_p 34 34359738367 rfl (by kernel_rfl) (y_pick_f rfl rfl) rfl rfl ?_
          refine g_p 35 68719476735 rfl (by kernel_rfl) (y_move rfl) rfl rfl ?_
          refine g_s 36 137438953471 rfl (by kernel_rfl) rfl rfl ?_
          refine g_s 37 274877906943 rfl (by kernel_rfl) rfl rfl ?_
          refine g_s 38 549755813887 rfl (by kernel_rfl) rfl rfl ?_
          refine g_s 39 1099511627775 rfl (by kernel_rfl) rfl rfl ?_
          refine g_s 40 2199023255551 rfl (by kernel_rfl) rfl rfl ?_
          refine g_s 41 4398046511103 rfl (by kernel_rfl) rfl rfl ?_
          refine g_s 42 8796093022207 rfl (by kernel_rfl) rfl rfl ?_
          refine g_s 43 17592186044415 rfl (by kernel_rfl) rfl rfl ?_
          refine g_s 44 35184372088831 rfl (by kernel_rfl) rfl rfl ?_
          refine g_s 45 70368744177663 rfl (by kernel_rfl) rfl rfl ?_
          refine g_s 46 140737488355327 rfl (by kernel_rfl) rfl rfl ?_
          refine g_p 47 281474976710655 rfl (by kernel_rfl) (y_pick_f rfl rfl) rfl rfl ?_
          refine g_p 48 562949953421311 rfl (by kernel_rfl) (y_assign rfl) rfl rfl ?_
          refine g_d (by kernel_rfl) ?_
          refine tr_thenN ?_
          refine tr_ret ?_
          exact tr_ret1 rfl rfl ⟨_, rfl, H⟩
      · replace H := H.2 g45
        refine g_s 9 1023 rfl (by kernel_rfl) rfl rfl ?_
        refine g_s 10 2047 rfl (by kernel_rfl) rfl rfl ?_
        refine g_s 11 4095 rfl (by kernel_rfl) rfl rfl ?_
        refine g_s 12 8191 rfl (by kernel_rfl) rfl rfl ?_
        refine g_s 13 16383 rfl (by kernel_rfl) rfl rfl ?_
        refine g_p 14 32767 rfl (by kernel_rfl) (y_pick_f rfl rfl) rfl rfl ?_
        refine g_p 15 65535 rfl (by kernel_rfl) (y_move rfl) rfl rfl ?_
        refine g_s 16 131071 rfl (by kernel_rfl) rfl rfl ?_
        refine g_s 17 262143 rfl (by kernel_rfl) rfl rfl ?_
        refine g_s 18 524287 rfl (by kernel_rfl) rfl rfl ?_
        refine g_s 19 1048575 rfl (by kernel_rfl) rfl rfl ?_
        refine g_s 20 2097151 rfl (by kernel_rfl) rfl rfl ?_
        refine g_p 21 4194303 rfl (by kernel_rfl) (y_pick_f rfl rfl) rfl rfl ?_
        refine g_p 22 8388607 rfl (by kernel_rfl) (y_move rfl) rfl rfl ?_
        refine g_s 23 16777215 rfl (by kernel_rfl) rfl rfl ?_
        refine g_s 24 33554431 rfl (by kernel_rfl) rfl rfl ?_
        refine g_s 25 67108863 rfl (by kernel_rfl) rfl rfl ?_
        refine g_s 26 134217727 rfl (by kernel_rfl) rfl rfl ?_
        refine g_s 27 268435455 rfl (by kernel_rfl) rfl rfl ?_
        refine g_p 28 536870911 rfl (by kernel_rfl) (y_pick_f rfl rfl) rfl rfl ?_
        refine g_p 29 1073741823 rfl (by kernel_rfl) (y_move rfl) rfl rfl ?_
        refine g_s 30 2147483647 rfl (by kernel_rfl) rfl rfl ?_
        refine g_s 31 4294967295 rfl (by kernel_rfl) rfl rfl ?_
        refine g_s 32 8589934591 rfl (by kernel_rfl) rfl rfl ?_
        refine g_s 33 17179869183 rfl (by kernel_rfl) rfl rfl ?_
        refine g_p 34 34359738367 rfl (by kernel_rfl) (y_pick_f rfl rfl) rfl rfl ?_
        refine g_p 35 68719476735 rfl (by kernel_rfl) (y_move rfl) rfl rfl ?_
        refine g_s 36 137438953471 rfl (by kernel_rfl) rfl rfl ?_
        refine g_s 37 274877906943 rfl (by kernel_rfl) rfl rfl ?_
        refine g_s 38 549755813887 rfl (by kernel_rfl) rfl rfl ?_
        refine g_s 39 1099511627775 rfl (by kernel_rfl) rfl rfl ?_
        refine g_s 40 2199023255551 rfl (by kernel_rfl) rfl rfl ?_
        refine g_s 41 4398046511103 rfl (by kernel_rfl) rfl rfl ?_
        refine g_s 42 8796093022207 rfl (by kernel_rfl) rfl rfl ?_
        refine g_s 43 17592186044415 rfl (by kernel_rfl) rfl rfl ?_
        refine g_s 44 35184372088831 rfl (by kernel_rfl) rfl rfl ?_
        refine g_s 45 70368744177663 rfl (by kernel_rfl) rfl rfl ?_
        refine g_s 46 140737488355327 rfl (by kernel_rfl) rfl rfl ?_
        refine g_p 47 281474976710655 rfl (by kernel_rfl) (y_pick_f rfl rfl) rfl rfl ?_
        refine g_p 48 562949953421311 rfl (by kernel_rfl) (y_assign rfl) rfl rfl ?_
        refine g_d (by kernel_rfl) ?_
        refine tr_thenN ?_
        refine tr_ret ?_
        exact tr_ret1 rfl rfl ⟨_, rfl, H⟩
    · replace H := H.2 g38
      refine g_s 2 7 rfl (by kernel_rfl) rfl rfl ?_
      refine g_s 3 15 rfl (by kernel_rfl) rfl rfl ?_
      refine g_s 4 31 rfl (by kernel_rfl) rfl rfl ?_
      refine g_s 5 63 rfl (by kernel_rfl) rfl rfl ?_
      refine g_s 6 127 rfl (by kernel_rfl) rfl rfl ?_
      refine g_p 7 255 rfl (by kernel_rfl) (y_pick_f rfl rfl) rfl rfl ?_
      refine g_p 8 511 rfl (by kernel_rfl) (y_move rfl) rfl rfl ?_
      refine g_s 9 1023 rfl (by kernel_rfl) rfl rfl ?_
      refine g_s 10 2047 rfl (by kernel_rfl) rfl rfl ?_
      refine g_s 11 4095 rfl (by kernel_rfl) rfl rfl ?_
      refine g_s 12 8191 rfl (by kernel_rfl) rfl rfl ?_
      refine g_s 13 16383 rfl (by kernel_rfl) rfl rfl ?_
      refine g_p 14 32767 rfl (by kernel_rfl) (y_pick_f rfl rfl) rfl rfl ?_
      refine g_p 15 65535 rfl (by kernel_rfl) (y_move rfl) rfl rfl ?_
      refine g_s 16 131071 rfl (by kernel_rfl) rfl rfl ?_
      refine g_s 17 262143 rfl (by kernel_rfl) rfl rfl ?_
      refine g_s 18 524287 rfl (by kernel_rfl) rfl rfl ?_
      refine g_s 19 1048575 rfl (by kernel_rfl) rfl rfl ?_
      refine g_s 20 2097151 rfl (by kernel_rfl) rfl rfl ?_
      refine g_p 21 4194303 rfl (by kernel_rfl) (y_pick_f rfl rfl) rfl rfl ?_
      refine g_p 22 8388607 rfl (by kernel_rfl) (y_move rfl) rfl rfl ?_
      refine g_s 23 16777215 rfl (by kernel_rfl) rfl rfl ?_
      refine g_s 24 33554431 rfl (by kernel_rfl) rfl rfl ?_
      refine g_s 25 67108863 rfl (by kernel_rfl) rfl rfl ?_
      refine g_s 26 134217727 rfl (by kernel_rfl) rfl rfl ?_
      refine g_s 27 268435455 rfl (by kernel_rfl) rfl rfl ?_
      refine g_p 28 536870911 rfl (by kernel_rfl) (y_pick_f rfl rfl) rfl rfl ?_
      refine g_p 29 1073741823 rfl (by kernel_rfl) (y_move rfl) rfl rfl ?_
      refine g_s 30 2147483647 rfl (by kernel_rfl) rfl rfl ?_
      refine g_s 31 4294967295 rfl (by kernel_rfl) rfl rfl ?_
      refine g_s 32 8589934591 rfl (by kernel_rfl) rfl rfl ?_
      refine g_s 33 17179869183 rfl (by kernel_rfl) rfl rfl ?_
      refine g_p 34 34359738367 rfl (by kernel_rfl) (y_pick_f rfl rfl) rfl rfl ?_
      refine g_p 35 68719476735 rfl (by kernel_rfl) (y_move rfl) rfl rfl ?_
      refine g_s 36 137438953471 rfl (by kernel_rfl) rfl rfl ?_
      refine g_s 37 274877906943 rfl (by kernel_rfl) rfl rfl ?_
      refine g_s 38 549755813887 rfl (by kernel_rfl) rfl rfl ?_
      refine g_s 39 1099511627775 rfl (by kernel_rfl) rfl rfl ?_
      refine g_s 40 2199023255551 rfl (by kernel_rfl) rfl rfl ?_
      refine g_s 41 4398046511103 rfl (by kernel_rfl) rfl rfl ?_
      refine g_s 42 8796093022207 rfl (by kernel_rfl) rfl rfl ?_
      refine g_s 43 17592186044415 rfl (by kernel_rfl) rfl rfl ?_
      refine g_s 44 35184372088831 rfl (by kernel_rfl) rfl rfl ?_
      refine g_s 45 70368744177663 rfl (by kernel_rfl) rfl rfl ?_
      refine g_s 46 140737488355327 rfl (by kernel_rfl) rfl rfl ?_
      refine g_p 47 281474976710655 rfl (by kernel_rfl) (y_pick_f rfl rfl) rfl rfl ?_
      refine g_p 48 562949953421311 rfl (by kernel_rfl) (y_assign rfl) rfl rfl ?_
      refine g_d (by kernel_rfl) ?_
      refine tr_thenN ?_
      refine tr_ret ?_
      exact tr_ret1 rfl rfl ⟨_, rfl, H⟩
end Go.Proofs.Ytidpbnbjpglhfaa.V
namespace Go.Proofs.Ytidpbnbjpglhfaa.V
open Go
set_option linter.unusedVariables false
set_option linter.unusedSimpArgs false
abbrev Cel := S_api_Cell
theorem elU : El PP 47 5 1 1 (.int .u8 0) := ⟨Try.underlying47, ⟨Try.t5, by kernel_rfl, by kernel_rfl, by kernel_rfl, by kernel_rfl⟩, rfl, by omega, by omega⟩
theorem cU_one (b : UInt8) : ∀ v ∈ cU b, v.oneCell' = true := one1 rfl
theorem Blk.cells3 {h : H} {n : Nat} {c : Cel} {e : TypeId} (k : Blk h n c.cells.toArray e) : Cells h ⟨n, 0, none⟩ c.cells := fun j v hv => by rw [add_lit, Nat.zero_add]; exact k.cell (by simpa using hv)
def mayC (c : Cel) : Int := if c.View < 0 ∨ c.View > 4 then 23 else if (c.Key.size : Int) > 32 then 21 else if c.Start < -2305843009213693952 ∨ c.Start > 2305843009213693952 then 22 else 0
theorem mayC_spec {h : H} {c : Cel} {Q : Int → H → Prop} (k : ∀ h', Ext h h' → Q (mayC c) h') : F.merge_may c h Q := by
  unfold F.merge_may
  refine new_of fun n h1 e1 e2 e3 e4 => ?_
  have k := k h1 e3
  unfold mayC at k
  simp only [F.merge_may.j1, F.merge_may.j2, add_lit, Nat.zero_add, ldI_iff (e2.cell (i := 0) (v := .int .i64 c.View) rfl), ldS_iff (e2.cell (i := 1) (v := .string c.Key) rfl), ldI_iff (e2.cell (i := 2) (v := .int .i64 c.Start) rfl), decide_eq_true_eq, decide_eq_false_iff_not]
  have hb : ¬ (c.View < 0 ∨ c.View > 4) → ((c.Key.size : Int) > 32 → Q 21 h1) ∧ (¬ (c.Key.size : Int) > 32 → (c.Start < -2305843009213693952 → (True → Q 22 h1) ∧ (true = false → Q 0 h1)) ∧ (¬ c.Start < -2305843009213693952 → (c.Start > 2305843009213693952 → Q 22 h1) ∧ (¬ c.Start > 2305843009213693952 → Q 0 h1))) := fun g => by
    rw [if_neg g] at k
    refine ⟨fun g1 => by rw [if_pos g1] at k; exact k, fun g1 => ?_⟩
    rw [if_neg g1] at k
    refine ⟨fun g2 => ⟨fun _ => by rw [if_pos (.inl g2)] at k; exact k, fun h => by cases h⟩, fun g2 => ⟨fun g3 => by rw [if_pos (.inr g3)] at k; exact k, fun g3 => by rw [if_neg (by omega)] at k; exact k⟩⟩
  refine ⟨fun g => ⟨fun _ => by rw [if_pos (.inl g)] at k; exact k, fun h => by cases h⟩, fun g => ⟨fun g2 => by rw [if_pos (.inr g2)] at k; exact k, fun g2 => hb (by omega)⟩⟩
def escL : List UInt8 → List UInt8
  | [] => []
  | b :: r => if b = 0 then 0 :: 255 :: escL r else b :: escL r
theorem escL_snoc (b : UInt8) : ∀ l, escL (l ++ [b]) = escL l ++ (if b = 0 then [0, 255] else [b])
  | [] => by by_cases h : b = 0 <;> simp [escL, h]
  | x :: r => by simp only [List.cons_append, escL, escL_snoc b r]; split <;> simp
theorem escL_len : ∀ l : List UInt8, (escL l).length ≤ 2 * l.length
  | [] => by simp [escL]
  | b :: r => by have := escL_len r; simp only [escL]; split <;> simp <;> omega
def beT (u : Nat) : Nat → List UInt8
  | 0 => []
  | j + 1 => UInt8.ofNat (u / 2 ^ (8 * j)) :: beT u j
theorem beT_len (u : Nat) : ∀ j, (beT u j).length = j
  | 0 => rfl
  | j + 1 => by simp [beT, beT_len u j]
def upU (n : Int) : Nat := (IntKind.wrap .u64 (IntKind.wrap .u64 n + 9223372036854775808)).toNat
def keyL (c : Cel) : List UInt8 := UInt8.ofNat c.View.toNat :: (escL c.Key.data.toList ++ [0, 1] ++ beT (upU c.Start) 8)
theorem wrap_u64 (n : Int) : IntKind.wrap .u64 n = n % 18446744073709551616 := by
  unfold IntKind.wrap; simp [IntKind.bits, IntKind.signed]
theorem wrap_u8 (n : Int) : IntKind.wrap .u8 n = n % 256 := by
  unfold IntKind.wrap; simp [IntKind.bits, IntKind.signed]
theorem upU_eq (n : Int) : ((upU n : Nat) : Int) = IntKind.wrap .u64 (IntKind.wrap .u64 n + 9223372036854775808) := by
  unfold upU
  rw [Int.toNat_of_nonneg]
  rw [wrap_u64]; omega
theorem fdiv_pow (u i : Nat) : Int.fdiv (u : Int) (2 ^ i : Int) = ((u / 2 ^ i : Nat) : Int) := by
  have e : (2 ^ i : Int) = ((2 ^ i : Nat) : Int) := by simp
  rw [e, Int.ofNat_fdiv]
theorem u8_of (n : Nat) : ((UInt8.ofNat n).toNat : Int) = IntKind.wrap .u8 (n : Int) := by
  rw [wrap_u8]; simp
theorem key_tail {h0 : H} {u : Nat} {Q : ByteArray → Int → H → Prop} {L0 : List UInt8} (hL0 : L0.length ≤ 1000) (k : ∀ h', Ext h0 h' → Q ⟨(L0 ++ beT u 8).toArray⟩ 0 h') :
    ∀ (j m : Nat) (h : H) (s : Sl) (L : List UInt8), j ≤ 8 → j < m → Ext h0 h → Owns h s 5 1 (L.flatMap cU) → Mine h0 s → L ++ beT u j = L0 ++ beT u 8 → F.merge_Key.l2 Q m s (u : Int) (8 * (j : Int) - 8) h
  | j, 0, h, s, L, _, hm, _, _, _, _ => by omega
  | j, m + 1, h, s, L, hj, hm, e0, ow, mi, hL => by
    unfold F.merge_Key.l2
    simp only [decide_eq_true_eq, decide_eq_false_iff_not]
    have hlen : L.length + j = L0.length + 8 := by have := congrArg List.length hL; simpa [beT_len] using this
    refine ⟨fun g => ⟨g, ?_⟩, fun g => ?_⟩
    · obtain ⟨i, rfl⟩ : ∃ i, j = i + 1 := ⟨j - 1, by omega⟩
      have hb : IntKind.wrap .u8 (Int.fdiv (u : Int) (2 ^ (min (8 * ((i + 1 : Nat) : Int) - 8).toNat (IntKind.bits .u64)) : Int)) = ((UInt8.ofNat (u / 2 ^ (8 * i))).toNat : Int) := by
        rw [u8_of, show (8 * ((i + 1 : Nat) : Int) - 8).toNat = 8 * i from by omega, show min (8 * i) (IntKind.bits .u64) = 8 * i from by simp [IntKind.bits]; omega]
        rw [fdiv_pow]
      rw [hb]
      refine push_mine (f := cU) (UInt8.ofNat (u / 2 ^ (8 * i))) e0 mi cU_len (by omega) elU ow cU_one (by omega) fun r h1 q1 q2 q3 q4 q5 => ?_
      rw [w64 (by omega) (by omega), show 8 * ((i + 1 : Nat) : Int) - 8 - 8 = 8 * (i : Int) - 8 from by omega]
      refine key_tail hL0 k i m h1 r _ (by omega) (by omega) q2 q1 q3 ?_
      rw [← hL]; simp [beT]
    · have : j = 0 := by omega
      subst this
      refine cvtT_of (l := L) Try.underlying47 Try.underlying5 Try.underlying9 ow.reads ?_
      have : L = L0 ++ beT u 8 := by simpa [beT] using hL
      rw [this]; exact k h e0
theorem key_loop {h0 : H} {c : Cel} {n : Nat} {Q : ByteArray → Int → H → Prop} {pre : UInt8} (hk : c.Key.size ≤ 32) (k : ∀ h', Ext h0 h' → Q ⟨(pre :: (escL c.Key.data.toList ++ [0, 1] ++ beT (upU c.Start) 8)).toArray⟩ 0 h') (hn : h0.size ≤ n) :
    ∀ (m i : Nat) (h : H) (s : Sl), i ≤ c.Key.size → c.Key.size - i < m → Ext h0 h → Blk h n c.cells.toArray 34 → n < h.size → Owns h s 5 1 ((pre :: escL (c.Key.data.toList.take i)).flatMap cU) → Mine h0 s → s.blk ≠ some n →
    F.merge_Key.l1 Q m ⟨n, 0, none⟩ s (c.Key.size : Int) (i : Int) h
  | 0, i, h, s, _, hm, _, _, _, _, _, _ => by omega
  | m + 1, i, h, s, hi, hm, e0, bl, hnl, ow, mi, hne => by
    unfold F.merge_Key.l1
    simp only [decide_eq_true_eq, decide_eq_false_iff_not, add_lit, Nat.zero_add]
    have hel := escL_len (c.Key.data.toList.take i)
    rw [List.length_take, ← size_data] at hel
    refine ⟨fun g => ?_, fun g => ?_⟩
    · rw [ldS_iff (bl.cell (i := 1) (v := .string c.Key) rfl)]
      obtain ⟨b, hb⟩ : ∃ b, c.Key.data.toList[i]? = some b := ⟨_, List.getElem?_eq_getElem (by rw [← size_data]; omega)⟩
      refine idxS_of hb rfl ?_
      have htk : escL (c.Key.data.toList.take (i + 1)) = escL (c.Key.data.toList.take i) ++ (if b = 0 then [0, 255] else [b]) := by rw [List.take_add_one, hb]; exact escL_snoc b _
      refine push_mine (f := cU) b e0 mi cU_len (by omega) elU ow cU_one (by simp; omega) fun r h1 q1 q2 q3 q4 q5 => ?_
      have bl1 : Blk h1 n c.cells.toArray 34 := q4.block bl hne
      have hg1 := q4.size
      have hne1 : r.blk ≠ some n := by
        rcases q5 with q5 | ⟨x, q5, q6⟩
        · rw [q5]; exact hne
        · rw [q5]; intro e; cases e; omega
      rw [ldS_iff (bl1.cell (i := 1) (v := .string c.Key) rfl)]
      refine idxS_of hb rfl ?_
      have hw : IntKind.wrap .i64 ((i : Int) + 1) = ((i + 1 : Nat) : Int) := by rw [w64 (by omega) (by omega)]; omega
      rw [hw, beq_iff_eq, beq_eq_false_iff_ne]
      have hb0 : (b.toNat : Int) = 0 ↔ b = 0 := by
        constructor
        · intro h; exact UInt8.toNat_inj.1 (by simpa using (by omega : b.toNat = 0))
        · intro h; subst h; rfl
      rw [hb0, Ne, hb0]
      refine ⟨fun g2 => ?_, fun g2 => ?_⟩
      · refine push_mine (f := cU) 255 q2 q3 cU_len (by omega) elU q1 cU_one (by simp; omega) fun r2 h2 p1 p2 p3 p4 p5 => ?_
        have hne2 : r2.blk ≠ some n := by
          rcases p5 with p5 | ⟨x, p5, p6⟩
          · rw [p5]; exact hne1
          · rw [p5]; intro e; cases e; omega
        refine key_loop hk k hn m (i + 1) h2 r2 (by omega) (by omega) p2 (p4.block bl1 hne1) (by have := p4.size; omega) ?_ p3 hne2
        rw [htk, if_pos g2]; subst g2; simpa using p1
      · refine key_loop hk k hn m (i + 1) h1 r (by omega) (by omega) q2 bl1 (by omega) ?_ q3 hne1
        rw [htk, if_neg g2]; simpa using q1
    · have hii : i = c.Key.size := by omega
      subst hii
      refine newL_of fun x h1 e1 e2 e3 e4 => ?_
      refine app_mine (f := cU) (M := [0, 1]) (e0.trans e3) mi cU_len (by omega) elU (ow.ext e3) (blk_reads (show Blk h1 x (([0, 1] : List UInt8).flatMap cU).toArray 5 from e2) rfl) cU_one (by simp; omega) fun r h2 q1 q2 q3 q4 q5 => ?_
      have bl1 : Blk h2 n c.cells.toArray 34 := q4.block (e3.block bl (fun f => f)) hne
      rw [ldI_iff (bl1.cell (i := 2) (v := .int .i64 c.Start) rfl), ← upU_eq]
      refine ⟨9, ?_⟩
      have ht : c.Key.data.toList.take c.Key.size = c.Key.data.toList := List.take_of_length_le (by rw [← size_data]; omega)
      rw [ht] at q1
      have hl2 := escL_len c.Key.data.toList
      rw [← size_data] at hl2
      refine key_tail (L0 := pre :: (escL c.Key.data.toList ++ [0, 1])) (by simp; omega) (by simpa using k) 8 9 h2 r _ (by omega) (by omega) q2 q1 q3 (by simp)
theorem Key_spec {h : H} {c : Cel} {Q : ByteArray → Int → H → Prop} (k0 : mayC c ≠ 0 → ∀ h', Ext h h' → Q ⟨#[]⟩ (mayC c) h') (k1 : mayC c = 0 → ∀ h', Ext h h' → Q ⟨(keyL c).toArray⟩ 0 h') : F.merge_Key c h Q := by
  unfold F.merge_Key
  refine new_of fun n h1 e1 e2 e3 e4 => ?_
  refine ⟨c, e2.cells3, mayC_spec fun h2 f1 => ?_⟩
  have e5 := e3.trans f1
  have bl : Blk h2 n c.cells.toArray 34 := f1.block e2 (fun f => f)
  refine ⟨fun g => k0 (by simpa using g) h2 e5, fun g => ?_⟩
  have hm : mayC c = 0 := by simpa using g
  simp only [add_lit, Nat.zero_add]
  rw [ldI_iff (bl.cell (i := 0) (v := .int .i64 c.View) rfl)]
  have hv : 0 ≤ c.View ∧ c.View ≤ 4 ∧ c.Key.size ≤ 32 := by
    unfold mayC at hm
    split at hm
    · omega
    · split at hm
      · omega
      · omega
  have hw : IntKind.wrap .u8 c.View = ((UInt8.ofNat c.View.toNat).toNat : Int) := by rw [u8_of, Int.toNat_of_nonneg hv.1]
  rw [hw]
  refine newL_of fun x h3 g1 g2 g3 g4 => ?_
  have bl3 : Blk h3 n c.cells.toArray 34 := g3.block bl (fun f => f)
  rw [ldS_iff (bl3.cell (i := 1) (v := .string c.Key) rfl)]
  have hs := e5.size
  have hs3 := e3.size
  have hf1 := f1.size
  refine ⟨c.Key.size + 1, ?_⟩
  refine key_loop (h0 := h) (pre := UInt8.ofNat c.View.toNat) hv.2.2 (fun h' e => k1 hm h' e) (by omega) _ 0 h3 _ (by omega) (by omega) (e5.trans g3) bl3 (by omega) (show Owns h3 ⟨some ⟨x, 0, none⟩, 1, 1⟩ 5 1 [.int .u8 ((UInt8.ofNat c.View.toNat).toNat : Int)] from blk_owns (m := 1) g2 rfl (by simp [maxLen])) (fun b hb => by simp [Sl.blk] at hb; omega) (by simp [Sl.blk]; omega)
end Go.Proofs.Ytidpbnbjpglhfaa.V
namespace Go.Proofs.Ytidpbnbjpglhfaa.V
open Go
set_option linter.unusedVariables false
set_option linter.unusedSimpArgs false
/-- The key's letters, and what lies behind them; or the error. -/
def unesc : List UInt8 → Except Int (List UInt8 × List UInt8)
  | [] => .error 11
  | b :: r => if b ≠ 0 then (match unesc r with | .ok p => .ok (b :: p.1, p.2) | .error e => .error e) else
    match r with
    | [] => .error 11
    | x :: r' => if x = 1 then .ok ([], r') else if x ≠ 255 then .error 12 else (match unesc r' with | .ok p => .ok (0 :: p.1, p.2) | .error e => .error e)
def beV : Nat → List UInt8 → Nat
  | u, [] => u
  | u, b :: r => beV (u * 256 + b.toNat) r
def zeroC : Cel := ⟨0, ⟨#[]⟩, 0⟩
def startOf (u : Nat) : Int := IntKind.wrap .i64 (IntKind.wrap .u64 ((u : Int) - 9223372036854775808))
def finC (v : UInt8) (key t : List UInt8) : Cel × Int :=
  if t.length < 8 then (zeroC, 11) else if t.length > 8 then (zeroC, 13) else
  if mayC ⟨(v.toNat : Int), ⟨key.toArray⟩, startOf (beV 0 t)⟩ ≠ 0 then (zeroC, mayC ⟨(v.toNat : Int), ⟨key.toArray⟩, startOf (beV 0 t)⟩) else (⟨(v.toNat : Int), ⟨key.toArray⟩, startOf (beV 0 t)⟩, 0)
def cellM : List UInt8 → Cel × Int
  | [] => (zeroC, 11)
  | v :: r => match unesc r with
    | .error e => (zeroC, e)
    | .ok p => finC v p.1 p.2
theorem unesc_ne {b : UInt8} {r : List UInt8} (h : b ≠ 0) : unesc (b :: r) = (match unesc r with | .ok p => .ok (b :: p.1, p.2) | .error e => .error e) := by
  rw [unesc.eq_def]; simp only [if_pos h]
theorem cellM_cons (v : UInt8) (r : List UInt8) : cellM (v :: r) = (match unesc r with | .error e => (zeroC, e) | .ok p => finC v p.1 p.2) := rfl
theorem or_byte {u : Nat} {b : UInt8} (hu : u < 72057594037927936) : bitsOf .or .u64 (IntKind.wrap .u64 ((u : Int) * (2 ^ (min (8 : Int).toNat (IntKind.bits .u64)) : Int))) (IntKind.wrap .u64 (b.toNat : Int)) = ((u * 256 + b.toNat : Nat) : Int) := by
  have hb : b.toNat < 256 := b.toNat_lt
  have e1 : IntKind.wrap .u64 ((u : Int) * (2 ^ (min (8 : Int).toNat (IntKind.bits .u64)) : Int)) = ((u * 256 : Nat) : Int) := by
    rw [show (2 ^ (min (8 : Int).toNat (IntKind.bits .u64)) : Int) = 256 from by simp [IntKind.bits], wrap_u64]; omega
  have e2 : IntKind.wrap .u64 (b.toNat : Int) = ((b.toNat : Nat) : Int) := by rw [wrap_u64]; omega
  rw [e1, e2]
  simp only [bitsOf]
  rw [BitVec.ofInt_natCast, BitVec.ofInt_natCast, BitVec.toNat_or, BitVec.toNat_ofNat, BitVec.toNat_ofNat, wrap_u64]
  have e3 : u * 256 % 2 ^ (IntKind.bits .u64) = u * 256 := Nat.mod_eq_of_lt (by simp [IntKind.bits]; omega)
  have e4 : b.toNat % 2 ^ (IntKind.bits .u64) = b.toNat := Nat.mod_eq_of_lt (by simp [IntKind.bits]; omega)
  rw [e3, e4]
  have e5 : u * 256 ||| b.toNat = u * 256 + b.toNat := by
    have := Nat.two_pow_add_eq_or_of_lt (i := 8) hb u
    rw [show (2 : Nat) ^ 8 * u = u * 256 from by omega] at this
    exact this.symm
  rw [e5]; omega
theorem st_cell {h : H} {n : Nat} {c d : Cel} {K : H → Prop} (b : Blk h n c.cells.toArray 34) (k : ∀ h', Blk h' n d.cells.toArray 34 → Only (· = n) h h' → h'.size = h.size → K h') : stH h ⟨n, 0, none⟩ d.cells K :=
  stH_of b (by simp [S_api_Cell.cells]) fun h' q1 q2 q3 => k h' (by rw [writeA_all (by simp [S_api_Cell.cells])] at q1; exact q1) q2 q3
theorem st_key {h : H} {n : Nat} {c : Cel} {s : ByteArray} {K : H → Prop} (b : Blk h n c.cells.toArray 34) (k : ∀ h', Blk h' n (⟨c.View, s, c.Start⟩ : Cel).cells.toArray 34 → Only (· = n) h h' → h'.size = h.size → K h') : stH h ⟨n, 1, none⟩ [.string s] K :=
  stH_of b (by simp [S_api_Cell.cells]) fun h' q1 q2 q3 => k h' (by
    have : writeA (S_api_Cell.cells c).toArray 1 [.string s] = (⟨c.View, s, c.Start⟩ : Cel).cells.toArray := by simp [writeA, S_api_Cell.cells]
    rw [this] at q1; exact q1) q2 q3
theorem st_start {h : H} {n : Nat} {c : Cel} {u : Int} {K : H → Prop} (b : Blk h n c.cells.toArray 34) (k : ∀ h', Blk h' n (⟨c.View, c.Key, u⟩ : Cel).cells.toArray 34 → Only (· = n) h h' → h'.size = h.size → K h') : stH h ⟨n, 2, none⟩ [.int .i64 u] K :=
  stH_of b (by simp [S_api_Cell.cells]) fun h' q1 q2 q3 => k h' (by
    have : writeA (S_api_Cell.cells c).toArray 2 [.int .i64 u] = (⟨c.View, c.Key, u⟩ : Cel).cells.toArray := by simp [writeA, S_api_Cell.cells]
    rw [this] at q1; exact q1) q2 q3
/-- An error is told. -/
theorem told_err {h0 h : H} {n : Nat} {c : Cel} {e : Int} {Q : Cel → Int → H → Prop} (k : ∀ h', Ext h0 h' → Q zeroC e h') (e0 : Ext h0 h) (hn : h0.size ≤ n) (b : Blk h n c.cells.toArray 34) :
    stH h ⟨n, 0, none⟩ ((⟨0, (⟨#[]⟩ : ByteArray), 0⟩ : S_api_Cell).cells) fun h13 => ld_S_api_Cell h13 ⟨n, 0, none⟩ fun y14 => Q y14 e h13 :=
  st_cell b fun h' q1 q2 q3 => ⟨zeroC, q1.cells3, k h' (e0.step q2 fun m hm e => by omega)⟩
theorem cell_tail {h0 : H} {str : ByteArray} {n2 n4 : Nat} {Q : Cel → Int → H → Prop} {v : UInt8} {key : List UInt8} (hs : str.size < 1000000000000000000) (hn2 : h0.size ≤ n2) (hn4 : h0.size ≤ n4) (hne : n2 ≠ n4) {U : Nat}
    (k : ∀ h', Ext h0 h' → Q (if mayC ⟨(v.toNat : Int), ⟨key.toArray⟩, startOf U⟩ ≠ 0 then (zeroC, mayC ⟨(v.toNat : Int), ⟨key.toArray⟩, startOf U⟩) else (⟨(v.toNat : Int), ⟨key.toArray⟩, startOf U⟩, 0)).1 (if mayC ⟨(v.toNat : Int), ⟨key.toArray⟩, startOf U⟩ ≠ 0 then (zeroC, mayC ⟨(v.toNat : Int), ⟨key.toArray⟩, startOf U⟩) else ((⟨(v.toNat : Int), ⟨key.toArray⟩, startOf U⟩ : Cel), 0)).2 h') :
    ∀ (m i u : Nat) (h : H) (s : Sl) (c2 : Cel), Ext h0 h → i ≤ str.size → str.size ≤ i + 8 → u < 256 ^ (i + 8 - str.size) → beV u (str.data.toList.drop i) = U → str.size - i < m → Blk h n2 c2.cells.toArray 34 → Blk h n4 (⟨(v.toNat : Int), ⟨#[]⟩, 0⟩ : Cel).cells.toArray 34 → Reads h s 1 (key.flatMap cU) →
    F.merge_Cell.l2 Q m str ⟨n2, 0, none⟩ ⟨n4, 0, none⟩ (i : Int) s (u : Int) h
  | 0, i, u, h, s, c2, _, _, _, _, _, hm, _, _, _ => by omega
  | m + 1, i, u, h, s, c2, e0, hi, hi8, hu, hU, hm, b2, b4, rd => by
    unfold F.merge_Cell.l2
    simp only [decide_eq_true_eq, decide_eq_false_iff_not]
    refine ⟨fun g => ⟨by omega, ?_⟩, fun g => ?_⟩
    · obtain ⟨b, hb⟩ : ∃ b, str.data.toList[i]? = some b := ⟨_, List.getElem?_eq_getElem (by rw [← size_data]; omega)⟩
      refine idxS_of hb rfl ?_
      have hd : str.data.toList.drop i = b :: str.data.toList.drop (i + 1) := by
        obtain ⟨hh, rfl⟩ := List.getElem?_eq_some_iff.1 hb
        exact List.drop_eq_getElem_cons hh
      rw [hd, beV] at hU
      have hp : 256 ^ (i + 8 - str.size) ≤ 256 ^ 7 := Nat.pow_le_pow_right (by omega) (by omega)
      rw [or_byte (by have : (256 : Nat) ^ 7 = 72057594037927936 := by decide
                      omega), show IntKind.wrap .i64 ((i : Int) + 1) = ((i + 1 : Nat) : Int) from by rw [w64 (by omega) (by omega)]; omega]
      have hbl := b.toNat_lt
      refine cell_tail hs hn2 hn4 hne k m (i + 1) _ h s c2 e0 (by omega) (by omega) ?_ hU (by omega) b2 b4 rd
      rw [show i + 1 + 8 - str.size = (i + 8 - str.size) + 1 from by omega, Nat.pow_succ]
      have : (u + 1) * 256 ≤ 256 ^ (i + 8 - str.size) * 256 := Nat.mul_le_mul_right _ hu
      omega
    · have hii : i = str.size := by omega
      subst hii
      have hd : str.data.toList.drop str.size = [] := List.drop_eq_nil_of_le (by rw [← size_data]; omega)
      rw [hd, beV] at hU
      subst hU
      refine cvtT_of (l := key) Try.underlying47 Try.underlying5 Try.underlying9 rd ?_
      simp only [add_lit, Nat.zero_add]
      refine st_key b4 fun h1 p1 p2 p3 => st_start p1 fun h2 p4 p5 p6 => ?_
      have e2 : Ext h0 h2 := (e0.step p2 fun m hm e => by omega).step p5 fun m hm e => by omega
      have b22 : Blk h2 n2 c2.cells.toArray 34 := p5.block (p2.block b2 hne) hne
      refine ⟨_, p4.cells3, mayC_spec fun h3 f1 => ?_⟩
      have b23 : Blk h3 n2 c2.cells.toArray 34 := f1.block b22 (fun f => f)
      have e3 := e2.trans f1
      refine ⟨fun g2 => ?_, fun g2 => ?_⟩
      · have g2 : mayC ⟨(v.toNat : Int), ⟨key.toArray⟩, startOf u⟩ ≠ 0 := by simpa [startOf] using g2
        simp only [if_pos g2] at k
        exact told_err k e3 hn2 b23
      · have g2 : ¬ mayC ⟨(v.toNat : Int), ⟨key.toArray⟩, startOf u⟩ ≠ 0 := by simpa [startOf] using g2
        simp only [if_neg g2] at k
        refine ⟨_, Blk.cells3 (c := ⟨(v.toNat : Int), ⟨key.toArray⟩, startOf u⟩) (f1.block p4 (fun f => f)), ?_⟩
        exact st_cell b23 fun h4 q1 q2 q3 => ⟨_, q1.cells3, k h4 (e3.step q2 fun m hm e => by omega)⟩
theorem cell_loop {h0 : H} {str : ByteArray} {n2 n4 : Nat} {Q : Cel → Int → H → Prop} {v : UInt8} (hs : str.size < 140737488355328) (hn2 : h0.size ≤ n2) (hn4 : h0.size ≤ n4) (hne : n2 ≠ n4) :
    ∀ (m i : Nat) (h : H) (s : Sl) (acc : List UInt8), (∀ h', Ext h0 h' → Q (match unesc (str.data.toList.drop i) with | .error e => (zeroC, e) | .ok p => finC v (acc ++ p.1) p.2).1 (match unesc (str.data.toList.drop i) with | .error e => (zeroC, e) | .ok p => finC v (acc ++ p.1) p.2).2 h') →
    Ext h0 h → i ≤ str.size → acc.length ≤ i → str.size - i < m → Blk h n2 zeroC.cells.toArray 34 → Blk h n4 (⟨(v.toNat : Int), ⟨#[]⟩, 0⟩ : Cel).cells.toArray 34 → Owns h s 5 1 (acc.flatMap cU) → Mine h0 s → s.blk ≠ some n2 → s.blk ≠ some n4 → n2 < h.size → n4 < h.size →
    F.merge_Cell.l1 Q m str ⟨n2, 0, none⟩ ⟨n4, 0, none⟩ (i : Int) s h
  | 0, i, h, s, acc, _, _, _, _, hm, _, _, _, _, _, _, _, _ => by omega
  | m + 1, i, h, s, acc, k, e0, hi, hacc, hm, b2, b4, ow, mi, hne2, hne4, hl2, hl4 => by
    unfold F.merge_Cell.l1
    rw [beq_iff_eq, beq_eq_false_iff_ne]
    refine ⟨fun g => ?_, fun g => ?_⟩
    · have hd : str.data.toList.drop i = [] := List.drop_eq_nil_of_le (by rw [← size_data]; omega)
      rw [hd] at k
      exact told_err k e0 hn2 b2
    · obtain ⟨b, hb⟩ : ∃ b, str.data.toList[i]? = some b := ⟨_, List.getElem?_eq_getElem (by rw [← size_data]; omega)⟩
      have hd : str.data.toList.drop i = b :: str.data.toList.drop (i + 1) := by
        obtain ⟨hh, rfl⟩ := List.getElem?_eq_some_iff.1 hb
        exact List.drop_eq_getElem_cons hh
      have hb0 : (b.toNat : Int) = 0 ↔ b = 0 := by
        constructor
        · intro h; exact UInt8.toNat_inj.1 (by simpa using (by omega : b.toNat = 0))
        · intro h; subst h; rfl
      rw [hd] at k
      refine idxS_of hb rfl ?_
      rw [bne_iff_ne, bne_eq_false_iff_eq, Ne, hb0]
      refine ⟨fun g1 => idxS_of hb rfl ?_, fun g1 => ?_⟩
      · refine push_mine (f := cU) b e0 mi cU_len (by omega) elU ow cU_one (by omega) fun r h1 q1 q2 q3 q4 q5 => ?_
        have hrr : ∀ x, x < h.size → s.blk ≠ some x → r.blk ≠ some x := fun x hx hsx => by
          rcases q5 with q5 | ⟨y, q5, q6⟩
          · rw [q5]; exact hsx
          · rw [q5]; intro e; cases e; omega
        rw [show IntKind.wrap .i64 ((i : Int) + 1) = ((i + 1 : Nat) : Int) from by rw [w64 (by omega) (by omega)]; omega]
        refine cell_loop hs hn2 hn4 hne m (i + 1) h1 r (acc ++ [b]) (fun h' e => ?_) q2 (by omega) (by simp; omega) (by omega) (q4.block b2 hne2) (q4.block b4 hne4) q1 q3 (hrr n2 hl2 hne2) (hrr n4 hl4 hne4) (by have := q4.size; omega) (by have := q4.size; omega)
        have k := k h' e
        rw [unesc_ne g1] at k
        cases hu : unesc (str.data.toList.drop (i + 1)) with
        | error x => rw [hu] at k; exact k
        | ok p => rw [hu] at k; simpa using k
      · have g1 : b = 0 := Classical.not_not.1 (by simpa using g1)
        subst g1
        rw [w64 (n := (i : Int) + 1) (by omega) (by omega), w64 (n := (i : Int) + 2) (by omega) (by omega), beq_iff_eq, beq_eq_false_iff_ne]
        refine ⟨fun g2 => ?_, fun g2 => ?_⟩
        · have hd1 : str.data.toList.drop (i + 1) = [] := List.drop_eq_nil_of_le (by rw [← size_data]; omega)
          rw [hd1] at k
          exact told_err k e0 hn2 b2
        · obtain ⟨x, hx⟩ : ∃ b, str.data.toList[i + 1]? = some b := ⟨_, List.getElem?_eq_getElem (by rw [← size_data]; omega)⟩
          have hd1 : str.data.toList.drop (i + 1) = x :: str.data.toList.drop (i + 2) := by
            obtain ⟨hh, rfl⟩ := List.getElem?_eq_some_iff.1 hx
            exact List.drop_eq_getElem_cons hh
          have hx1 : (x.toNat : Int) = 1 ↔ x = 1 := by
            constructor
            · intro h; exact UInt8.toNat_inj.1 (by simpa using (by omega : x.toNat = 1))
            · intro h; subst h; rfl
          have hx2 : (x.toNat : Int) = 255 ↔ x = 255 := by
            constructor
            · intro h; exact UInt8.toNat_inj.1 (by simpa using (by omega : x.toNat = 255))
            · intro h; subst h; rfl
          rw [hd1] at k
          have hun : unesc (0 :: x :: str.data.toList.drop (i + 2)) = if x = 1 then .ok ([], str.data.toList.drop (i + 2)) else if x ≠ 255 then .error 12 else (match unesc (str.data.toList.drop (i + 2)) with | .ok p => .ok (0 :: p.1, p.2) | .error e => .error e) := by
            rw [unesc]; simp
          rw [hun] at k
          have hlen : (str.data.toList.drop (i + 2)).length = str.size - (i + 2) := by rw [List.length_drop, ← size_data]
          refine idxS_of hx (by rw [w64 (by omega) (by omega)]; omega) ?_
          rw [beq_iff_eq, beq_eq_false_iff_ne, Ne, hx1]
          refine ⟨fun g3 => ?_, fun g3 => ?_⟩
          · rw [if_pos g3] at k
            simp only [List.append_nil] at k
            unfold finC at k
            rw [hlen] at k
            rw [w64 (by omega) (by omega)]
            simp only [decide_eq_true_eq, decide_eq_false_iff_not]
            refine ⟨fun g4 => ?_, fun g4 => ⟨fun g5 => ?_, fun g5 => ⟨str.size + 1, ?_⟩⟩⟩
            · rw [if_pos (by omega)] at k; exact told_err k e0 hn2 b2
            · rw [if_neg (by omega), if_pos (by omega)] at k; exact told_err k e0 hn2 b2
            · rw [if_neg (by omega), if_neg (by omega)] at k
              rw [show (i : Int) + 2 = ((i + 2 : Nat) : Int) from by omega]
              exact cell_tail (by omega) hn2 hn4 hne k (str.size + 1) (i + 2) 0 h s zeroC e0 (by omega) (by omega) (Nat.pos_of_ne_zero (by exact Nat.pos_iff_ne_zero.1 (Nat.pow_pos (by omega)))) rfl (by omega) b2 b4 ow.reads
          · rw [if_neg g3] at k
            refine idxS_of hx (by rw [w64 (by omega) (by omega)]; omega) ?_
            rw [bne_iff_ne, bne_eq_false_iff_eq, Ne, hx2]
            refine ⟨fun g4 => ?_, fun g4 => ?_⟩
            · rw [if_pos g4] at k; exact told_err k e0 hn2 b2
            · have g4 : x = 255 := Classical.not_not.1 (by simpa using g4)
              rw [if_neg (by simpa using g4)] at k
              refine push_mine (f := cU) 0 e0 mi cU_len (by omega) elU ow cU_one (by omega) fun r h1 q1 q2 q3 q4 q5 => ?_
              have hrr : ∀ x, x < h.size → s.blk ≠ some x → r.blk ≠ some x := fun x hx hsx => by
                rcases q5 with q5 | ⟨y, q5, q6⟩
                · rw [q5]; exact hsx
                · rw [q5]; intro e; cases e; omega
              rw [show (i : Int) + 2 = ((i + 2 : Nat) : Int) from by omega]
              refine cell_loop hs hn2 hn4 hne m (i + 2) h1 r (acc ++ [0]) (fun h' e => ?_) q2 (by omega) (by simp; omega) (by omega) (q4.block b2 hne2) (q4.block b4 hne4) q1 q3 (hrr n2 hl2 hne2) (hrr n4 hl4 hne4) (by have := q4.size; omega) (by have := q4.size; omega)
              have k := k h' e
              cases hu : unesc (str.data.toList.drop (i + 2)) with
              | error x => rw [hu] at k; exact k
              | ok p => rw [hu] at k; simpa using k
theorem Cell_spec {h : H} {str : ByteArray} {Q : Cel → Int → H → Prop} (hs : str.size < 140737488355328) (k : ∀ h', Ext h h' → Q (cellM str.data.toList).1 (cellM str.data.toList).2 h') : F.merge_Cell str h Q := by
  unfold F.merge_Cell
  refine new_of fun n h1 e1 e2 e3 e4 => ?_
  have hs1 := e3.size
  rw [beq_iff_eq, beq_eq_false_iff_ne, toList_data, toList_data]
  refine ⟨fun g => ?_, fun g => ?_⟩
  · have g : str.data.toList = [] := g
    rw [g] at k
    exact told_err k e3 (by omega) (c := zeroC) e2
  · obtain ⟨v, r, hv⟩ : ∃ v r, str.data.toList = v :: r := by
      cases hh : str.data.toList with
      | nil => exact absurd hh g
      | cons v r => exact ⟨v, r, rfl⟩
    have hsz : 0 < str.size := by rw [size_data, hv]; simp
    refine idxS_of (i := 0) (b := v) (by rw [hv]; rfl) rfl ?_
    refine new_of fun n4 h2 f1 f2 f3 f4 => ?_
    have hs2 := f3.size
    refine st_cell (c := zeroC) (d := ⟨IntKind.wrap .i64 (v.toNat : Int), ⟨#[]⟩, 0⟩) f2 fun h3 q1 q2 q3 => ?_
    have hbl := v.toNat_lt
    rw [w64 (by omega) (by omega)] at q1
    refine ⟨str.size + 1, ?_⟩
    refine cell_loop (v := v) hs (n2 := n) (n4 := n4) (h0 := h) (by omega) (by omega) (by omega) _ 1 h3 _ [] (fun h' e => ?_) ((e3.trans f3).step q2 fun m hm e => by omega) (by omega) (by simp) (by omega) (q2.block (f3.block e2 (fun f => f)) (by omega)) q1 (Owns.nil _ _ _) (Mine.nil _ _ _) (by simp [Sl.blk]) (by simp [Sl.blk]) (by omega) (by omega)
    have k := k h' e
    rw [hv, cellM_cons] at k
    rw [show str.data.toList.drop 1 = r from by rw [hv]; rfl]
    cases hu : unesc r with
    | error x => rw [hu] at k; exact k
    | ok p => rw [hu] at k; simpa using k
end Go.Proofs.Ytidpbnbjpglhfaa.V
namespace Go.Proofs.Ytidpbnbjpglhfaa.V
open Go
set_option linter.unusedVariables false
set_option linter.unusedSimpArgs false
section
variable {α : Type} [DecidableEq α]
def addM (out : List α) (x : α) : List α := if out.getLast? = some x then out else out ++ [x]
def twoM (le : α → α → Bool) : Nat → List α → List α → List α → List α
  | 0, out, _, _ => out
  | n + 1, out, [], [] => out
  | n + 1, out, x :: a, [] => twoM le n (addM out x) a []
  | n + 1, out, [], y :: b => twoM le n (addM out y) [] b
  | n + 1, out, x :: a, y :: b => if le x y then twoM le n (addM out x) a (y :: b) else twoM le n (addM out y) (x :: a) b
def listsM (le : α → α → Bool) : Nat → List (List α) → List α
  | 0, _ => []
  | n + 1, [] => []
  | n + 1, [a] => twoM le a.length [] a []
  | n + 1, a :: b :: r => let l := listsM le n ((a :: b :: r).take ((a :: b :: r).length / 2)); let k := listsM le n ((a :: b :: r).drop ((a :: b :: r).length / 2)); twoM le (l.length + k.length) [] l k
theorem listsM_fuel (le : α → α → Bool) : ∀ (n m : Nat) (LL : List (List α)), LL.length < n → LL.length < m → listsM le n LL = listsM le m LL
  | 0, m, LL, hn, _ => by omega
  | n, 0, LL, _, hm => by omega
  | n + 1, m + 1, [], _, _ => rfl
  | n + 1, m + 1, [a], _, _ => rfl
  | n + 1, m + 1, a :: b :: r, hn, hm => by
    simp only [List.length_cons] at hn hm
    have h1 := listsM_fuel le n m ((a :: b :: r).take ((a :: b :: r).length / 2)) (by simp; omega) (by simp; omega)
    have h2 := listsM_fuel le n m ((a :: b :: r).drop ((a :: b :: r).length / 2)) (by simp; omega) (by simp; omega)
    simp only [listsM, h1, h2]
theorem addM_len (out : List α) (x : α) : (addM out x).length ≤ out.length + 1 := by unfold addM; split <;> simp
theorem twoM_len (le : α → α → Bool) : ∀ (n : Nat) (out a b : List α), (twoM le n out a b).length ≤ out.length + n
  | 0, out, _, _ => by simp [twoM]
  | n + 1, out, [], [] => by simp [twoM]
  | n + 1, out, x :: a, [] => by have := twoM_len le n (addM out x) a []; have := addM_len out x; simp only [twoM]; omega
  | n + 1, out, [], y :: b => by have := twoM_len le n (addM out y) [] b; have := addM_len out y; simp only [twoM]; omega
  | n + 1, out, x :: a, y :: b => by
    have := twoM_len le n (addM out x) a (y :: b); have := addM_len out x
    have := twoM_len le n (addM out y) (x :: a) b; have := addM_len out y
    simp only [twoM]; split <;> omega
end
abbrev cS (s : Sl) : List Value := [s.enc]
theorem cS_len (s : Sl) : (cS s).length = 1 := rfl
abbrev leI (x y : Int) : Bool := decide (x ≤ y)
theorem elI : El PP 23 3 1 8 (.int .i64 0) := ⟨Try.underlying23, ⟨Try.t3, by kernel_rfl, by kernel_rfl, by kernel_rfl, by kernel_rfl⟩, rfl, by omega, by omega⟩
theorem drop1 {β : Type} (x : β) (r : List β) : ((x :: r).drop 1).take ((x :: r).length - 1) = r := by simp
/-- A slice that reads asL a list, and is asL long asL it may be cut. -/
def Lst {α : Type} (h : H) (s : Sl) (f : α → List Value) (A : List α) : Prop := Reads h s 1 (A.flatMap f) ∧ s.len ≤ s.cap
theorem Lst.ext {α : Type} {h h' : H} {s : Sl} {f : α → List Value} {A : List α} (l : Lst h s f A) (e : Ext h h') : Lst h' s f A := ⟨l.1.ext e, l.2⟩
theorem Lst.only {α : Type} {S : Nat → Prop} {h h' : H} {s : Sl} {f : α → List Value} {A : List α} (l : Lst h s f A) (e : Only S h h') (hn : ∀ b, s.blk = some b → ¬ S b) : Lst h' s f A := ⟨l.1.only e hn, l.2⟩
theorem Lst.len {α : Type} {h : H} {s : Sl} {f : α → List Value} {A : List α} (hf : ∀ x, (f x).length = 1) (l : Lst h s f A) : s.len = A.length := rd_len hf (by omega) l.1
/-- The first thing of a list, and the list behind it. -/
theorem Lst.head {α : Type} {h : H} {s : Sl} {f : α → List Value} {x : α} {r : List α} {K : Addr → Prop} (hf : ∀ x, (f x).length = 1) (l : Lst h s f (x :: r)) (k : ∀ a, Cells h a (f x) → K a) : idxA s 0 1 K := by
  obtain ⟨p, q1, q2, q3⟩ := rd_at hf (by omega) l.1 (i := 0) (x := x) rfl
  refine idxR_of (i := 0) q1 (by rw [l.len hf]; simp) rfl (k _ ?_)
  simpa using q3
theorem Lst.tail {α : Type} {h : H} {s : Sl} {f : α → List Value} {x : α} {r : List α} {K : Sl → Prop} (hf : ∀ x, (f x).length = 1) (l : Lst h s f (x :: r)) (k : ∀ t, Lst h t f r → t.blk = s.blk → K t) : cutL s 1 (s.len : Int) 1 K := by
  have hl := l.len hf
  have hl' : s.len = r.length + 1 := by simpa using hl
  refine cutL_of (lo := 1) (hi := s.len) rfl rfl (by omega) l.2 (k _ ⟨?_, ?_⟩ slcut_blk)
  · have := cut_reads hf (by omega) l.1 (lo := 1) (hi := s.len) (by omega) (by omega) l.2
    rw [hl, drop1] at this
    rw [hl]; exact this
  · have := l.2; simp only [slcut]; omega
theorem Lst.get {α : Type} {h : H} {s : Sl} {f : α → List Value} {A : List α} {i : Nat} {x : α} {n : Int} {K : Addr → Prop} (hf : ∀ x, (f x).length = 1) (l : Lst h s f A) (hx : A[i]? = some x) (hn : n = (i : Int)) (k : ∀ a, Cells h a (f x) → K a) : idxA s n 1 K := by
  obtain ⟨p, q1, q2, q3⟩ := rd_at hf (by omega) l.1 hx
  have := (List.getElem?_eq_some_iff.1 hx).1
  exact idxR_of (i := i) q1 (by rw [l.len hf]; omega) hn (k _ q3)
theorem Owns.lst {α : Type} {h : H} {s : Sl} {e : TypeId} {f : α → List Value} {A : List α} (o : Owns h s e 1 (A.flatMap f)) : Lst h s f A := ⟨o.reads, o.le_cap⟩
theorem two_int_loop {h0 : H} {Q : Sl → H → Prop} : ∀ (n m : Nat) (h : H) (s t u : Sl) (A B out : List Int), (∀ r h', Owns h' r 3 1 ((twoM leI n out A B).flatMap cI) → Ext h0 h' → Mine h0 r → Q r h') →
    Ext h0 h → Lst h s cI A → Lst h t cI B → Owns h u 3 1 (out.flatMap cI) → Mine h0 u → (∀ b, s.blk = some b → b < h0.size) → (∀ b, t.blk = some b → b < h0.size) → A.length + B.length ≤ n → out.length + n < 1000000000000 → n < m →
    F.merge_two_int.l1 Q m s t u h
  | n, 0, h, s, t, u, A, B, out, _, _, _, _, _, _, _, _, _, _, hm => by omega
  | n, m + 1, h, s, t, u, A, B, out, k, e0, ls, lt, ou, mu, hs, ht, hn, ho, hm => by
    have hsl := ls.len cI_len
    have htl := lt.len cI_len
    have hul := own_len cI_len (by omega) ou
    -- one thing is laid
    have hadd : ∀ (n' : Nat) (x : Int) (s' t' : Sl) (A' B' : List Int), n = n' + 1 → twoM leI n out A B = twoM leI n' (addM out x) A' B' → Lst h s' cI A' → Lst h t' cI B' → s'.blk = s.blk → t'.blk = t.blk → A'.length + B'.length ≤ n' → F.merge_two_int.j3 Q (F.merge_two_int.l1 Q m) s' t' u x h := by
      intro n' x s' t' A' B' hn' htw ls' lt' hsb htb hl'
      subst hn'
      rw [htw] at k
      have hlay : out.getLast? ≠ some x → newL h #[.int .i64 x] ty_3 1 fun s3 h2 => runL PP (Builtin.append_ #[23, 23] 23 #[u.enc, s3.enc]) h2 fun s5 h4 => (F.merge_two_int.l1 Q m) s' t' s5 h4 := fun hne => by
        refine push_mine (f := cI) x e0 mu cI_len (by omega) elI ou (fun x => one1 rfl) (by omega) fun r h1 q1 q2 q3 q4 q5 => ?_
        have hadd : addM out x = out ++ [x] := by unfold addM; rw [if_neg hne]
        have al := addM_len out x
        refine two_int_loop n' m h1 s' t' r A' B' (addM out x) k q2 (ls'.only q4 fun b hb e => by have := hs b (by rw [← hsb]; exact hb); have := mu b e; omega) (lt'.only q4 fun b hb e => by have := ht b (by rw [← htb]; exact hb); have := mu b e; omega) (by rw [hadd]; exact q1) q3 (by rw [hsb]; exact hs) (by rw [htb]; exact ht) hl' (by omega) (by omega)
      have hskip : out.getLast? = some x → (F.merge_two_int.l1 Q m) s' t' u h := fun he => by
        have hadd : addM out x = out := by unfold addM; rw [if_pos he]
        rw [hadd] at k
        exact two_int_loop n' m h s' t' u A' B' out k e0 ls' lt' ou mu (by rw [hsb]; exact hs) (by rw [htb]; exact ht) hl' (by omega) (by omega)
      unfold F.merge_two_int.j3 F.merge_two_int.j4
      rw [hul, beq_iff_eq, beq_eq_false_iff_ne]
      refine ⟨fun g => ⟨fun _ => hlay fun he => ?_, fun h => by cases h⟩, fun g => ?_⟩
      · have : out = [] := List.eq_nil_of_length_eq_zero (by omega)
        subst this; simp at he
      · have hne : out ≠ [] := fun e => by subst e; simp at g
        have hpos : 0 < out.length := List.length_pos_iff.2 hne
        obtain ⟨b, a1, a2⟩ := own_at cI_len (by omega) ou (i := out.length - 1) (x := out.getLast hne) (by rw [← List.getLast?_eq_getElem?, List.getLast?_eq_some_getLast hne])
        refine idxA_of (i := out.length - 1) a1 (by omega) (by rw [w64 (by omega) (by omega)]; omega) ?_
        rw [ldI_iff a2.one]
        have hlast := List.getLast?_eq_some_getLast hne
        rw [bne_iff_ne, bne_eq_false_iff_eq]
        refine ⟨fun g2 => hlay fun he => ?_, fun g2 => hskip ?_⟩
        · rw [hlast] at he; simp at he; simp [he] at g2
        · rw [hlast]; simpa using g2
    have htake1 : ∀ x r, A = x :: r → (∀ y r', B = y :: r' → leI x y = true) → F.merge_two_int.j5 Q (F.merge_two_int.l1 Q m) s t u true h := fun x r hA hB => by
      subst hA
      unfold F.merge_two_int.j5
      refine ⟨fun _ => ls.head cI_len fun a ha => ?_, fun h => by cases h⟩
      rw [ldI_iff ha.one]
      refine ls.tail cI_len fun s' ls' hb => ?_
      simp only [List.length_cons] at hn
      obtain ⟨n', rfl⟩ : ∃ n', n = n' + 1 := ⟨n - 1, by omega⟩
      refine hadd n' x s' t r B rfl ?_ ls' lt hb rfl (by omega)
      cases B with
      | nil => rfl
      | cons y r' => simp only [twoM]; rw [if_pos (hB y r' rfl)]
    have htake2 : ∀ y r, B = y :: r → (∀ x r', A = x :: r' → leI x y = false) → F.merge_two_int.j5 Q (F.merge_two_int.l1 Q m) s t u false h := fun y r hB hA => by
      subst hB
      unfold F.merge_two_int.j5
      refine ⟨(fun h => by cases h), fun _ => lt.head cI_len fun a ha => ?_⟩
      rw [ldI_iff ha.one]
      refine lt.tail cI_len fun t' lt' hb => ?_
      simp only [List.length_cons] at hn
      obtain ⟨n', rfl⟩ : ∃ n', n = n' + 1 := ⟨n - 1, by omega⟩
      refine hadd n' y s t' A r rfl ?_ ls lt' rfl hb (by omega)
      cases A with
      | nil => rfl
      | cons x r' => simp only [twoM]; rw [if_neg (by rw [hA x r' rfl]; simp)]
    unfold F.merge_two_int.l1 F.merge_two_int.j6 F.merge_two_int.j2
    rw [hsl, htl, beq_iff_eq, beq_eq_false_iff_ne]
    simp only [decide_eq_true_eq, decide_eq_false_iff_not]
    cases A with
    | nil =>
      refine ⟨fun g => by simp at g, fun _ => ⟨fun g => ⟨fun g2 => by omega, fun _ => ⟨fun g => by simp at g, fun _ => ?_⟩⟩, fun g => ?_⟩⟩
      · cases B with
        | nil => simp at g
        | cons y r => exact htake2 y r rfl fun x r' h => by cases h
      · have : B = [] := List.eq_nil_of_length_eq_zero (by omega)
        subst this
        have htw : twoM leI n out [] [] = out := by cases n <;> rfl
        rw [htw] at k
        exact k u h ou e0 mu
    | cons x r =>
      refine ⟨fun _ => ⟨fun _ => ⟨fun g => htake1 x r rfl fun y r' h => by subst h; exfalso; simp at g <;> omega, fun g => ⟨fun _ => ?_, fun g2 => by simp at g2 <;> omega⟩⟩, fun h => by cases h⟩, fun g => by simp at g <;> omega⟩
      cases B with
      | nil => simp at g
      | cons y r' =>
        refine ls.head cI_len fun a ha => ?_
        rw [ldI_iff ha.one]
        refine lt.head cI_len fun a hb => ?_
        rw [ldI_iff hb.one]
        show F.merge_two_int.j5 Q (F.merge_two_int.l1 Q m) s t u (leI x y) h
        cases hle : leI x y with
        | true => exact htake1 x r rfl fun y' r'' h => by cases h; exact hle
        | false => exact htake2 y r' rfl fun x' r'' h => by cases h; exact hle
theorem two_int_spec {h : H} {Q : Sl → H → Prop} {s t : Sl} {A B : List Int} (ls : Lst h s cI A) (lt : Lst h t cI B) (hlen : A.length + B.length < 100000000000) (hs : ∀ b, s.blk = some b → b < h.size) (ht : ∀ b, t.blk = some b → b < h.size)
    (k : ∀ r h', Owns h' r 3 1 ((twoM leI (A.length + B.length) [] A B).flatMap cI) → Ext h h' → Mine h r → Q r h') : F.merge_two_int s t h Q := by
  unfold F.merge_two_int
  exact ⟨_, two_int_loop _ _ h s t _ A B [] k (.refl _) ls lt (Owns.nil _ _ _) (Mine.nil _ _ _) hs ht (Nat.le_refl _) (by simp; omega) (Nat.lt_succ_self _)⟩
/-- Lists whose slices lie in a slice. -/
def Lsts_int (h : H) (SL : List Sl) (LL : List (List Int)) : Prop := SL.length = LL.length ∧ ∀ (i : Nat) (s : Sl) (A : List Int), SL[i]? = some s → LL[i]? = some A → Lst h s cI A ∧ ∀ b, s.blk = some b → b < h.size
theorem Lsts_int.ext {h h' : H} {SL : List Sl} {LL : List (List Int)} (l : Lsts_int h SL LL) (e : Ext h h') : Lsts_int h' SL LL := ⟨l.1, fun i s A h1 h2 => ⟨(l.2 i s A h1 h2).1.ext e, fun b hb => Nat.lt_of_lt_of_le ((l.2 i s A h1 h2).2 b hb) e.size⟩⟩
theorem Lsts_int.take {h : H} {SL : List Sl} {LL : List (List Int)} (l : Lsts_int h SL LL) (n : Nat) : Lsts_int h (SL.take n) (LL.take n) := ⟨by simp [l.1], fun i s A h1 h2 => by
  rw [List.getElem?_take] at h1 h2
  split at h1
  · rename_i hi; rw [if_pos hi] at h2; exact l.2 i s A h1 h2
  · cases h1⟩
theorem Lsts_int.drop {h : H} {SL : List Sl} {LL : List (List Int)} (l : Lsts_int h SL LL) (n : Nat) : Lsts_int h (SL.drop n) (LL.drop n) := ⟨by simp [l.1], fun i s A h1 h2 => by
  rw [List.getElem?_drop] at h1 h2
  exact l.2 _ s A h1 h2⟩
theorem listsM_int_len (le : Int → Int → Bool) : ∀ (n : Nat) (LL : List (List Int)), (listsM le n LL).length ≤ LL.flatten.length
  | 0, LL => by simp [listsM]
  | n + 1, [] => by simp [listsM]
  | n + 1, [a] => by have := twoM_len le a.length [] a []; simp only [listsM]; simp at this ⊢; omega
  | n + 1, a :: b :: r => by
    simp only [listsM]
    have h1 := listsM_int_len le n ((a :: b :: r).take ((a :: b :: r).length / 2))
    have h2 := listsM_int_len le n ((a :: b :: r).drop ((a :: b :: r).length / 2))
    have h3 := twoM_len le ((listsM le n ((a :: b :: r).take ((a :: b :: r).length / 2))).length + (listsM le n ((a :: b :: r).drop ((a :: b :: r).length / 2))).length) [] (listsM le n ((a :: b :: r).take ((a :: b :: r).length / 2))) (listsM le n ((a :: b :: r).drop ((a :: b :: r).length / 2)))
    have h4 : ((a :: b :: r).take ((a :: b :: r).length / 2)).flatten.length + ((a :: b :: r).drop ((a :: b :: r).length / 2)).flatten.length = (a :: b :: r).flatten.length := by
      rw [← List.length_append, ← List.flatten_append, List.take_append_drop]
    simp only [List.length_nil, Nat.zero_add] at h3
    exact Nat.le_trans h3 (by omega)
theorem Lists_int_fu : ∀ (m : Nat) (h : H) (p : Sl) (SL : List Sl) (LL : List (List Int)) (Q : Sl → H → Prop), Lst h p cS SL → Lsts_int h SL LL → LL.flatten.length < 10000000000 → LL.length < 10000000000 → LL.length < m → (∀ b, p.blk = some b → b < h.size) →
    (∀ r h', Owns h' r 3 1 ((listsM leI (LL.length + 1) LL).flatMap cI) → Ext h h' → Mine h r → Q r h') → ∀ n, LL.length + 1 = n → F.merge_Lists_int.fu m p h Q
  | 0, h, p, SL, LL, Q, _, _, _, _, hm, _, _ => by omega
  | m + 1, h, p, SL, LL, Q, lp, ll, hf, hll, hm, hp, k => fun n hn => by
    subst hn
    have hpl := lp.len cS_len
    have hl := ll.1
    unfold F.merge_Lists_int.fu
    rw [hpl, hl, beq_iff_eq, beq_eq_false_iff_ne, beq_iff_eq, beq_eq_false_iff_ne]
    match LL, SL, hl with
    | [], [], _ => exact ⟨fun _ => k _ h (Owns.nil _ _ _) (.refl _) (Mine.nil _ _ _), fun g => by simp at g⟩
    | [A], [s], _ =>
      refine ⟨fun g => by simp at g, fun _ => ⟨fun _ => ?_, fun g => by simp at g⟩⟩
      obtain ⟨l1, l2⟩ := ll.2 0 s A rfl rfl
      refine lp.head cS_len fun a ha => ?_
      rw [ldL_iff ha.one]
      refine two_int_spec (B := []) l1 ⟨(Owns.nil h 3 1).reads, Nat.le_refl _⟩ (by simp at hf ⊢; omega) l2 (fun b hb => by simp [Sl.blk] at hb) fun r h' q1 q2 q3 => k r h' (by simpa [listsM] using q1) q2 q3
    | A :: B :: r, s :: t :: r', hl =>
      generalize hLL : A :: B :: r = LL at *
      generalize hSL : s :: t :: r' = SL at *
      have h2 : 2 ≤ LL.length := by rw [← hLL]; simp
      refine ⟨fun g => by omega, fun _ => ⟨fun g => by omega, fun _ => ⟨by omega, ?_⟩⟩⟩
      have hq : Int.tdiv (LL.length : Int) 2 = ((LL.length / 2 : Nat) : Int) := Int.ofNat_tdiv _ 2
      rw [hq, w64 (by omega) (by omega)]
      have hcap := lp.2
      refine cutL_of (lo := 0) (hi := LL.length / 2) rfl rfl (by omega) (by omega) ?_
      refine cutL_of (lo := LL.length / 2) (hi := LL.length) rfl rfl (by omega) (by omega) ?_
      have hsl : SL.length = LL.length := ll.1
      have c1 : Lst h (slcut p 0 (LL.length / 2) 1) cS (SL.take (LL.length / 2)) := ⟨by
        have := cut_reads cS_len (by omega) lp.1 (lo := 0) (hi := LL.length / 2) (by omega) (by omega) hcap
        simpa using this, by simp only [slcut]; omega⟩
      have c2 : Lst h (slcut p (LL.length / 2) LL.length 1) cS (SL.drop (LL.length / 2)) := ⟨by
        have := cut_reads cS_len (by omega) lp.1 (lo := LL.length / 2) (hi := LL.length) (by omega) (by omega) hcap
        rw [List.take_of_length_le (by simp; omega)] at this
        exact this, by simp only [slcut]; omega⟩
      have f1 : (LL.take (LL.length / 2)).flatten.length + (LL.drop (LL.length / 2)).flatten.length = LL.flatten.length := by rw [← List.length_append, ← List.flatten_append, List.take_append_drop]
      have t1 : (LL.take (LL.length / 2)).length = LL.length / 2 := by rw [List.length_take]; omega
      have t2 : (LL.drop (LL.length / 2)).length = LL.length - LL.length / 2 := by rw [List.length_drop]
      refine Lists_int_fu m h _ _ _ _ c1 (ll.take _) (by omega) (by omega) (by omega) (by rw [slcut_blk]; exact hp) (fun r1 h1 q1 q2 q3 => ?_) _ rfl
      refine Lists_int_fu m h1 _ _ _ _ (c2.ext q2) ((ll.drop _).ext q2) (by omega) (by omega) (by omega) (by rw [slcut_blk]; exact fun b hb => Nat.lt_of_lt_of_le (hp b hb) q2.size) (fun r2 h2' p1 p2 p3 => ?_) _ rfl
      have n1 := listsM_int_len leI ((LL.take (LL.length / 2)).length + 1) (LL.take (LL.length / 2))
      have n2 := listsM_int_len leI ((LL.drop (LL.length / 2)).length + 1) (LL.drop (LL.length / 2))
      refine two_int_spec (q1.ext p2).lst p1.lst (by omega) (fun b hb => (q1.ext p2).blk_lt hb) (fun b hb => p1.blk_lt hb) fun r3 h3 u1 u2 u3 => k r3 h3 ?_ ((q2.trans p2).trans u2) (u3.older (q2.trans p2))
      have e1 : listsM leI (LL.length + 1) LL = twoM leI ((listsM leI LL.length (LL.take (LL.length / 2))).length + (listsM leI LL.length (LL.drop (LL.length / 2))).length) [] (listsM leI LL.length (LL.take (LL.length / 2))) (listsM leI LL.length (LL.drop (LL.length / 2))) := by
        rw [← hLL]; rfl
      have e2 : listsM leI ((LL.take (LL.length / 2)).length + 1) (LL.take (LL.length / 2)) = listsM leI LL.length (LL.take (LL.length / 2)) := listsM_fuel _ _ _ _ (by omega) (by omega)
      have e3 : listsM leI ((LL.drop (LL.length / 2)).length + 1) (LL.drop (LL.length / 2)) = listsM leI LL.length (LL.drop (LL.length / 2)) := listsM_fuel _ _ _ _ (by omega) (by omega)
      rw [e1, ← e2, ← e3]
      exact u1
theorem Lists_int_spec {h : H} {p : Sl} {SL : List Sl} {LL : List (List Int)} {Q : Sl → H → Prop} (lp : Lst h p cS SL) (ll : Lsts_int h SL LL) (hf : LL.flatten.length < 10000000000) (hll : LL.length < 10000000000) (hp : ∀ b, p.blk = some b → b < h.size)
    (k : ∀ r h', Owns h' r 3 1 ((listsM leI (LL.length + 1) LL).flatMap cI) → Ext h h' → Mine h r → Q r h') : F.merge_Lists_int p h Q := ⟨LL.length + 1, Lists_int_fu _ h p SL LL Q lp ll hf hll (Nat.lt_succ_self _) hp k _ rfl⟩
end Go.Proofs.Ytidpbnbjpglhfaa.V
namespace Go.Proofs.Ytidpbnbjpglhfaa.V
open Go
set_option linter.unusedVariables false
set_option linter.unusedSimpArgs false
theorem known8_spec {h : H} {Q : Bool → H → Prop} (k : ∀ h', Ext h h' → Q true h') : F.spatelaw8_known h Q := by
  unfold F.spatelaw8_known
  have hm : mayC (⟨0, ⟨#[97]⟩, 0⟩ : Cel) = 0 := by decide
  refine Key_spec (fun g => absurd hm g) fun _ h1 e1 => ?_
  have hkey : keyL (⟨0, ⟨#[97]⟩, 0⟩ : Cel) = [0, 97, 0, 1, 128, 0, 0, 0, 0, 0, 0, 0] := by decide +kernel
  have hcel : cellM [0, 97, 0, 1, 128, 0, 0, 0, 0, 0, 0, 0] = (⟨0, ⟨#[97]⟩, 0⟩, 0) := by kernel_rfl
  refine Cell_spec (by decide) fun h2 e2 => ?_
  rw [show (⟨#[0, 97, 0, 1, 128, 0, 0, 0, 0, 0, 0, 0]⟩ : ByteArray).data.toList = [0, 97, 0, 1, 128, 0, 0, 0, 0, 0, 0, 0] from rfl, hcel, hkey]
  refine new_of fun n h3 a1 a2 a3 a4 => ?_
  refine st_cell (c := zeroC) a2 fun h4 b1 b2 b3 => ?_
  refine newL_of fun n5 h5 c1 c2 c3 c4 => ?_
  refine newL_of fun n6 h6 d1 d2 d3 d4 => ?_
  refine newL_of fun n7 h7 f1 f2 f3 f4 => ?_
  have x4 : Ext h h4 := ((e1.trans e2).trans a3).step b2 fun m hm e => by have := (e1.trans e2).size; omega
  have x7 : Ext h4 h7 := (c3.trans d3).trans f3
  have l1 : Lst h7 ⟨some ⟨n5, 0, none⟩, 3, 3⟩ cI [1, 3, 3] := ⟨(blk_reads (size := 1) (m := 3) (show Blk h5 n5 (([1, 3, 3] : List Int).flatMap cI).toArray 3 from c2) rfl).ext (d3.trans f3), Nat.le_refl _⟩
  have l2 : Lst h7 ⟨some ⟨n6, 0, none⟩, 2, 2⟩ cI [2, 3] := ⟨(blk_reads (size := 1) (m := 2) (show Blk h6 n6 (([2, 3] : List Int).flatMap cI).toArray 3 from d2) rfl).ext f3, Nat.le_refl _⟩
  have l3 : Lst h7 ⟨some ⟨n7, 0, none⟩, 2, 2⟩ cS [⟨some ⟨n5, 0, none⟩, 3, 3⟩, ⟨some ⟨n6, 0, none⟩, 2, 2⟩] := ⟨blk_reads (size := 1) (m := 2) (show Blk h7 n7 (([⟨some ⟨n5, 0, none⟩, 3, 3⟩, ⟨some ⟨n6, 0, none⟩, 2, 2⟩] : List Sl).flatMap cS).toArray 23 from f2) rfl, Nat.le_refl _⟩
  refine Lists_int_spec (LL := [[1, 3, 3], [2, 3]]) l3 ⟨rfl, fun i s A g1 g2 => ?_⟩ (by decide) (by decide) (fun b hb => by simp [Sl.blk] at hb; omega) fun r h8 q1 q2 q3 => ?_
  · match i, g1, g2 with
    | 0, g1, g2 => simp at g1 g2; subst g1; subst g2; exact ⟨l1, fun b hb => by simp [Sl.blk] at hb; omega⟩
    | 1, g1, g2 => simp at g1 g2; subst g1; subst g2; exact ⟨l2, fun b hb => by simp [Sl.blk] at hb; omega⟩
    | i + 2, g1, g2 => simp at g1
  · have hres : listsM leI (([[1, 3, 3], [2, 3]] : List (List Int)).length + 1) [[1, 3, 3], [2, 3]] = [1, 2, 3] := by decide +kernel
    rw [hres] at q1
    have lr := q1.lst
    have hrl := lr.len cI_len
    have bl8 : Blk h8 n (⟨0, ⟨#[97]⟩, 0⟩ : Cel).cells.toArray 34 := (x7.trans q2).block b1 (fun f => f)
    have hend := k h8 ((x4.trans x7).trans q2)
    refine ⟨fun _ => ⟨fun _ => ⟨fun _ => ⟨_, bl8.cells3, fun _ => ⟨fun _ => ?_, fun g => ?_⟩, fun g => ?_⟩, fun g => ?_⟩, fun g => by cases g⟩, fun g => by cases g⟩
    · refine lr.get cI_len (i := 0) (x := 1) rfl rfl fun a ha => ?_
      rw [ldI_iff ha.one]
      refine ⟨fun _ => ?_, fun g => by cases g⟩
      refine lr.get cI_len (i := 1) (x := 2) rfl rfl fun a ha => ?_
      rw [ldI_iff ha.one]
      refine ⟨fun _ => ?_, fun g => by cases g⟩
      refine lr.get cI_len (i := 2) (x := 3) rfl rfl fun a ha => ?_
      rw [ldI_iff ha.one]
      exact hend
    · rw [hrl] at g; cases g
    · exact absurd g (by decide +kernel)
    · exact absurd g (by decide +kernel)
end Go.Proofs.Ytidpbnbjpglhfaa.V
namespace Go.Proofs.Ytidpbnbjpglhfaa.V
open Go
set_option linter.unusedVariables false
set_option linter.unusedSimpArgs false
theorem i64_of {n : Int} (h : (Lit.int .i64 n).wf = true) : -9223372036854775808 ≤ n ∧ n < 9223372036854775808 := by
  simp [Lit.wf, IntKind.min, IntKind.max, IntKind.bits, IntKind.signed] at h
  omega
end Go.Proofs.Ytidpbnbjpglhfaa.V
namespace Go.Proofs.Ytidpbnbjpglhfaa.V
open Go
set_option linter.unusedVariables false
set_option linter.unusedSimpArgs false
theorem cmpB_eq : ∀ (a b : List UInt8), Lib.compareBytes a b = if a = b then 0 else if Op.bytesLess a b then -1 else 1
  | [], [] => rfl
  | [], _ :: _ => rfl
  | _ :: _, [] => rfl
  | a :: ra, b :: rb => by
    rw [Lib.compareBytes, cmpB_eq ra rb, Op.bytesLess]
    by_cases h1 : a < b
    · have : a ≠ b := fun e => by subst e; exact absurd h1 (by simp)
      simp [h1, this]
    · by_cases h2 : b < a
      · have : a ≠ b := fun e => by subst e; exact absurd h2 (by simp)
        simp [h1, h2, this]
      · have : a = b := UInt8.le_antisymm (UInt8.not_lt.1 h2) (UInt8.not_lt.1 h1)
        subst this
        simp
def cmpI (x y : Int) : Int := if x < y then -1 else if x > y then 1 else 0
def cmpC (a b : Cel) : Int := if cmpI a.View b.View ≠ 0 then cmpI a.View b.View else if cmpM a.Key b.Key ≠ 0 then cmpM a.Key b.Key else cmpI a.Start b.Start
theorem cmpInt_spec {x y : Int} {h : H} {Q : Int → H → Prop} (k : Q (cmpI x y) h) : F.cmp_Compare_int x y h Q := by
  unfold F.cmp_Compare_int F.cmp_isNaN_int
  unfold cmpI at k
  simp only [bne_self_eq_false, Bool.false_eq_true, false_implies, true_implies, true_and, decide_eq_true_eq, decide_eq_false_iff_not]
  by_cases h1 : x < y
  · simp only [h1, if_true] at k; exact ⟨fun _ => k, fun g => absurd h1 g⟩
  · simp only [h1, if_false] at k
    by_cases h2 : x > y
    · simp only [h2, if_true] at k; exact ⟨fun g => absurd g h1, fun _ => ⟨fun _ => k, fun g => absurd h2 g⟩⟩
    · simp only [h2, if_false] at k; exact ⟨fun g => absurd g h1, fun _ => ⟨fun g => absurd g h2, fun _ => k⟩⟩
theorem cmpInt64_spec {x y : Int} {h : H} {Q : Int → H → Prop} (k : Q (cmpI x y) h) : F.cmp_Compare_int64 x y h Q := by
  unfold F.cmp_Compare_int64 F.cmp_isNaN_int64
  unfold cmpI at k
  simp only [bne_self_eq_false, Bool.false_eq_true, false_implies, true_implies, true_and, decide_eq_true_eq, decide_eq_false_iff_not]
  by_cases h1 : x < y
  · simp only [h1, if_true] at k; exact ⟨fun _ => k, fun g => absurd h1 g⟩
  · simp only [h1, if_false] at k
    by_cases h2 : x > y
    · simp only [h2, if_true] at k; exact ⟨fun g => absurd g h1, fun _ => ⟨fun _ => k, fun g => absurd h2 g⟩⟩
    · simp only [h2, if_false] at k; exact ⟨fun g => absurd g h1, fun _ => ⟨fun g => absurd g h2, fun _ => k⟩⟩
theorem or3_spec {n : Nat} {a b c : Int} {h : H} {Q : Int → H → Prop} (bl : Blk h n #[.int .i64 a, .int .i64 b, .int .i64 c] 3) (k : Q (if a ≠ 0 then a else if b ≠ 0 then b else c) h) : F.cmp_Or_int ⟨some ⟨n, 0, none⟩, 3, 3⟩ h Q := by
  unfold F.cmp_Or_int
  refine ⟨4, ?_⟩
  have c0 : cellH h ⟨n, 0, none⟩ = some (.int .i64 a) := bl.cell rfl
  have c1 : cellH h ⟨n, 1, none⟩ = some (.int .i64 b) := bl.cell rfl
  have c2 : cellH h ⟨n, 2, none⟩ = some (.int .i64 c) := bl.cell rfl
  unfold F.cmp_Or_int.l1
  refine ⟨fun _ => ?_, fun g => by simp at g⟩
  refine idxA_of (i := 0) rfl (by simp) rfl ?_
  rw [Nat.zero_mul, ldI_iff c0, bne_iff_ne, bne_eq_false_iff_eq]
  refine ⟨fun g => by rw [if_pos g] at k; exact k, fun g => ?_⟩
  rw [if_neg (by simpa using g)] at k
  rw [show IntKind.wrap .i64 (0 + 1) = ((1 : Nat) : Int) from by decide]
  unfold F.cmp_Or_int.l1
  refine ⟨fun _ => ?_, fun g => by simp at g⟩
  refine idxA_of (i := 1) rfl (by simp) rfl ?_
  rw [Nat.one_mul, ldI_iff c1, bne_iff_ne, bne_eq_false_iff_eq]
  refine ⟨fun g => by rw [if_pos g] at k; exact k, fun g => ?_⟩
  rw [if_neg (by simpa using g)] at k
  rw [show IntKind.wrap .i64 (((1 : Nat) : Int) + 1) = ((2 : Nat) : Int) from by decide]
  unfold F.cmp_Or_int.l1
  refine ⟨fun _ => ?_, fun g => by simp at g⟩
  refine idxA_of (i := 2) rfl (by simp) rfl ?_
  rw [show 2 * 1 = 2 from rfl, ldI_iff c2, bne_iff_ne, bne_eq_false_iff_eq]
  refine ⟨fun g => k, fun g => ?_⟩
  rw [show IntKind.wrap .i64 (((2 : Nat) : Int) + 1) = ((3 : Nat) : Int) from by decide]
  unfold F.cmp_Or_int.l1
  refine ⟨fun g => by simp at g, fun _ => ?_⟩
  rw [g] at k; exact k
theorem Compare_spec {a b : Cel} {h : H} {Q : Int → H → Prop} (k : ∀ h', Ext h h' → Q (cmpC a b) h') : F.merge_Compare a b h Q := by
  unfold F.merge_Compare
  refine new_of fun n h1 e1 e2 e3 e4 => new_of fun m h3 f1 f2 f3 f4 => ?_
  have b1 : Blk h3 n a.cells.toArray 34 := f3.block e2 (fun f => f)
  have b2 : Blk h3 m b.cells.toArray 34 := f2
  have a0 : cellH h3 ⟨n, 0, none⟩ = some (.int .i64 a.View) := b1.cell rfl
  have a1 : cellH h3 ⟨n, 1, none⟩ = some (.string a.Key) := b1.cell rfl
  have a2 : cellH h3 ⟨n, 2, none⟩ = some (.int .i64 a.Start) := b1.cell rfl
  have c0 : cellH h3 ⟨m, 0, none⟩ = some (.int .i64 b.View) := b2.cell rfl
  have c1 : cellH h3 ⟨m, 1, none⟩ = some (.string b.Key) := b2.cell rfl
  have c2 : cellH h3 ⟨m, 2, none⟩ = some (.int .i64 b.Start) := b2.cell rfl
  simp only [add_lit, Nat.zero_add, ldI_iff a0, ldI_iff c0, ldS_iff a1, ldS_iff c1, ldI_iff a2, ldI_iff c2]
  refine cmpInt_spec ⟨c2, a2, c1, a1, ?_⟩
  unfold F.strings_Compare F.internal_bytealg_CompareString
  refine ⟨c2, a2, cmpInt64_spec ?_⟩
  refine newL_of fun q h5 g1 g2 g3 g4 => ?_
  exact or3_spec g2 (k h5 ((e3.trans f3).trans g3))
def cmpR8 (a b : Cel) : Int := if a.View ≠ b.View then (if a.View < b.View then -1 else 1) else if a.Key.toList ≠ b.Key.toList then (if Op.bytesLess a.Key.toList b.Key.toList then -1 else 1) else if a.Start ≠ b.Start then (if a.Start < b.Start then -1 else 1) else 0
theorem cmpR8_eq (a b : Cel) : cmpR8 a b = cmpC a b := by
  unfold cmpR8 cmpC cmpI cmpM
  rw [cmpB_eq, toList_data, toList_data]
  by_cases h1 : a.View = b.View
  · rw [h1]
    simp only [ne_eq, not_true_eq_false, if_false, Int.lt_irrefl, gt_iff_lt]
    by_cases h2 : a.Key.data.toList = b.Key.data.toList
    · rw [h2]
      simp only [not_true_eq_false, if_false, if_true]
      by_cases h3 : a.Start = b.Start
      · rw [h3]; simp
      · rw [if_pos h3]
        by_cases h4 : a.Start < b.Start
        · rw [if_pos h4, if_pos h4]
        · rw [if_neg h4, if_neg h4, if_pos (by omega)]
    · rw [if_pos h2]
      by_cases h4 : Op.bytesLess a.Key.data.toList b.Key.data.toList
      · simp [h2, h4]
      · simp [h2, h4]
  · rw [if_pos h1]
    by_cases h4 : a.View < b.View
    · simp [h4]
    · rw [if_neg h4, if_neg h4, if_pos (show a.View > b.View by omega)]; simp
theorem sign_spec {b : Bool} {h : H} {Q : Int → H → Prop} (k : Q (if b then -1 else 1) h) : F.spateref8_sign b h Q := by
  unfold F.spateref8_sign
  cases b with
  | true => exact ⟨fun _ => k, fun h => by cases h⟩
  | false => exact ⟨(fun h => by cases h), fun _ => k⟩
theorem CompareR_spec {a b : Cel} {h : H} {Q : Int → H → Prop} (k : ∀ h', Ext h h' → Q (cmpC a b) h') : F.spateref8_Compare a b h Q := by
  unfold F.spateref8_Compare
  refine new_of fun n h1 e1 e2 e3 e4 => new_of fun m h3 f1 f2 f3 f4 => ?_
  have b1 : Blk h3 n a.cells.toArray 34 := f3.block e2 (fun f => f)
  have b2 : Blk h3 m b.cells.toArray 34 := f2
  have a0 : cellH h3 ⟨n, 0, none⟩ = some (.int .i64 a.View) := b1.cell rfl
  have a1 : cellH h3 ⟨n, 1, none⟩ = some (.string a.Key) := b1.cell rfl
  have a2 : cellH h3 ⟨n, 2, none⟩ = some (.int .i64 a.Start) := b1.cell rfl
  have c0 : cellH h3 ⟨m, 0, none⟩ = some (.int .i64 b.View) := b2.cell rfl
  have c1 : cellH h3 ⟨m, 1, none⟩ = some (.string b.Key) := b2.cell rfl
  have c2 : cellH h3 ⟨m, 2, none⟩ = some (.int .i64 b.Start) := b2.cell rfl
  have k := k h3 (e3.trans f3)
  rw [← cmpR8_eq] at k
  unfold cmpR8 at k
  simp only [add_lit, Nat.zero_add, ldI_iff a0, ldI_iff c0, ldS_iff a1, ldS_iff c1, ldI_iff a2, ldI_iff c2, bne_iff_ne, bne_eq_false_iff_eq]
  refine ⟨fun g => sign_spec ?_, fun g => ⟨fun g2 => sign_spec ?_, fun g2 => ⟨fun g3 => sign_spec ?_, fun g3 => ?_⟩⟩⟩
  · rw [if_pos g] at k; simpa using k
  · rw [if_neg (by simpa using g), if_pos (by simpa using g2)] at k; simpa using k
  · rw [if_neg (by simpa using g), if_neg (by simpa using g2), if_pos g3] at k; simpa using k
  · rw [if_neg (by simpa using g), if_neg (by simpa using g2), if_neg (by simpa using g3)] at k; exact k
theorem cmpC_self (a : Cel) : cmpC a a = 0 := by
  unfold cmpC cmpI cmpM
  rw [cmpB_eq]; simp
end Go.Proofs.Ytidpbnbjpglhfaa.V
namespace Go.Proofs.Ytidpbnbjpglhfaa.V
open Go
set_option linter.unusedVariables false
set_option linter.unusedSimpArgs false
theorem cB_zero {x y : List UInt8} : Lib.compareBytes x y = 0 ↔ x = y := by
  rw [cmpB_eq]
  split
  · rename_i h; simp [h]
  · rename_i h; split <;> simp [h]
theorem u8_tri (a b : UInt8) : a < b ∨ a = b ∨ b < a := by
  by_cases h1 : a < b
  · exact .inl h1
  · by_cases h2 : b < a
    · exact .inr (.inr h2)
    · exact .inr (.inl (UInt8.le_antisymm (UInt8.not_lt.1 h2) (UInt8.not_lt.1 h1)))
theorem u8_asym {a b : UInt8} (h : a < b) : ¬ b < a := fun h2 => by
  rw [UInt8.lt_iff_toNat_lt] at h h2; omega
theorem u8_irr (a : UInt8) : ¬ a < a := fun h => by
  rw [UInt8.lt_iff_toNat_lt] at h; omega
theorem cB_anti : ∀ (x y : List UInt8), Lib.compareBytes x y = - Lib.compareBytes y x
  | [], [] => rfl
  | [], _ :: _ => rfl
  | _ :: _, [] => rfl
  | a :: x, b :: y => by
    have ih := cB_anti x y
    simp only [Lib.compareBytes]
    rcases u8_tri a b with h | h | h
    · simp [h, u8_asym h]
    · subst h; simp [u8_irr, ih]
    · simp [h, u8_asym h]
theorem cB_range (x y : List UInt8) : Lib.compareBytes x y = -1 ∨ Lib.compareBytes x y = 0 ∨ Lib.compareBytes x y = 1 := by
  rw [cmpB_eq]; split
  · simp
  · split <;> simp
theorem cB_trans : ∀ (x y z : List UInt8), Lib.compareBytes x y = -1 → Lib.compareBytes y z = -1 → Lib.compareBytes x z = -1
  | [], [], z, h, _ => by simp [Lib.compareBytes] at h
  | [], b :: y, [], _, h => by simp [Lib.compareBytes] at h
  | [], b :: y, c :: z, _, _ => rfl
  | a :: x, [], z, h, _ => by simp [Lib.compareBytes] at h
  | a :: x, b :: y, [], _, h => by simp [Lib.compareBytes] at h
  | a :: x, b :: y, c :: z, h1, h2 => by
    simp only [Lib.compareBytes] at h1 h2 ⊢
    rcases u8_tri a b with g | g | g
    · rcases u8_tri b c with g2 | g2 | g2
      · have : a < c := by rw [UInt8.lt_iff_toNat_lt] at *; omega
        simp [this]
      · subst g2; simp [g]
      · simp [g2, u8_asym g2] at h2
    · subst g
      simp only [u8_irr, if_false] at h1
      rcases u8_tri a c with g2 | g2 | g2
      · simp [g2]
      · subst g2
        simp only [u8_irr, if_false] at h2 ⊢
        exact cB_trans x y z h1 h2
      · simp [g2, u8_asym g2] at h2
    · simp [g, u8_asym g] at h1
theorem cI_anti (x y : Int) : cmpI x y = - cmpI y x := by
  unfold cmpI
  rcases Int.lt_trichotomy x y with h | h | h
  · rw [if_pos h, if_neg (by omega), if_pos (by omega)]
  · subst h; simp
  · rw [if_neg (by omega), if_pos (by omega), if_pos (by omega)]; rfl
theorem cI_zero {x y : Int} : cmpI x y = 0 ↔ x = y := by
  unfold cmpI
  split
  · constructor <;> intro <;> omega
  · split
    · constructor <;> intro <;> omega
    · constructor <;> intro <;> omega
theorem cI_range (x y : Int) : cmpI x y = -1 ∨ cmpI x y = 0 ∨ cmpI x y = 1 := by
  unfold cmpI; split
  · simp
  · split <;> simp
theorem cI_lt {x y : Int} : cmpI x y = -1 ↔ x < y := by
  unfold cmpI
  split
  · constructor <;> intro <;> omega
  · split
    · constructor <;> intro <;> omega
    · constructor <;> intro <;> omega
theorem cC_anti (a b : Cel) : cmpC a b = - cmpC b a := by
  unfold cmpC cmpM
  rw [cI_anti a.View b.View, cB_anti a.Key.data.toList b.Key.data.toList, cI_anti a.Start b.Start]
  split <;> split <;> simp_all <;> omega
theorem cC_range (a b : Cel) : cmpC a b = -1 ∨ cmpC a b = 0 ∨ cmpC a b = 1 := by
  unfold cmpC cmpM
  split
  · exact cI_range _ _
  · split
    · exact cB_range _ _
    · exact cI_range _ _
theorem key_ext {a b : ByteArray} (h : a.data.toList = b.data.toList) : a = b := by
  obtain ⟨x⟩ := a
  obtain ⟨y⟩ := b
  congr 1
  exact Array.toList_inj.1 h
theorem cC_zero {a b : Cel} : cmpC a b = 0 ↔ a = b := by
  constructor
  · intro h
    unfold cmpC cmpM at h
    split at h
    · rename_i g; exact absurd h g
    · rename_i g
      split at h
      · rename_i g2; exact absurd h g2
      · rename_i g2
        have h1 := cI_zero.1 (Classical.not_not.1 g)
        have h2 := key_ext (cB_zero.1 (Classical.not_not.1 g2))
        have h3 := cI_zero.1 h
        obtain ⟨v, k, s⟩ := a
        obtain ⟨v', k', s'⟩ := b
        simp only at h1 h2 h3
        rw [h1, h2, h3]
  · rintro rfl; exact cmpC_self a
theorem cC_lt {a b : Cel} : cmpC a b = -1 ↔ cmpI a.View b.View = -1 ∨ (a.View = b.View ∧ (Lib.compareBytes a.Key.data.toList b.Key.data.toList = -1 ∨ (a.Key.data.toList = b.Key.data.toList ∧ a.Start < b.Start))) := by
  unfold cmpC cmpM
  have r1 := cI_range a.View b.View
  have r2 := cB_range a.Key.data.toList b.Key.data.toList
  have z1 := cI_zero (x := a.View) (y := b.View)
  have z2 := cB_zero (x := a.Key.data.toList) (y := b.Key.data.toList)
  have l3 := cI_lt (x := a.Start) (y := b.Start)
  by_cases h1 : cmpI a.View b.View = 0
  · rw [if_neg (by simp [h1])]
    have e1 := z1.1 h1
    by_cases h2 : Lib.compareBytes a.Key.data.toList b.Key.data.toList = 0
    · rw [if_neg (by simp [h2])]
      have e2 := z2.1 h2
      rw [l3]
      constructor
      · intro h; exact .inr ⟨e1, .inr ⟨e2, h⟩⟩
      · intro h
        rcases h with h | ⟨_, h | h⟩
        · omega
        · omega
        · exact h.2
    · rw [if_pos h2]
      constructor
      · intro h; exact .inr ⟨e1, .inl h⟩
      · intro h
        rcases h with h | ⟨_, h | h⟩
        · omega
        · exact h
        · exact absurd (z2.2 h.1) h2
  · rw [if_pos h1]
    constructor
    · intro h; exact .inl h
    · intro h
      rcases h with h | h
      · exact h
      · exact absurd (z1.2 h.1) h1
theorem cC_trans {a b c : Cel} (h1 : cmpC a b = -1) (h2 : cmpC b c = -1) : cmpC a c = -1 := by
  rw [cC_lt] at *
  rcases h1 with h1 | ⟨e1, h1⟩
  · rw [cI_lt] at h1
    rcases h2 with h2 | ⟨e2, _⟩
    · rw [cI_lt] at h2; exact .inl (cI_lt.2 (by omega))
    · exact .inl (cI_lt.2 (by omega))
  · rcases h2 with h2 | ⟨e2, h2⟩
    · rw [cI_lt] at h2; exact .inl (cI_lt.2 (by omega))
    · refine .inr ⟨by omega, ?_⟩
      rcases h1 with h1 | ⟨k1, h1⟩
      · rcases h2 with h2 | ⟨k2, h2⟩
        · exact .inl (cB_trans _ _ _ h1 h2)
        · rw [← k2]; exact .inl h1
      · rcases h2 with h2 | ⟨k2, h2⟩
        · rw [k1]; exact .inl h2
        · exact .inr ⟨k1.trans k2, by omega⟩
theorem cC_le_trans {a b c : Cel} (h1 : cmpC a b ≤ 0) (h2 : cmpC b c ≤ 0) : cmpC a c ≤ 0 := by
  rcases cC_range a b with r1 | r1 | r1
  · rcases cC_range b c with r2 | r2 | r2
    · rw [cC_trans r1 r2]; omega
    · rw [← cC_zero.1 r2, r1]; omega
    · omega
  · rw [cC_zero.1 r1]; exact h2
  · omega
section
variable {h0 h : H} {n m q : Nat} {a b c : Cel} {Q : Bool → H → Prop}
end
end Go.Proofs.Ytidpbnbjpglhfaa.V
namespace Go.Proofs.Ytidpbnbjpglhfaa.V
open Go
set_option linter.unusedVariables false
set_option linter.unusedSimpArgs false
section
variable {α : Type} (le : α → α → Bool)
/-- Lists asL one: the least head is told first, the first of them where several are. -/
def mAll (Ls : List (List α)) : List α := Ls.foldr (fun l m => List.merge l m le) []
variable {le}
theorem merge_nil (m : List α) : List.merge [] m le = m := by simp [List.merge]
theorem merge_nil' (l : List α) : List.merge l [] le = l := by cases l <;> simp [List.merge]
theorem merge_cons (x y : α) (l m : List α) : List.merge (x :: l) (y :: m) le = if le x y then x :: List.merge l (y :: m) le else y :: List.merge (x :: l) m le := by
  rw [List.merge]
theorem mAll_head : ∀ {Ls : List (List α)} {y : α} {r : List α}, mAll le Ls = y :: r → ∃ (j : Nat) (t : List α), Ls[j]? = some (y :: t)
  | [], y, r, h => by simp [mAll] at h
  | l :: Ls, y, r, h => by
    have hm : List.merge l (mAll le Ls) le = y :: r := h
    cases l with
    | nil =>
      rw [merge_nil] at hm
      obtain ⟨j, t, hj⟩ := mAll_head hm
      exact ⟨j + 1, t, by simpa using hj⟩
    | cons a l =>
      cases hq : mAll le Ls with
      | nil =>
        rw [hq, merge_nil'] at hm
        cases hm
        exact ⟨0, _, rfl⟩
      | cons b m =>
        rw [hq, merge_cons] at hm
        split at hm
        · cases hm; exact ⟨0, _, rfl⟩
        · cases hm
          obtain ⟨j, t, hj⟩ := mAll_head hq
          exact ⟨j + 1, t, by simpa using hj⟩
theorem mAll_none : ∀ {Ls : List (List α)}, (∀ l ∈ Ls, l = []) → mAll le Ls = []
  | [], _ => rfl
  | l :: Ls, h => by
    have h1 := h l (by simp)
    subst h1
    show List.merge [] (mAll le Ls) le = []
    rw [mAll_none fun l hl => h l (by simp [hl])]
    exact merge_nil _
/-- The head that is picked: no list ahead has one asL small, none behind a smaller one. -/
theorem mAll_pick : ∀ {Ls : List (List α)} {k : Nat} {x : α} {t : List α}, Ls[k]? = some (x :: t) → (∀ (j : Nat) y s, j < k → Ls[j]? = some (y :: s) → le y x = false) → (∀ (j : Nat) y s, k < j → Ls[j]? = some (y :: s) → le x y = true) →
    mAll le Ls = x :: mAll le (Ls.set k t)
  | [], k, x, t, h, _, _ => by simp at h
  | l :: Ls, 0, x, t, h, _, h2 => by
    simp at h
    subst h
    show List.merge (x :: t) (mAll le Ls) le = x :: List.merge t (mAll le Ls) le
    cases hq : mAll le Ls with
    | nil => rw [merge_nil', merge_nil']
    | cons y r =>
      obtain ⟨j, s, hj⟩ := mAll_head hq
      rw [merge_cons, if_pos (h2 (j + 1) y s (by omega) (by simpa using hj))]
  | l :: Ls, k + 1, x, t, h, h1, h2 => by
    have ih := mAll_pick (Ls := Ls) (k := k) (x := x) (t := t) (by simpa using h) (fun j y s hj hy => h1 (j + 1) y s (by omega) (by simpa using hy)) (fun j y s hj hy => h2 (j + 1) y s (by omega) (by simpa using hy))
    show List.merge l (mAll le Ls) le = x :: List.merge l (mAll le (Ls.set k t)) le
    rw [ih]
    cases l with
    | nil => rw [merge_nil, merge_nil]
    | cons y s =>
      rw [merge_cons, if_neg (by rw [h1 0 y s (by omega) rfl]; simp)]
end
section
variable {α : Type} [Inhabited α]
abbrev g (A : List α) (i : Nat) : α := A.getD i default
def swp (A : List α) (i j : Nat) : List α := (A.set i (g A j)).set j (g A i)
theorem swp_len (A : List α) (i j : Nat) : (swp A i j).length = A.length := by simp [swp]
theorem g_set {A : List α} {i j : Nat} {x : α} (h : i < A.length) : g (A.set i x) j = if i = j then x else g A j := by
  simp only [g, List.getD_eq_getElem?_getD, List.getElem?_set]
  by_cases e : i = j
  · subst e; simp [h]
  · simp [e]
theorem g_swp {A : List α} {i j k : Nat} (hi : i < A.length) (hj : j < A.length) : g (swp A i j) k = if k = j then g A i else if k = i then g A j else g A k := by
  unfold swp
  rw [g_set (by simpa using hj), g_set hi]
  by_cases e : j = k
  · subst e; simp
  · rw [if_neg e, if_neg (show ¬ k = j from fun h => e h.symm)]
    by_cases e2 : i = k
    · rw [if_pos e2, if_pos e2.symm]
    · rw [if_neg e2, if_neg (show ¬ k = i from fun h => e2 h.symm)]
theorem swp_perm {A : List α} {i j : Nat} (hi : i < A.length) (hj : j < A.length) : (swp A i j).Perm A := by
  have e1 : g A j = A[j] := by simp [g, List.getD_eq_getElem?_getD, hj]
  have e2 : g A i = A[i] := by simp [g, List.getD_eq_getElem?_getD, hi]
  unfold swp
  rw [e1, e2]
  exact List.set_set_perm hi hj
variable (lt : α → α → Bool)
/-- An element that is too great is let down: Go's heap.down. -/
def dn : Nat → List α → Nat → Nat → List α × Nat
  | 0, A, n, i => (A, i)
  | m + 1, A, n, i =>
    if n ≤ 2 * i + 1 then (A, i)
    else if lt (g A (if 2 * i + 2 < n ∧ lt (g A (2 * i + 2)) (g A (2 * i + 1)) = true then 2 * i + 2 else 2 * i + 1)) (g A i) = true then
      dn m (swp A i (if 2 * i + 2 < n ∧ lt (g A (2 * i + 2)) (g A (2 * i + 1)) = true then 2 * i + 2 else 2 * i + 1)) n (if 2 * i + 2 < n ∧ lt (g A (2 * i + 2)) (g A (2 * i + 1)) = true then 2 * i + 2 else 2 * i + 1)
    else (A, i)
/-- From s on, no child is smaller than its parent. -/
def HP (A : List α) (n s : Nat) : Prop := ∀ c, 0 < c → c < n → s ≤ (c - 1) / 2 → lt (g A c) (g A ((c - 1) / 2)) = false
structure Ord : Prop where
  asym : ∀ a b, lt a b = true → lt b a = false
  trans : ∀ a b c, lt b a = false → lt c b = false → lt c a = false
variable {lt}
theorem dn_law (o : Ord lt) : ∀ (m : Nat) (A : List α) (n i s : Nat), n ≤ A.length → i < n → s ≤ i → n - i ≤ m →
    (∀ c, 0 < c → c < n → s ≤ (c - 1) / 2 → (c - 1) / 2 ≠ i → lt (g A c) (g A ((c - 1) / 2)) = false) →
    (∀ c, 0 < c → c < n → (c - 1) / 2 = i → 0 < i → s ≤ (i - 1) / 2 → lt (g A c) (g A ((i - 1) / 2)) = false) →
    HP lt (dn lt m A n i).1 n s ∧ (dn lt m A n i).1.Perm A ∧ (dn lt m A n i).1.length = A.length ∧ ∀ k, n ≤ k → g (dn lt m A n i).1 k = g A k
  | 0, A, n, i, s, hn, hi, hs, hm, h1, h2 => by omega
  | m + 1, A, n, i, s, hn, hi, hs, hm, h1, h2 => by
    unfold dn
    by_cases hl : n ≤ 2 * i + 1
    · rw [if_pos hl]
      exact ⟨fun c c0 cn cs => h1 c c0 cn cs (by omega), .refl _, rfl, fun _ _ => rfl⟩
    · rw [if_neg hl]
      generalize hj : (if 2 * i + 2 < n ∧ lt (g A (2 * i + 2)) (g A (2 * i + 1)) = true then 2 * i + 2 else 2 * i + 1) = j
      have hj2 : (j = 2 * i + 1 ∨ j = 2 * i + 2) ∧ j < n ∧ (∀ c, (c = 2 * i + 1 ∨ c = 2 * i + 2) → c < n → lt (g A c) (g A j) = false) := by
        have irr : ∀ a, lt a a = false := fun a => by
          cases h : lt a a with
          | false => rfl
          | true => have := o.asym a a h; rw [h] at this; cases this
        split at hj
        · rename_i h
          subst hj
          refine ⟨.inr rfl, h.1, fun c hc hcn => ?_⟩
          rcases hc with rfl | rfl
          · exact o.asym _ _ h.2
          · exact irr _
        · rename_i h
          subst hj
          refine ⟨.inl rfl, by omega, fun c hc hcn => ?_⟩
          rcases hc with rfl | rfl
          · exact irr _
          · cases h2 : lt (g A (2 * i + 2)) (g A (2 * i + 1)) with
            | false => rfl
            | true => exact absurd ⟨hcn, h2⟩ h
      obtain ⟨ja, jb, jc⟩ := hj2
      have jp : (j - 1) / 2 = i := by omega
      by_cases ht : lt (g A j) (g A i) = true
      · rw [if_pos ht]
        have hiA : i < A.length := by omega
        have hjA : j < A.length := by omega
        have gs : ∀ k, g (swp A i j) k = if k = j then g A i else if k = i then g A j else g A k := fun k => g_swp hiA hjA
        obtain ⟨r1, r2, r3, r4⟩ := dn_law o m (swp A i j) n j s (by rw [swp_len]; exact hn) jb (by omega) (by omega) (fun c c0 cn cs cp => by
          rw [gs, gs, if_neg (fun h => by subst h; omega : ¬ (c - 1) / 2 = j)]
          by_cases e1 : c = j
          · subst e1
            rw [if_pos rfl, if_pos jp]
            exact o.asym _ _ ht
          · rw [if_neg e1]
            by_cases e2 : c = i
            · subst e2
              rw [if_pos rfl, if_neg (by omega)]
              exact h2 j (by omega) jb jp c0 cs
            · rw [if_neg e2]
              by_cases e3 : (c - 1) / 2 = i
              · rw [if_pos e3]
                exact jc c (by omega) cn
              · rw [if_neg e3]
                exact h1 c c0 cn cs e3) (fun c c0 cn cp j0 js => by
          rw [gs, gs, if_neg (by omega), if_neg (by omega), jp, if_neg (by omega), if_pos rfl, ← cp]
          exact h1 c c0 cn (by omega) (by omega))
        exact ⟨r1, r2.trans (swp_perm hiA hjA), by rw [r3, swp_len], fun k hk => by rw [r4 k hk, gs, if_neg (by omega), if_neg (by omega)]⟩
      · rw [if_neg ht]
        have ht' : lt (g A j) (g A i) = false := by simpa using ht
        refine ⟨fun c c0 cn cs => ?_, .refl _, rfl, fun _ _ => rfl⟩
        by_cases e : (c - 1) / 2 = i
        · rw [e]
          exact o.trans _ _ _ ht' (jc c (by omega) cn)
        · exact h1 c c0 cn cs e
/-- The root is the least. -/
theorem hp_root (o : Ord lt) {A : List α} {n : Nat} (h : HP lt A n 0) : ∀ c, c < n → lt (g A c) (g A 0) = false := by
  intro c
  induction c using Nat.strongRecOn with
  | _ c ih =>
    intro hc
    by_cases h0 : c = 0
    · subst h0
      cases h : lt (g A 0) (g A 0) with
      | false => rfl
      | true => have := o.asym _ _ h; rw [h] at this; cases this
    · exact o.trans _ _ _ (ih ((c - 1) / 2) (by omega) (by omega)) (h c (by omega) hc (by omega))
end
end Go.Proofs.Ytidpbnbjpglhfaa.V
namespace Go.Proofs.Ytidpbnbjpglhfaa.V
open Go
set_option linter.unusedVariables false
set_option linter.unusedSimpArgs false
abbrev Rw8 := S_api_Row
abbrev cW (x : Rw8) : List Value := x.cells
theorem cW_len (x : Rw8) : (cW x).length = 7 := rfl
abbrev cF (x : S_merge_front) : List Value := x.cells
theorem cF_len (x : S_merge_front) : (cF x).length = 2 := rfl
/-- A front: its slice, its list's number; the rows that are read there. -/
structure Fr where
  f : S_merge_front
  R : List Rw8
instance : Inhabited S_api_Row := ⟨⟨⟨0, ⟨#[]⟩, 0⟩, ⟨0, 0, 0, 0⟩⟩⟩
instance : Inhabited Fr := ⟨⟨⟨⟨none, 0, 0⟩, 0⟩, []⟩⟩
def hdF (a : Fr) : Rw8 := a.R.headD default
def or2 (a b : Int) : Int := if a ≠ 0 then a else b
def ltF (a b : Fr) : Bool := decide (or2 (cmpC (hdF a).Cell (hdF b).Cell) (cmpI a.f.list b.f.list) < 0)
theorem cmpI_val (a b : Int) : (a < b ∧ cmpI a b = -1) ∨ (a = b ∧ cmpI a b = 0) ∨ (b < a ∧ cmpI a b = 1) := by
  unfold cmpI
  by_cases h1 : a < b
  · simp [h1]
  · by_cases h2 : b < a
    · right; right; simp [h1, h2]
    · right; left; simp [h1, h2]; omega
theorem ltF_iff {a b : Fr} : ltF a b = true ↔ cmpC (hdF a).Cell (hdF b).Cell = -1 ∨ (cmpC (hdF a).Cell (hdF b).Cell = 0 ∧ a.f.list < b.f.list) := by
  unfold ltF or2
  rw [decide_eq_true_eq]
  have h1 := cC_range (hdF a).Cell (hdF b).Cell
  have h2 := cmpI_val a.f.list b.f.list
  split
  · omega
  · omega
theorem ltF_ord : Ord ltF where
  asym a b h := by
    cases hb : ltF b a with
    | false => rfl
    | true =>
      rw [ltF_iff] at h hb
      have := cC_anti (hdF a).Cell (hdF b).Cell
      omega
  trans a b c h1 h2 := by
    cases hc : ltF c a with
    | false => rfl
    | true =>
      have n1 : ¬ ltF b a = true := by rw [h1]; simp
      have n2 : ¬ ltF c b = true := by rw [h2]; simp
      rw [ltF_iff] at n1 n2 hc
      have ra := cC_range (hdF b).Cell (hdF a).Cell
      have rb := cC_range (hdF c).Cell (hdF b).Cell
      have a1 := cC_anti (hdF b).Cell (hdF a).Cell
      have a2 := cC_anti (hdF c).Cell (hdF b).Cell
      have a3 := cC_anti (hdF c).Cell (hdF a).Cell
      have l1 : cmpC (hdF a).Cell (hdF b).Cell ≤ 0 := by omega
      have l2 : cmpC (hdF b).Cell (hdF c).Cell ≤ 0 := by omega
      have l3 := cC_le_trans l1 l2
      rcases hc with hc | ⟨hc, hl⟩
      · omega
      · have e1 : (hdF c).Cell = (hdF a).Cell := cC_zero.1 hc
        rw [e1] at rb a2 l2 n2
        by_cases hz : cmpC (hdF b).Cell (hdF a).Cell = 0
        · omega
        · omega
theorem add0 (a : Addr) : a.add 0 = a := by unfold Addr.add; simp
theorem Cells.pre {h : H} {a : Addr} {x y : List Value} (c : Cells h a (x ++ y)) : Cells h a x := fun i v hv => c i v (by rw [List.getElem?_append_left (List.getElem?_eq_some_iff.1 hv).1]; exact hv)
section
variable {h0 hk h h' : H} {n : Nat} {s : Sl} {G : List Fr}
theorem or2_spec {n : Nat} {a b : Int} {Q : Int → H → Prop} (bl : Blk h n #[.int .i64 a, .int .i64 b] 3) (k : Q (or2 a b) h) : F.cmp_Or_int ⟨some ⟨n, 0, none⟩, 2, 2⟩ h Q := by
  unfold F.cmp_Or_int
  unfold or2 at k
  refine ⟨3, ?_⟩
  have c0 : cellH h ⟨n, 0, none⟩ = some (.int .i64 a) := bl.cell rfl
  have c1 : cellH h ⟨n, 1, none⟩ = some (.int .i64 b) := bl.cell rfl
  unfold F.cmp_Or_int.l1
  refine ⟨fun _ => ?_, fun g => by simp at g⟩
  refine idxA_of (i := 0) rfl (by simp) rfl ?_
  rw [Nat.zero_mul, ldI_iff c0, bne_iff_ne, bne_eq_false_iff_eq]
  refine ⟨fun g => by rw [if_pos g] at k; exact k, fun g => ?_⟩
  rw [if_neg (by simpa using g)] at k
  rw [show IntKind.wrap .i64 (0 + 1) = ((1 : Nat) : Int) from by decide]
  unfold F.cmp_Or_int.l1
  refine ⟨fun _ => ?_, fun g => by simp at g⟩
  refine idxA_of (i := 1) rfl (by simp) rfl ?_
  rw [Nat.one_mul, ldI_iff c1, bne_iff_ne, bne_eq_false_iff_eq]
  refine ⟨fun g => k, fun g => ?_⟩
  rw [show IntKind.wrap .i64 (((1 : Nat) : Int) + 1) = ((2 : Nat) : Int) from by decide]
  unfold F.cmp_Or_int.l1
  refine ⟨fun g => by simp at g, fun _ => ?_⟩
  rw [g] at k; exact k
/-- What is kept: all slices but those of fronts. -/
structure Keep (hk h : H) : Prop where
  w : ∀ {r : Sl} {e : TypeId} {k : Nat} {cs : List Value}, Owns hk r e k cs → e ≠ tn_merge_front → e ≠ tn_merge_fronts → Owns h r e k cs
theorem Keep.refl (h : H) : Keep h h := ⟨fun w _ _ => w⟩
theorem own_ne {h : H} {s : Sl} {n : Nat} {cs : List Value} {k : Nat} {c : Array Value} {e e' : TypeId} (w : Owns h s e k cs) (b : Blk h n c e') (he : e ≠ e') : s.blk ≠ some n := fun hb => by
  obtain ⟨_, ⟨q1, q2, q3⟩ | ⟨b', c', q1, q2, _⟩⟩ := w
  · simp [Sl.blk, q1] at hb
  · simp [Sl.blk, q1] at hb
    subst hb
    unfold Blk at q2 b
    rw [q2] at b; cases b; exact he rfl
theorem Keep.ext {hk h h' : H} (k : Keep hk h) (e : Ext h h') : Keep hk h' := ⟨fun w h1 h2 => (k.w w h1 h2).ext e⟩
theorem Keep.blk {hk h h' : H} {n : Nat} {c : Array Value} {e' : TypeId} (k : Keep hk h) (o : Only (· = n) h h') (b : Blk h n c e') (he : e' = tn_merge_front ∨ e' = tn_merge_fronts) : Keep hk h' := ⟨fun w h1 h2 =>
  (k.w w h1 h2).only o fun y hy hf => own_ne (k.w w h1 h2) b (fun e => by rcases he with he | he; exact h1 (e.trans he); exact h2 (e.trans he)) (by rw [hy, hf])⟩
theorem Keep.own {hk h h' : H} {s : Sl} {m : Nat} {ds : List Value} (k : Keep hk h) (o : Only (fun b => s.blk = some b) h h') (ws : Owns h s tn_merge_front m ds) : Keep hk h' := ⟨fun w h1 h2 =>
  (k.w w h1 h2).only o fun y hy hf => by
    obtain ⟨_, ⟨q1, q2, q3⟩ | ⟨b', c', q1, q2, _⟩⟩ := ws
    · simp [Sl.blk, q1] at hf
    · simp [Sl.blk, q1] at hf
      subst hf
      exact own_ne (k.w w h1 h2) q2 h1 hy⟩
/-- The fronts, and what they read. -/
structure FS (h0 hk h : H) (n : Nat) (s : Sl) (G : List Fr) : Prop where
  var : Blk h n #[s.enc] tn_merge_fronts
  own : Owns h s tn_merge_front 2 ((G.map (·.f)).flatMap cF)
  mine : Mine h0 s
  lo : h0.size ≤ n
  ext : Ext h0 h
  rows : ∀ f ∈ G, f.R ≠ [] → Reads h0 f.f.rows 7 (f.R.flatMap cW)
  kp : Keep hk h
theorem g_mem {i : Nat} (hi : i < G.length) : G[i]? = some (g G i) := by simp [g, List.getD_eq_getElem?_getD, hi]
theorem FS.at (v : FS h0 hk h n s G) {i : Nat} (hi : i < G.length) {K : Addr → Prop} (k : ∀ a, Cells h a (cF (g G i).f) → K a) : idxA s (i : Int) 2 K := by
  obtain ⟨b, p1, p2⟩ := own_at cF_len (by omega) v.own (i := i) (x := (g G i).f) (by rw [List.getElem?_map, g_mem hi]; rfl)
  have hl := own_len cF_len (by omega) v.own
  rw [List.length_map] at hl
  exact idxA_of (i := i) p1 (by rw [hl]; exact hi) rfl (k _ p2)
theorem FS.e (v : FS h0 hk h n s G) (e : Ext h h') : FS h0 hk h' n s G := ⟨e.block v.var (fun f => f), v.own.ext e, v.mine, v.lo, v.ext.trans e, v.rows, v.kp.ext e⟩
theorem hd_cell (v : FS h0 hk h n s G) {i : Nat} (hi : i < G.length) (hne : (g G i).R ≠ []) {K : Cel → Prop} (k : K (hdF (g G i)).Cell) : idxA (g G i).f.rows 0 7 fun a => ld_S_api_Cell h (a.add 0) K := by
  have rd := v.rows _ (List.mem_of_getElem? (g_mem hi)) hne
  obtain ⟨x, t, hx⟩ : ∃ x t, (g G i).R = x :: t := by
    cases hR : (g G i).R with
    | nil => exact absurd hR hne
    | cons x t => exact ⟨x, t, rfl⟩
  have rd' := rd.only v.ext fun _ _ f => f
  rw [hx] at rd'
  obtain ⟨p, p1, p2, p3⟩ := rd_at cW_len (by omega) rd' (i := 0) (x := x) rfl
  have hl := rd_len cW_len (by omega) rd'
  refine idxR_of (i := 0) p1 (by rw [hl]; simp) rfl ?_
  rw [add0]
  have : hdF (g G i) = x := by unfold hdF; rw [hx]; rfl
  rw [this] at k
  exact ⟨x.Cell, Cells.pre p3, k⟩
theorem Less_spec {i j : Nat} {Q : Bool → H → Prop} (v : FS h0 hk h n s G) (hi : i < G.length) (hj : j < G.length) (ni : (g G i).R ≠ []) (nj : (g G j).R ≠ []) (k : ∀ h', Ext h h' → Q (ltF (g G i) (g G j)) h') : F.merge_fronts_Less s (i : Int) (j : Int) h Q := by
  unfold F.merge_fronts_Less
  have c0 : ∀ {a : Addr} {x : S_merge_front}, Cells h a (cF x) → cellH h (a.add 0) = some x.rows.enc := fun c => c 0 _ rfl
  have c1 : ∀ {a : Addr} {x : S_merge_front}, Cells h a (cF x) → cellH h (a.add 1) = some (.int .i64 x.list) := fun c => c 1 _ rfl
  refine v.at hi fun a1 d1 => (ldL_iff (c0 d1)).2 (hd_cell v hi ni (v.at hj fun a2 d2 => (ldL_iff (c0 d2)).2 (hd_cell v hj nj ?_)))
  refine v.at hi fun a3 d3 => (ldI_iff (c1 d3)).2 (v.at hj fun a4 d4 => (ldI_iff (c1 d4)).2 ?_)
  refine Compare_spec fun h1 e1 => ⟨e1.cell (c1 d4) (fun f => f), e1.cell (c1 d3) (fun f => f), cmpInt_spec ?_⟩
  refine newL_of fun m h2 hm b2 e2 s2 => or2_spec b2 (k h2 (e1.trans e2))
theorem Swap_spec {i j : Nat} {Q : H → Prop} (v : FS h0 hk h n s G) (hi : i < G.length) (hj : j < G.length) (k : ∀ h', FS h0 hk h' n s (swp G i j) → Q h') : F.merge_fronts_Swap s (i : Int) (j : Int) h Q := by
  unfold F.merge_fronts_Swap
  have hl := own_len cF_len (by omega) v.own
  rw [List.length_map] at hl
  refine v.at hj fun a1 d1 => ⟨_, d1, v.at hi fun a2 d2 => ⟨_, d2, ?_⟩⟩
  obtain ⟨b, p1, p2⟩ := own_at cF_len (by omega) v.own (i := i) (x := (g G i).f) (by rw [List.getElem?_map, g_mem hi]; rfl)
  refine idxA_of (i := i) p1 (by rw [hl]; exact hi) rfl ?_
  refine own_setAt (i := i) (x := (g G j).f) cF_len v.own p1 (by simpa using hi) fun h1 w1 o1 s1 => ?_
  refine idxA_of (i := j) p1 (by rw [hl]; exact hj) rfl ?_
  refine own_setAt (i := j) (x := (g G i).f) cF_len w1 p1 (by simpa using hj) fun h2 w2 o2 s2 => ?_
  have o : Only (fun b => s.blk = some b) h h2 := o1.trans o2 fun _ _ e => e
  have hnb : s.blk ≠ some n := fun hb => by
    obtain ⟨_, ⟨q1, _⟩ | ⟨b', c', q1, q2, _⟩⟩ := v.own
    · rw [q1] at p1; cases p1
    · simp [Sl.blk, q1] at hb
      subst hb
      have := v.var
      unfold Blk at q2 this
      rw [q2] at this; cases this
  refine k h2 ⟨o.block v.var hnb, ?_, v.mine, v.lo, v.ext.mine v.mine o, fun f hf => v.rows f ((swp_perm hi hj).mem_iff.1 hf), v.kp.own o v.own⟩
  have : (swp G i j).map (·.f) = (((G.map (·.f)).set i (g G j).f).set j (g G i).f) := by unfold swp; rw [List.map_set, List.map_set]
  rw [this]; exact w2
theorem FS.ldv (v : FS h0 hk h n s G) {K : Sl → Prop} (k : K s) : ldL h ⟨n, 0, none⟩ K := (ldL_iff (v.var.cell (i := 0) rfl)).2 k
theorem down_loop {n0 i0 : Nat} {Q : Bool → H → Prop} : ∀ (m i : Nat) (h : H) (G : List Fr), n0 ≤ G.length → n0 < 1000000 → i < 1000000 → n0 - i ≤ m → FS h0 hk h n s G → (∀ j, j < n0 → (g G j).R ≠ []) →
    (∀ h', FS h0 hk h' n s (dn ltF m G n0 i).1 → Q (decide ((((dn ltF m G n0 i).2 : Nat) : Int) > (i0 : Int))) h') →
    F.container_heap_down.l2 Q (m + 1) (some ⟨n, 0, none⟩) (i0 : Int) (n0 : Int) (i : Int) h := by
  intro m
  induction m with
  | zero =>
    intro i h G hn hn0 hi hm v ne k
    unfold F.container_heap_down.l2
    rw [w64 (n := 2 * (i : Int)) (by omega) (by omega), w64 (n := 2 * (i : Int) + 1) (by omega) (by omega)]
    refine ⟨fun _ => ?_, fun g => by simp at g; omega⟩
    unfold F.container_heap_down.j6 F.container_heap_down.j1
    refine ⟨fun _ => k h v, fun g => (by cases g)⟩
  | succ m ih =>
    intro i h G hn hn0 hi hm v ne k
    unfold F.container_heap_down.l2
    rw [w64 (n := 2 * (i : Int)) (by omega) (by omega), w64 (n := 2 * (i : Int) + 1) (by omega) (by omega)]
    unfold dn at k
    refine ⟨fun g1 => ?_, fun g1 => ?_⟩
    · rw [if_pos (by simp at g1; omega)] at k
      unfold F.container_heap_down.j6 F.container_heap_down.j1
      exact ⟨fun _ => k h v, fun g => (by cases g)⟩
    · have hlt : ¬ n0 ≤ 2 * i + 1 := by simp at g1; omega
      rw [if_neg hlt] at k
      rw [decide_eq_false (show ¬ 2 * (i : Int) + 1 < 0 by omega)]
      unfold F.container_heap_down.j6
      refine ⟨fun g => (by cases g), fun _ => ?_⟩
      unfold F.container_heap_down.j3
      rw [w64 (n := 2 * (i : Int) + 1 + 1) (by omega) (by omega)]
      have q1 : (2 * (i : Int) + 1) = ((2 * i + 1 : Nat) : Int) := by omega
      have q2 : (2 * (i : Int) + 1 + 1) = ((2 * i + 2 : Nat) : Int) := by omega
      rw [q2, q1]
      -- the lesser child
      have j4 : ∀ (j : Nat) (h : H), FS h0 hk h n s G → j < n0 → (if 2 * i + 2 < n0 ∧ ltF (g G (2 * i + 2)) (g G (2 * i + 1)) = true then 2 * i + 2 else 2 * i + 1) = j → F.container_heap_down.j4 Q (F.container_heap_down.l2 Q (m + 1)) (some ⟨n, 0, none⟩) (i0 : Int) (n0 : Int) (i : Int) (j : Int) h := by
        intro j h v hj hje
        rw [hje] at k
        have hji : j = 2 * i + 1 ∨ j = 2 * i + 2 := by rw [← hje]; split <;> omega
        unfold F.container_heap_down.j4
        refine ⟨_, rfl, v.ldv (Less_spec v (by omega) (by omega) (ne j hj) (ne i (by omega)) fun h1 e1 => ⟨fun g => ?_, fun g => ⟨_, rfl, ?_⟩⟩)⟩
        · rw [if_neg (by simpa using g)] at k
          unfold F.container_heap_down.j1
          exact k h1 (v.e e1)
        · rw [if_pos (by simpa using g)] at k
          have v1 := v.e e1
          refine v1.ldv (Swap_spec v1 (by omega) (by omega) fun h2 v2 => ?_)
          exact ih j h2 _ (by rw [swp_len]; exact hn) hn0 (by omega) (by omega) v2 (fun q hq => by
            rw [g_swp (by omega) (by omega)]
            split
            · exact ne i (by omega)
            · split
              · exact ne j hj
              · exact ne q hq) k
      have j5 : ∀ (b : Bool) (h : H), FS h0 hk h n s G → (b = decide (2 * i + 2 < n0 ∧ ltF (g G (2 * i + 2)) (g G (2 * i + 1)) = true)) → F.container_heap_down.j5 Q (F.container_heap_down.l2 Q (m + 1)) (some ⟨n, 0, none⟩) (i0 : Int) (n0 : Int) (i : Int) ((2 * i + 1 : Nat) : Int) ((2 * i + 2 : Nat) : Int) b h := by
        intro b h v hb
        unfold F.container_heap_down.j5
        refine ⟨fun g => ?_, fun g => ?_⟩
        · rw [hb] at g
          have hc := of_decide_eq_true g
          exact j4 _ h v hc.1 (if_pos hc)
        · rw [hb] at g
          have hc := of_decide_eq_false g
          exact j4 _ h v (by omega) (if_neg hc)
      refine ⟨fun gg => ⟨_, rfl, v.ldv ?_⟩, fun gg => j5 _ h v ?_⟩
      · have hc : 2 * i + 2 < n0 := by simp at gg; omega
        refine Less_spec v (by omega) (by omega) (ne _ hc) (ne _ (by omega)) fun h1 e1 => j5 _ h1 (v.e e1) ?_
        cases ltF (g G (2 * i + 2)) (g G (2 * i + 1)) <;> simp [hc]
      · have hc : ¬ 2 * i + 2 < n0 := by simp at gg; omega
        simp [hc]
theorem down_spec {n0 i0 : Nat} {Q : Bool → H → Prop} (v : FS h0 hk h n s G) (hn : n0 ≤ G.length) (hn0 : n0 < 1000000) (hi : i0 < 1000000) (ne : ∀ j, j < n0 → (g G j).R ≠ []) (k : ∀ h', FS h0 hk h' n s (dn ltF (n0 - i0) G n0 i0).1 → ∀ b, Q b h') :
    F.container_heap_down (some ⟨n, 0, none⟩) (i0 : Int) (n0 : Int) h Q := by
  unfold F.container_heap_down
  exact ⟨n0 - i0 + 1, down_loop (n0 - i0) i0 h G hn hn0 hi (Nat.le_refl _) v ne fun h' v' => k h' v' _⟩
end
end Go.Proofs.Ytidpbnbjpglhfaa.V
